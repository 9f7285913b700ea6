import Derived.Test.YtflnccklneafnaaGreatDoorZTPQ1
import Derived.Tactics
import Derived.TacticsIn
import Derived.OrdersIn
import Derived.LoopN
import Derived.LoopNIn
import Derived.RangeFuncLeaves
import Derived.RangeFuncRecord
import Derived.RangeFuncSeq
import Derived.Below
import Derived.Scope
import Derived.ChangeSame
import Derived.ChangeSlices
import Derived.WideShapes
import Derived.RowKit
import Derived.WideKeyArgs
import Derived.ChangeArms
import Derived.ChangeReads
import Derived.ChangeMaps5
import Derived.Lib.Bytealg
import Derived.Lib.ItoaNum
import Derived.Lib.SlTrimSet
import Derived.Lib.ValidU
open Array renaming getElem?_toList→mW,getD_eq_getD_getElem?→dp,getElem?_eq_some_iff→j6,length_toList→vl,getElem?_push→Is,getElem?_eq_getElem→q9,eq_empty_of_size_eq_zero→zw,replicate→zx,getElem?_append_left→xI,toList_map→Nf,size_append→Nu,getElem?_append_right→Uz,getElem?_replicate→OC
open Bool renaming false_eq_true→fK,and_eq_true→cO,or_eq_true→xv,and_self→NN,not_eq_true'→rj,or_false→x1,false_or→Jl,and_eq_false_iff→OB
open Go.Builtin renaming firstCells→iK,append_→q',copy_→Fa
open Go.Call renaming operands→N8
open Go.Instr renaming sureAddr→zc
open Go.Region renaming before→qa,binds→vI,ready→Fz
open Go.Result renaming andThen_ok→ek
open Go.RowKit renaming Below→Jp
open Go.RowKit.Below renaming heap_alloc→z1
open Go.Sem renaming run_bind→dU,run_pure→eL,run→ua
open Go.Value renaming cells→sg,oneCell'→MN
open Go.World renaming cell?→sf,putObj_heap_other→FP,size_alloc→OI
open List renaming replicate→cy,range'→lN,length_eq_zero_iff→qe,map_cons→fk,mem_cons→mU,pairwise_cons→vg,getElem?_map→fA,getElem?_eq_some_iff→bF,getElem?_take→nZ,getElem?_drop→q5,getElem?_append_left→en,getElem?_append_right→ha,getElem?_eq_getElem→eT,length_append→dd,foldl_cons→zo,all_eq_true→oH,length_cons→cT,append_assoc→dV,mapM_cons→MR,getElem?_set_ne→dC,set_getElem_self→BN,getElem?_set_self→ks,append_nil→c_,set_append_right→xB,set_set→vn,nil_append→gM,getElem?_append→tZ,mem_of_getElem?→jG,length_nil→dx,getElem_of_mem→EW,length_set→jI,take→eo,getElem?_cons_zero→qn,size_toArray→IG,length_take→gE,length_drop→ic,mem_append→fT,getElem?_eq_none→sl,length_pos_iff→NF,ext_getElem?→Fh,getElem?_cons_succ→jM,nodup_cons→Fj,mem_filter→NY,map_congr_left→zM,getD_cons_zero→Cg,pairwise_append→Oj,length→Ci,set_comm→oa,set_append_left→vK,mem_map→FG,map_nil→fp,take_zero→nc,take_succ_cons→vM,mem_range→zU,getD_eq_getElem?_getD→oV,drop_zero→iy,drop_eq_getElem_cons→ji,drop_length→nd,length_eq_one_iff→Ww
open List.cons renaming injEq→BQ
open Nat renaming lt_of_lt_of_le→xf,le_refl→cQ,le_trans→sd,add_zero→fc,mul_le_mul_right→j5,add_mul→hj,zero_add→cq,mul_comm→vi,div_add_mod→zi,add_assoc→tT,mul_one→H',sub_self→qk,min_eq_left→NA,not_le→e8,add_comm→qv,zero_le→ig,not_lt_zero→rz,le_max_left→Ct,le_max_right→Cu
open Ne renaming symm→ba
open Option renaming map_eq_some_iff→c0,bind_eq_some_iff→BK,getD_some→iM,map_some→d',ext→z_
open Option.some renaming inj→qf,injEq→bj
open Prod.mk renaming injEq→bA
namespace Go.VI
set_option maxRecDepth 100000
set_option maxHeartbeats 40000000
set_option linter.unusedVariables false
set_option linter.unusedSimpArgs false
set_option linter.defProp false
section
variable{E:Env}{ad:cb}{ac:b9}{H:aa}{w:World}
def akN(aq:b6 E ad ac H w){t t2 ed:TypeId}{z:Nat}{s x v:U}{cS ls:Value}{ap:aa}(h:tK E H t t2 z s x=some (v,ap))(fX:a7 ad ac H s cS)(rx:a7 ad ac H x ls):
  ∃u ar,(q' #[t,t2] ed #[cS,ls]).run E.P w=.ok u ar∧cl E ad ac H w ap ar λ aN aC=>a7 aN aC ap v u:=by
 unfold tK at h;split at h;rotate_left
 ·cases h
 rename_i hz;obtain⟨e,b,dZ,he,bg,ak,hzero,fg,n5,pt,zD⟩:=IR hz;obtain⟨lo,Ns,E8⟩:=Uo hzero pt zD;have IS:=T' (P:=E.P) (t:=t2) (.inl n5);unfold va at h;split at h;rotate_left
 ·cases h
 rename_i d new H1 xN;obtain⟨g2,off,s2,c9,_,m',b',fC,rfl,eA,a2,IT,rfl,mw,ka,pC,_⟩:=IN E.P aq rx xN;have ft:d<H.length:=(bF.1 m').1;have pz:∀(i:Nat) (y:bS),i<new.length→c9[off+i]?=some y→mj ad ac w z d (off+i) y (eA.getD i undef):=λ i y aA aZ=>pC i y (by rw[fC i aA];exact aZ)
 let Nt:List (List aD):=cy new.length []
 have n7:Nt.length=new.length:=by simp[Nt]
 have grow:∀(base:Option Addr) (ae cap:Nat) (gO:Array Value),(∀ar:World,ar.heap=w.heap→(iK 1 ae (.slice base ae cap)).run E.P ar=.ok gO ar)→gO.size=ae→cap<ae+new.length→ae+new.length<1073741824→
   ∃ar iL iO,(q' #[t,t2] ed #[.slice base ae cap,.slice a2 new.length IT]).run E.P w=.ok (.slice (some ⟨w.heap.size,0,none⟩) (ae+new.length) iL) ar∧ae+new.length≤iL∧ar.heap=w.heap.push (.cells iO e)∧ar.os=w.os∧ar.tape=w.tape∧ar.output=w.output∧
    iL≤iO.size∧(∀ab,ab<ae→iO.getD ab undef=gO.getD ab undef)∧(∀ab,ab<new.length→iO.getD (ae+ab) undef=eA.getD ab undef):=by
  intro base ae cap gO j J aw bb;obtain⟨ar,iL,g1,g2,g3,g4,g5,g6⟩:=Ua (w:=w) (ed:=ed) (t2:=t2) (rows:=([]:List (List aD))) (new:=Nt) (y:=.slice a2 new.length IT) he bg ak Ns IS (λ ar _=>by rw[n7];exact BY ar) (by rw[n7];exact aw) (by rw[n7];exact bb) fg j (by rw[n7];exact mw) E8;rw[n7]at g1 g2 g3;refine⟨ar,iL,_,g1,g2,g3,g4,g5,g6,?_,λ ab a'=>?_,λ ab a'=>?_⟩
  ·simp only[Nu,J,ka,T_,E8];omega
  ·simp[dp,Array.append_assoc,xI (show ab<gO.size by omega)]
  ·rw[dp,Array.append_assoc,Uz R,J,show ae+ab-ae=ab by omega,xI R,←dp]
 have BZ:∀{ar:World} {aj:Obj},ar.heap=w.heap.push aj→∀b,b<w.heap.size→ar.heap[b]?=w.heap[b]?:=by intro ar aj hw b ak;rw[hw,Is,if_neg R]
 split at h
 ·rename_i ay;split at h;rotate_left
  ·cases h
  rename_i hlen;simp only[bj,bA]at h;obtain⟨rfl,rfl⟩:=h;obtain⟨a,rfl⟩:∃a,cS=.slice a 0 0:=by
   cases iI fX with
   |nil ay ex a cap al=>exact⟨a,by rw[al rfl]⟩
   |ae ay rows ex b off cap cs elem bl dB cd ah al ai j J=>exact⟨_,by rw[al rfl];rfl⟩
  have Nv:(H.set d (Chunk.ax z g2 (s2+1) (e' c9 off new.length))).length=H.length:=by simp
  by_cases aV:new.length=0
  ·have xO:new=[]:=qe.1 aV;subst xO;have s':eA=#[]:=zw ka;refine⟨_,w,E2 he bg IS (BY w) (cQ _) (by rw[←s'];exact mw w rfl),?_⟩;obtain⟨ej,dY,oK,gP,na,_⟩:=BX aq m' (g1:=g2) (s1:=s2+1) (ub:=e' c9 off 0) (.inr ⟨rfl,R,by rw[sk]⟩) (by rw[sk];exact cQ _) (λ i y aZ=>by rw[sk]at aZ;exact aZ);obtain⟨e2,ez,ie,gT,j',pB⟩:=Nr oK z a;exact⟨e2,ez,ie,gP.trans gT,na.trans j',pB⟩
  ·obtain⟨ar,iL,iO,bG,bH,cG,eZ,l1,vy,B0,_,vz⟩:=grow a 0 0 #[] (λ ar _=>by cases a<;>simp[iK,loadCells,loadCellsFrom]) rfl R R;rw[cq]at bG;refine⟨_,ar,bG,?_⟩;rw[Nv];have gf:ac (⟨H.length,0⟩:fj)=none:=by
    cases h:ac (⟨H.length,0⟩:fj)with
    |none=>rfl
    |some p=>have:=aq.Bz (c:=H.length) (b:=p.1) (n:=p.2) h;omega
   refine BT aq (c:=H.length) (d:=d) (p:=0) (rows:=[]) (cs:=#[]) (eA:=eA) (fo:=w.heap.size) (iO:=iO) (ao:=e) (vv:=(0,0)) (ar:=ar) (n:=new.length) (off:=off) (eF:=new) (g1:=0) (s1:=0) (z:=z) (g2:=g2) (s2:=s2) (c9:=c9)
     R m' b' (by simp) (by rw[ha (by simp)];simp) (by rw[en (by simpa using ft)];simp[ft]) (λ e j J=>?_) (λ h=>R) (xC cG) (ps _) R (.inr (cQ _)) (λ b ak _=>BZ cG b ak) (by rw[cG];simp) eZ l1 vy
    pz (λ ab y a'=>by simp at a') (λ ab y a'=>?_) (λ aC g'=>?_)
   ·by_cases aw:e<H.length
    · rw[en (by simpa using aw),dC (ba J)]
    · rw[sl (by simp;omega),sl R]
   ·have lm:=(bF.1 a').1;exact .inl ⟨ab,lm,R,by rw[←fC ab lm];exact a',by have:=vz ab lm;rwa [cq]at this⟩
   ·have oF:(H.set d (Chunk.ax z g2 (s2+1) (e' c9 off new.length))++[Chunk.ax z 0 0 new])[H.length]?=some (.ax z 0 0 new):=by rw[ha (by simp)];simp
    refine .x _ _ ⟨by simp,⟨_,_,rfl⟩,λ db aY dH eF h=>?_⟩ (.d oF);rw[ha (by simp)]at h;simp at h;obtain⟨rfl,rfl,rfl,rfl⟩:=h;exact⟨cQ _,λ _=>⟨R,_,_,rfl,.inr ⟨_,_,g',R,R,.inl rfl⟩⟩⟩
 ·rename_i c g len;unfold Br at h;split at h;rotate_left
  ·cases h
  rename_i db aY dH rows zE;split at h;rotate_left
  ·cases h
  rename_i Nw;obtain⟨rfl,rfl,e7,hlen,py⟩:=Nw;simp only[bj,bA]at h;obtain⟨rfl,rfl⟩:=h;have nA:H[c]?=some (.ax z g dH rows):=by rw[dC (ba e7)]at zE;exact zE
  have cg:c<H.length:=(bF.1 nA).1;obtain⟨_,a,cap,rfl,fm⟩:=((xH fX).2.2 _ _ _ _ nA).2 rfl;have E9:((H.set d (Chunk.ax z g2 (s2+1) (e' c9 off new.length))).set c (.ax z (g+1) 0 (rows.take len++new)))[c]?=some (.ax z (g+1) 0 (rows.take len++new)):=by simp[cg]
  have E_:((H.set d (Chunk.ax z g2 (s2+1) (e' c9 off new.length))).set c (.ax z (g+1) 0 (rows.take len++new)))[d]?=some (.ax z g2 (s2+1) (e' c9 off new.length)):=by rw[dC e7];simp[ft]
  have rc:∀e,e≠c→e≠d→((H.set d (Chunk.ax z g2 (s2+1) (e' c9 off new.length))).set c (.ax z (g+1) 0 (rows.take len++new)))[e]?=H[e]?:=λ e j J=>by rw[dC (ba j),dC (ba J)]
  have zF:∀(aN:cb) (aC:b9) (a:Option Addr) (cap:Nat),EC aC c (len+new.length) 0 (len+new.length) (.slice a (len+new.length) cap)→a7 aN aC ((H.set d (Chunk.ax z g2 (s2+1) (e' c9 off new.length))).set c (.ax z (g+1) 0 (rows.take len++new))) (.x (.d c (g+1) 0 (len+new.length))) (.slice a (len+new.length) cap):=by intro aN aC a cap ai;refine .x _ _ ⟨by simpa using cg,⟨_,_,rfl⟩,λ db aY dH eF h=>?_⟩ (.ax E9);rw[E9]at h;cases h;refine⟨cQ _,λ _=>?_⟩;rw[show(rows.take len++new).length=len+new.length by simp;omega];exact ai
  have Nx:∀(ab:Nat) (y:bS),(rows.take len++new)[ab]?=some y→(∃i,i<new.length∧ab=len+i∧new[i]?=some y)∨(ab<len∧rows[ab]?=some y):=by
   intro ab y a';rw[tZ]at a';have ao:(rows.take len).length=len:=by simp;omega
   rw[ao]at a';split at a'
   ·rename_i bf;rw[nZ,if_pos bf]at a';exact .inr ⟨bf,a'⟩
   ·exact .inl ⟨ab-len,(bF.1 a').1,R,a'⟩
  by_cases aV:new.length=0
  ·have xO:new=[]:=qe.1 aV;subst xO;have s':eA=#[]:=zw ka;have j7:len≤cap:=by
    rcases fm with⟨j,J⟩|⟨_,_,_,aw,_⟩
    · rcases aq.b7 _ _ nA with⟨_,cw⟩|⟨b,cs,elem,bl,ch,_⟩
      ·subst cw;simp at hlen;omega
      ·rw[j]at ch;cases ch
    · omega
   refine⟨_,w,E2 he bg IS (BY w) j7 (by rw[←s'];exact mw w rfl),?_⟩;obtain⟨ej,dY,oK,gP,na,ao,aI⟩:=BX aq m' (g1:=g2) (s1:=s2+1) (ub:=e' c9 off 0) (.inr ⟨rfl,R,by rw[sk]⟩) (by rw[sk];exact cQ _) (λ i y aZ=>by rw[sk]at aZ;exact aZ);subst ao aI;obtain⟨e2,ez,ie,gT,j',bE,c6⟩:=BX oK zE (g1:=g+1) (s1:=0) (ub:=rows.take len++[]) (.inl R) (by simp;omega) (λ i y aZ=>by
    rw[c_,nZ]at aZ;split at aZ
    · exact aZ
    · cases aZ)
   subst bE c6;refine⟨_,_,ie,gP.trans gT,na.trans j',zF _ _ _ _ ⟨by simp,_,_,rfl,?_⟩⟩;rcases fm with j|⟨b,m,j,J,aw,bb⟩
   ·exact .inl j
   ·exact .inr ⟨b,m,j,by simp;omega,aw,bb⟩
  ·rcases aq.b7 _ _ nA with⟨ch,cw⟩|⟨cV,cs,elem,bl,cf,m_,gK,ey,el⟩
   ·subst cw;obtain rfl:len=0:=by simpa using hlen
    obtain rfl:cap=0:=by
      rcases fm with⟨_,J⟩|⟨_,_,j,_⟩
      ·exact J
      ·rw[ch]at j;cases j
    obtain⟨ar,iL,iO,bG,bH,cG,eZ,l1,vy,B0,_,vz⟩:=grow a 0 0 #[] (λ ar _=>by cases a<;>simp[iK,loadCells,loadCellsFrom]) rfl R R;refine⟨_,ar,bG,?_⟩;refine BT aq (c:=c) (d:=d) (p:=0) (rows:=[]) (cs:=#[]) (eA:=eA) (fo:=w.heap.size) (iO:=iO) (ao:=e) (vv:=(0,0)) (ar:=ar) (n:=new.length) (off:=off) (eF:=eo 0 []++new) (g1:=g+1) (s1:=0) (z:=z) (g2:=g2) (s2:=s2) (c9:=c9)
      e7 m' b' (by simp) E9 E_ rc (λ _=>⟨_,_,_,_,nA,.inl R⟩) (xC cG) (ps _) (by simp;omega) (.inr (cQ _)) (λ b ak _=>BZ cG b ak) (by rw[cG];simp) eZ l1 vy pz (λ ab y a'=>by simp at a') (λ ab y a'=>?_) (λ aC g'=>?_)
    · rcases Nx ab y a' with⟨i,aA,rfl,aZ⟩|⟨j,_⟩
      ·exact .inl ⟨i,aA,rfl,by rw[←fC i aA];exact aZ,vz i aA⟩
      ·omega
    · exact zF _ _ _ _ ⟨R,_,_,rfl,.inr ⟨_,_,g',R,R,.inl rfl⟩⟩
   ·rcases fm with⟨j,_⟩|⟨bV,m,j,pA,jJ,uc⟩
    · rw[cf]at j;cases j
    rw[cf]at j;cases j;by_cases Ny:len+new.length≤cap
    · rcases uc with rfl|⟨_,J⟩;rotate_left
      ·omega
      have sj:∀v∈eA.toList,v.oneCell'=true:=by
       intro v bi;obtain⟨ab,a',rfl⟩:=EW bi;have lm:ab<eA.size:=by simpa using a'
       have:=(pC ab _ (eT R)).one;simpa[dp,lm]using this
      obtain⟨ar,hL,bG,bH,cG,eZ,l1,vy,B0,ta,vz⟩:=vp E.P cV (0+len*1) elem bl eA.toList 0 cs w m_ gK (by simp;omega) sj;refine⟨_,ar,Uc he bg IS (BY w) Ny (mw w rfl) bG,?_⟩;have kv:∀ab,hL.getD ab undef=if len≤ab∧ab<len+new.length then eA.getD (ab-len) undef else cs.getD ab undef:=by
       intro ab;rw[dp,vz];simp only[fc,vl,ka,cq,H'];split
       ·rw[mW,dp]
       ·rw[dp]
      refine BT aq (c:=c) (d:=d) (p:=len) (rows:=rows) (cs:=cs) (eA:=eA) (fo:=cV) (iO:=hL) (ao:=elem) (vv:=bl) (ar:=ar) (n:=new.length) (off:=off) (eF:=rows.take len++new) (g1:=g+1) (s1:=0) (z:=z) (g2:=g2) (s2:=s2) (c9:=c9)
       e7 m' b' (by simp) E9 E_ rc (λ _=>⟨_,_,_,_,nA,.inl R⟩) bH (by rw[ta];exact gK) (by rw[ta];simp;omega) (.inl (by rw[ta];exact cf)) (λ b ak aF=>cG b λ e=>aF _ (e▸cf)) (by rw[eZ];exact cQ _) l1 vy B0 pz el (λ ab y a'=>?_) (λ aC g'=>?_)
      ·rcases Nx ab y a' with⟨i,aA,rfl,aZ⟩|⟨j,J⟩
       ·exact .inl ⟨i,aA,rfl,by rw[←fC i aA];exact aZ,by rw[kv,if_pos R,show len+i-len=i by omega]⟩
       ·exact .inr ⟨R,J,by rw[kv,if_neg R]⟩
      ·exact zF _ _ _ _ ⟨R,_,_,rfl,.inr ⟨_,_,g',R,by rw[ta];omega,.inl rfl⟩⟩
    · obtain⟨gO,cr,sn,vA⟩:∃gO:Array Value,(∀ar:World,ar.heap=w.heap→(iK 1 len (.slice a len cap)).run E.P ar=.ok gO ar)∧gO.size=len∧∀(ab:Nat) (y:bS),(rows.take len)[ab]?=some y→mj ad ac w z c ab y (gO.getD ab undef):=by
       have aS:lK z H (.x (.d c g 0 len))=some (c,(rows.drop 0).take len,H.set c (.ax z g (dH+1) (e' rows 0 len))):=by simp only[lK,u',nA];rw[if_pos ⟨trivial,trivial,R⟩]
       obtain⟨g3,aRk,ud,aRl,mu,ch,cw,fl,jb,gO,a3,aRm,ml,xg,UA,akO,_⟩:=IN E.P aq fX aS;have IU:((rows.drop 0).take len).length=len:=by simp;omega
       simp only[U.x.injEq,cP.d.injEq]at mu;obtain⟨_,_,rfl,_⟩:=mu;rw[IU]at xg UA;refine⟨gO,xg,UA,λ ab y a'=>?_⟩;have:=akO ab y (by simpa using a');rwa [cq]at this
      obtain⟨ar,iL,iO,bG,bH,cG,eZ,l1,vy,B0,ta,vz⟩:=grow a len cap gO cr sn R py;refine⟨_,ar,bG,?_⟩;refine BT aq (c:=c) (d:=d) (p:=len) (rows:=rows.take len) (cs:=gO) (eA:=eA) (fo:=w.heap.size) (iO:=iO) (ao:=e) (vv:=(0,0)) (ar:=ar) (n:=new.length) (off:=off) (eF:=rows.take len++new) (g1:=g+1) (s1:=0) (z:=z) (g2:=g2) (s2:=s2) (c9:=c9)
       e7 m' b' (by simp) E9 E_ rc (λ _=>⟨_,_,_,_,nA,.inl R⟩) (xC cG) (ps _) (by simp;omega) (.inr (cQ _)) (λ b ak _=>BZ cG b ak) (by rw[cG];simp) eZ l1 vy pz vA (λ ab y a'=>?_) (λ aC g'=>?_)
      ·rcases Nx ab y a' with⟨i,aA,rfl,aZ⟩|⟨j,J⟩
       ·exact .inl ⟨i,aA,rfl,by rw[←fC i aA];exact aZ,vz i aA⟩
       ·exact .inr ⟨R,by rw[nZ,if_pos j];exact J,ta ab j⟩
      ·exact zF _ _ _ _ ⟨R,_,_,rfl,.inr ⟨_,_,g',R,R,.inl rfl⟩⟩
 ·cases h
def akP(aq:b6 E ad ac H w){t t2 ed:TypeId}{z:Nat}{x y v:U}{E' ls:Value}{ap:aa}(h:qT E H t z x y=some (v,ap))(rd:a7 ad ac H x E')(rx:a7 ad ac H y ls):
  ∃u ar,(Fa #[t,t2] ed #[E',ls]).run E.P w=.ok u ar∧cl E ad ac H w ap ar λ aN aC=>a7 aN aC ap v u:=by
 unfold qT at h;split at h;rotate_left
 ·cases h
 rename_i hz;obtain⟨e,b,dZ,he,bg,ak,hzero,fg,n5,pt,zD⟩:=IR hz;unfold y5 at h;split at h;rotate_left
 ·cases h
 rename_i d new H1 xN;obtain⟨g2,off,s2,c9,_,m',b',fC,rfl,eA,a2,IT,rfl,mw,ka,pC,_⟩:=IN E.P aq rx xN;have ft:d<H.length:=(bF.1 m').1;have pz:∀(i:Nat) (y:bS),i<new.length→c9[off+i]?=some y→mj ad ac w z d (off+i) y (eA.getD i undef):=λ i y aA aZ=>pC i y (by rw[fC i aA];exact aZ)
 split at h;rotate_left
 ·cases h
 rename_i c g p len;unfold Bs at h;split at h;rotate_left
 ·cases h
 rename_i db aY dH rows zE;split at h;rotate_left
 ·cases h
 rename_i Nw;obtain⟨rfl,rfl,e7,hlen,Nz⟩:=Nw;simp only[bj,bA]at h;obtain⟨rfl,rfl⟩:=h;have nA:H[c]?=some (.ax z g dH rows):=by rw[dC (ba e7)]at zE;exact zE
 have cg:c<H.length:=(bF.1 nA).1;obtain⟨_,a,cap,rfl,fm⟩:=((xH rd).2.2 _ _ _ _ nA).2 rfl;have zG:Nat.min new.length len=new.length:=NA Nz;by_cases aV:new.length=0
 ·have xO:new=[]:=qe.1 aV;subst xO;have s':eA=#[]:=zw ka;have zH:(iK 1 0 (.slice a2 0 IT)).run E.P w=.ok #[] w:=by rw[←s'];exact mw w rfl
  refine⟨.int .i64 0,w,?_,?_⟩
  ·have hm:Nat.min 0 len=0:=Nat.zero_min _;cases a<;>simp[Fa,run_underlying (h' he),(gJ bg w).1,BY w,hm,zH,storeCells,goInt]
  ·obtain⟨ej,dY,oK,gP,na,ao,aI⟩:=BX aq m' (g1:=g2) (s1:=s2+1) (ub:=e' c9 off 0) (.inr ⟨rfl,R,by rw[sk]⟩) (by rw[sk];exact cQ _) (λ i y aZ=>by rw[sk]at aZ;exact aZ);subst ao aI;have oL:rows.take p++(([]:List bS)++rows.drop (p+([]:List bS).length))=rows:=by simp
   obtain⟨e2,ez,ie,gT,j',bE,c6⟩:=BX oK zE (g1:=g) (s1:=dH+1) (ub:=rows.take p++(([]:List bS)++rows.drop (p+([]:List bS).length))) (.inr ⟨rfl,R,by rw[oL]⟩) (by rw[oL];exact cQ _) (λ i y aZ=>by rw[oL]at aZ;exact aZ);subst bE c6;exact⟨_,_,ie,gP.trans gT,na.trans j',.i _ _ (.v _ rfl)⟩
 ·rcases aq.b7 _ _ nA with⟨ch,cw⟩|⟨cV,cs,elem,bl,cf,m_,gK,ey,el⟩
  ·subst cw;simp at hlen;omega
  ·rcases fm with⟨j,_⟩|⟨bV,m,j,pA,jJ,uc⟩
   ·rw[cf]at j;cases j
   rw[cf]at j;cases j;rcases uc with rfl|⟨j,_⟩;rotate_left
   ·omega
   have sj:∀v∈eA.toList,v.oneCell'=true:=by
    intro v bi;obtain⟨ab,a',rfl⟩:=EW bi;have lm:ab<eA.size:=by simpa using a'
    have:=(pC ab _ (eT R)).one;simpa[dp,lm]using this
   obtain⟨ar,hL,bG,bH,cG,eZ,l1,vy,B0,ta,vz⟩:=vp E.P cV p elem bl eA.toList 0 cs w m_ gK (by simp;omega) sj;refine⟨.int .i64 new.length,ar,?_,?_⟩
   ·simp[Fa,run_underlying (h' he),(gJ bg w).1,BY w,zG,mw w rfl,bG,goInt]
   have kv:∀ab,hL.getD ab undef=if p≤ab∧ab<p+new.length then eA.getD (ab-p) undef else cs.getD ab undef:=by
    intro ab;rw[dp,vz];simp only[fc,vl,ka];split
    ·rw[mW,dp]
    ·rw[dp]
   have fe:(rows.take p++(new++rows.drop (p+new.length))).length=rows.length:=by simp;omega
   refine BT aq (c:=c) (d:=d) (p:=p) (rows:=rows) (cs:=cs) (eA:=eA) (fo:=cV) (iO:=hL) (ao:=elem) (vv:=bl) (ar:=ar) (n:=new.length) (off:=off) (eF:=rows.take p++(new++rows.drop (p+new.length))) (g1:=g) (s1:=dH+1) (z:=z) (g2:=g2) (s2:=s2) (c9:=c9)
    e7 m' b' (by simp) (by simp[cg]) (by rw[dC e7];simp[ft]) (λ e j J=>by rw[dC (ba j),dC (ba J)]) (λ _=>⟨_,_,_,_,nA,.inr ⟨rfl,rfl,R,fe,by rw[ta];exact cf⟩⟩)
    bH (by rw[ta];exact gK) (by rw[ta,fe];exact ey) (.inl (by rw[ta];exact cf)) (λ b ak aF=>cG b λ e=>aF _ (e▸cf)) (by rw[eZ];exact cQ _) l1 vy B0 pz el (λ ab y a'=>?_) (λ aC _=>.i _ _ (.v _ rfl))
   rw[tZ]at a';have ao:(rows.take p).length=p:=by simp;omega
   rw[ao]at a';split at a'
   ·rename_i bf;rw[nZ,if_pos bf]at a';exact .inr ⟨R,a',by rw[kv,if_neg R]⟩
   ·rename_i bf;rw[tZ]at a';split at a'
    ·rename_i J;refine .inl ⟨ab-p,J,R,by rw[←fC _ J];exact a',?_⟩;rw[kv,if_pos R]
    ·rename_i J;rw[q5,show p+new.length+(ab-p-new.length)=ab by omega]at a';exact .inr ⟨R,a',by rw[kv,if_neg R]⟩
end
section
variable{E:Env}{ad:cb}{ac:b9}{H:aa}{w:World}
def akQ(aq:b6 E ad ac H w){z:Nat}(bg:0<z)(a:Option Addr):cl E ad ac H w (H++[.ae z 0 [] true]) w λ aN aC=>a7 aN aC (H++[.ae z 0 [] true]) (.ref H.length 0 0 0) (.slice a 0 0):=by
 have fC:ac H.length=none:=by
  cases h:ac H.length with
  |none=>rfl
  |some p=>have:=aq.Bz (b:=p.1) (n:=p.2) h;omega
 have hm:fb ad ac H ad ac (H++[.ae z 0 [] true]):=mV (λ _ _ h=>h) (by simp) λ c ah=>jc.same (by rw[en ah]) (λ _=>rfl)
 refine⟨ad,ac,⟨aq.dT,λ c x al=>?_,aq.inj,λ c b n h=>by have:=aq.sep c b n h;exact⟨this.1,this.2.1,by simp;omega⟩,aq.e_⟩,Trans.refl _ _ _,hm,?_⟩
 ·by_cases ah:c<H.length
  ·rw[en ah]at al;exact(aq.b7 c x al).mono (λ _=>rfl) (λ _ _ h=>h) hm (λ _ _ _ _=>rfl)
  ·have:c=H.length:=by have:=(bF.1 al).1;simp at this;omega
   subst this;simp at al;subst al;exact⟨λ e=>R,λ i r h=>by simp at h,.inl ⟨fC,rfl⟩⟩
 ·refine .ref _ _ _ _ _ (by simp) (λ h_ c9 hK h=>?_) (λ _ _ _ h=>by simp at h) ⟨_,_,rfl⟩ (λ _ _ _ _ h=>R);simp at h;obtain⟨rfl,rfl,rfl⟩:=h;exact⟨by simp,_,_,rfl,.inl ⟨fC,rfl⟩⟩
def akR(aq:b6 E ad ac H w){ar:World}{cs:Array Value}{elem:TypeId}(hw:ar.heap=w.heap.push (.cells cs elem))(b':ar.os=w.os)(bq:ar.tape=w.tape)(hu:ar.output=w.output)
  {c z g:Nat}{hh:List (List aD)}{iv:Bool}(aQ:H[c]?=some (.ae z g hh iv)){rows:List (List aD)}{ex:Bool}(bg:0<z)(aK:Flat z rows)(ah:kt ad rows.flatten cs)(hle:rows.length*z≤cs.size)(al:ex=false)
  {n cap:Nat}(aF:n≤rows.length)(j7:rows.length≤cap)(eX:cap*z≤cs.size):
  cl E ad ac H w (H.set c (.ae z (g+1) rows ex)) ar λ aN aC=>a7 aN aC (H.set c (.ae z (g+1) rows ex)) (.ref c (g+1) 0 n) (.slice (some ⟨w.heap.size,0,none⟩) n cap):=by
 subst al;have cg:c<H.length:=(bF.1 aQ).1;have hold:∀b,b<w.heap.size→ar.heap[b]?=w.heap[b]?:=by intro b ak;rw[hw,Is,if_neg R]
 let aC:=fS ac c w.heap.size cs.size
 have hy:∀(d:fj) b n,aC d=some (b,n)→(d=⟨c,0⟩∧b=w.heap.size∧n=cs.size)∨(d≠⟨c,0⟩∧ac d=some (b,n)):=by
  intro d b n h;simp only[aC,fS]at h;split at h
  ·cases h;exact .inl ⟨by assumption,rfl,rfl⟩
  ·exact .inr ⟨by assumption,h⟩
 have hm:fb ad ac H ad aC (H.set c (.ae z (g+1) rows false)):=by
  refine mV (λ _ _ h=>h) (by simp) λ d aM=>?_
  by_cases eM:d=c
  ·subst eM;intro y aZ;rcases fB aZ with⟨_,rfl⟩|⟨e,_⟩
   ·exact .inr ⟨z,g,hh,iv,aQ,R⟩
   ·exact absurd rfl e
  ·exact jc.same (by rw[dC (ba eM)]) (λ r=>by simp[aC,fS,eM])
 refine⟨ad,aC,⟨λ b aj ak=>?_,λ d x aM=>?_,λ d hR b n dO j J=>?_,λ d b n h=>?_,aq.e_⟩,⟨b',bq,hu,by rw[hw];simp,λ b ak _=>hold b ak,λ _ _ h=>h,λ _ h=>.inl h,λ d b n h=>?_⟩,hm,?_⟩
 ·have:=aq.dT b aj ak;have bf:b<w.heap.size:=(j6.1 this).1;rw[hold b bf];exact this
 ·rcases fB aM with⟨rfl,rfl⟩|⟨j,J⟩
  ·exact⟨λ e=>R,aK,.inr ⟨w.heap.size,cs,elem,(0,0),by simp[aC,fS],xC hw,ps _,hle,(λ h=>by cases h),kt.rows aK ah⟩⟩
  ·exact(aq.b7 _ _ J).mono (λ r=>by simp[aC,fS,j]) (λ _ _ h=>h) hm (λ r b n h=>hold b (aq.sep _ _ _ h).2.1)
 ·rcases hy _ _ _ j with⟨rfl,rfl,rfl⟩|⟨ao,aI⟩
  ·rcases hy _ _ _ J with⟨e,_,_⟩|⟨_,bE⟩
   ·exact e.symm
   ·have:=(aq.sep _ _ _ bE).2.1;omega
  ·rcases hy _ _ _ J with⟨e,rfl,_⟩|⟨_,bE⟩
   ·have:=(aq.sep _ _ _ aI).2.1;omega
   ·exact aq.inj _ _ _ _ _ aI bE
 ·rcases hy _ _ _ h with⟨rfl,rfl,rfl⟩|⟨_,ao⟩
  ·refine⟨?_,by rw[hw];simp,by simpa using cg⟩;cases cd:ad w.heap.size with
   |none=>rfl
   |some aj=>have:=aq.dT _ _ cd;simp at this
  ·have:=aq.sep _ _ _ ao;exact⟨this.1,by rw[hw];simp;omega,by simpa using this.2.2⟩
 ·rcases hy _ _ _ h with⟨rfl,rfl,rfl⟩|⟨_,ao⟩
  ·exact .inl (cQ _)
  ·exact .inr ⟨_,_,ao⟩
 ·refine .ref _ _ _ _ _ (by simpa using cg) (λ h_ c9 hK h=>?_) (λ _ _ _ h=>?_) ⟨_,_,rfl⟩ (λ _ _ _ _ h=>?_)
  ·rcases fB h with⟨_,e⟩|⟨e,_⟩
   ·cases e;exact⟨R,_,_,rfl,.inr ⟨w.heap.size,cs.size,by simp[aC,fS],R,by simpa using eX,.inl (by simp)⟩⟩
   ·exact absurd rfl e
  ·rcases fB h with⟨_,e⟩|⟨e,_⟩
   ·cases e
   ·exact absurd rfl e
  ·rcases fB h with⟨_,e⟩|⟨e,_⟩
   ·cases e;omega
   ·exact absurd rfl e
def UB(aq:b6 E ad ac H w){c z g:Nat}{hh:List (List aD)}{iv:Bool}(aQ:H[c]?=some (.ae z g hh iv)){b7:Chunk}(kZ:∃rows ex,b7=.ae z (g+1) rows ex)
  {ar:World}(nz:∀bV,(∀n,ac c≠some (bV,n))→ar.heap[bV]?=w.heap[bV]?)(ey:ar.heap.size=w.heap.size)(b':ar.os=w.os)(bq:ar.tape=w.tape)(hu:ar.output=w.output)
  (hz:fb ad ac H ad ac (H.set c b7)→oD ad ac (H.set c b7) ar c b7){Q:cb→b9→Prop}(eY:fb ad ac H ad ac (H.set c b7)→Q ad ac):cl E ad ac H w (H.set c b7) ar Q:=by
 obtain⟨rows,ex,rfl⟩:=kZ;have cg:c<H.length:=(bF.1 aQ).1;have hm:fb ad ac H ad ac (H.set c (.ae z (g+1) rows ex)):=by
  refine mV (λ _ _ h=>h) (by simp) λ d aM=>?_
  by_cases eM:d=c
  ·subst eM;intro y aZ;rcases fB aZ with⟨_,rfl⟩|⟨e,_⟩
   ·exact .inr ⟨z,g,hh,iv,aQ,R⟩
   ·exact absurd rfl e
  ·exact jc.same (by rw[dC (ba eM)]) (λ _=>rfl)
 refine⟨ad,ac,⟨λ bV aj ak=>?_,λ d x aM=>?_,aq.inj,λ d bV dO aM=>?_,aq.e_⟩,⟨b',bq,hu,by rw[ey];exact cQ _,λ bV ak aF=>nz bV (λ n=>aF c n),λ _ _ h=>h,λ _ h=>.inl h,λ _ _ _ h=>.inr ⟨_,_,h⟩⟩,hm,eY hm⟩
 ·rw[nz bV (λ n e=>by have:=(aq.sep _ _ _ e).1;rw[this]at ak;cases ak)];exact aq.dT _ _ ak
 ·rcases fB aM with⟨rfl,rfl⟩|⟨j,J⟩
  ·exact hz hm
  ·exact(aq.b7 _ _ J).mono (λ _=>rfl) (λ _ _ h=>h) hm λ r bV dO aw=>nz _ λ n e=>j (congrArg fj.c (aq.inj _ _ _ _ _ aw e))
 ·have:=aq.sep _ _ _ aM;exact⟨this.1,by rw[ey];exact this.2.1,by simpa using this.2.2⟩
def akS{a b:List aD}{xs cS:Array Value}(aB:kt ad a xs)(ak:kt ad b cS)(an:xs.size=a.length)(rest:Array Value)(NB:cS.size=b.length):kt ad (a++b) (xs++cS++rest):=by
 intro ab v bi;rw[tZ]at bi;rw[dp,Array.append_assoc];split at bi
 ·rename_i a';have:=aB ab v bi;rw[xI R,←dp];exact this
 ·rename_i a';have J:=(bF.1 bi).1;have:=ak _ v bi;rw[Uz R,xI R,an,←dp];exact this
def NC(aq:b6 E ad ac H w){t t2 ed:TypeId}{s x v:U}{cS ls:Value}{ap:aa}(h:hI E H t t2 s x=some (v,ap))(fX:a7 ad ac H s cS)(rx:a7 ad ac H x ls):
  ∃u ar,(q' #[t,t2] ed #[cS,ls]).run E.P w=.ok u ar∧cl E ad ac H w ap ar λ aN aC=>a7 aN aC ap v u:=by
 unfold hI at h;split at h;rotate_left
 ·cases h
 rename_i e he;split at h;rotate_left
 ·cases h
 rename_i z b dZ db new ND bg ak hzero pz;split at h;rotate_left
 ·cases h
 rename_i ah;obtain⟨gL,fq,xD,Iy,pt,zD⟩:=ah;have n5:=T' Iy;obtain⟨lo,Ns,E8⟩:=Uo hzero pt zD;obtain⟨eA,oF,mw,ka,pC,re⟩:=MY (P:=E.P) aq rx pz gL fq;have grow:∀(rows:List (List aD)) (base:Option Addr) (cap:Nat) (gO:Array Value),(∀ar:World,ar.heap=w.heap→(iK z rows.length (.slice base rows.length cap)).run E.P ar=.ok gO ar)→gO.size=rows.length*z→
   kt ad rows.flatten gO→Flat z rows→cap<rows.length+new.length→rows.length+new.length<1073741824→∀NE,NE=.slice base rows.length cap→
   ∃u ar iL cs,(q' #[t,t2] ed #[NE,ls]).run E.P w=.ok u ar∧u=.slice (some ⟨w.heap.size,0,none⟩) (rows.length+new.length) iL∧ar.heap=w.heap.push (.cells cs e)∧ar.os=w.os∧ar.tape=w.tape∧ar.output=w.output∧
    kt ad (rows++new).flatten cs∧(rows++new).length*z≤cs.size∧rows.length+new.length≤iL∧iL*z≤cs.size:=by
  intro rows base cap gO j J aw bb bu dw NE Fb;subst Fb;obtain⟨ar,iL,g1,g2,g3,g4,g5,g6⟩:=Ua (w:=w) (ed:=ed) (t2:=t2) (rows:=rows) (new:=new) he bg ak Ns n5 (λ ar _=>oF ar) bu dw xD j mw E8;refine⟨_,ar,iL,_,g1,rfl,g3,g4,g5,g6,?_,?_,g2,?_⟩
  ·rw[List.flatten_append];exact akS aw pC (by rw[J,bb.length]) _ (by rw[ka,re.length])
  ·simp only[Nu,J,ka,dd,hj];omega
  ·simp only[Nu,J,ka,T_,E8];rw[←hj,←hj];exact j5 _ R
 split at h
 ·rename_i ay rows ex;split at h;rotate_left
  ·cases h
  rename_i az;obtain⟨BM,fY,vm⟩:=az;subst BM;simp only[bj,bA]at h;obtain⟨rfl,rfl⟩:=h;have lV:=iI fX;have Fb:∃a,cS=.slice a rows.length rows.length:=by
   cases lV with
   |nil ay ex a cap al=>exact⟨a,by rw[al rfl];rfl⟩
   |ae ay rows ex b off cap cs elem bl dB cd ah al ai j J=>exact⟨_,by rw[al rfl]⟩
  obtain⟨a,rfl⟩:=Fb;by_cases fC:new=[]
  ·subst fC;have Fc:rows=[]:=fY.elim id λ q=>absurd rfl q.2
   subst Fc;have s':eA=#[]:=zw (by rw[ka];simp);refine⟨_,w,E2 he bg n5 (oF w) (cQ _) (by rw[←s'];exact mw w rfl),?_⟩;exact akQ aq fq a
  ·have hS:0<new.length:=NF.2 fC;have hold:∃gO:Array Value,(∀ar:World,ar.heap=w.heap→(iK z rows.length (.slice a rows.length rows.length)).run E.P ar=.ok gO ar)∧gO.size=rows.length*z∧kt ad rows.flatten gO∧Flat z rows:=by
    rcases fY with ao|⟨rfl,_⟩
    ·subst ao;refine⟨#[],λ ar _=>?_,by simp,λ ab v h=>by simp at h,λ i r h=>by simp at h⟩;cases a<;>simp[iK,loadCells,loadCellsFrom]
    ·obtain⟨gO,cr,sn,vA,B1,IV⟩:=Ip (P:=E.P) aq.dT fq lV;exact⟨gO,sn,vA,B1,IV⟩
   obtain⟨gO,cr,sn,vA,B1⟩:=hold;obtain⟨u,ar,iL,cs,g1,rfl,g3,g4,g5,g6,g7,g8,g9,g10⟩:=grow rows a rows.length gO cr sn vA B1 R vm _ rfl;have hex:(rows.isEmpty &&new.isEmpty)=false:=by
    cases new with
    |nil=>exact absurd rfl fC
    |cons=>simp
   rw[hex];refine⟨_,ar,g1,?_⟩;have:=zq aq g3 g4 g5 g6 (ex:=false) (n:=rows.length+new.length) (cap:=iL) fq (B1.append re) g7 g8 (λ h=>by cases h) (ps _) (by simp) (by simp;omega) g10;exact this
 ·rename_i c g off len;cases fX with
  |ref c g off len v cg aS aK av aP=>
  split at h
  ·rename_i ay aY rows ex aQ;split at h;rotate_left
   ·cases h
   rename_i az;obtain⟨rfl,rfl,rfl,vm⟩:=az;simp only[bj,bA]at h;obtain⟨rfl,rfl⟩:=h;obtain⟨hle,a,cap,rfl,fm⟩:=aS _ _ _ aQ;obtain⟨IW,hk,kZ⟩:=aq.b7 _ _ aQ;have NG:0<ay:=fq;have Fe:Flat ay rows:=hk;have vB:c<H.length:=cg;have vC:len≤rows.length:=R;have zF:∀(aN:cb) (aC:b9) (eF:List (List aD)) (gd:Bool) (a:Option Addr) (cap:Nat),eF.length=len+new.length→sX aC c ay eF 0 (len+new.length) (.slice a (len+new.length) cap)→a7 aN aC (H.set c (.ae ay (g+1) eF gd)) (.ref c (g+1) 0 (len+new.length)) (.slice a (len+new.length) cap):=by
    intro aN aC eF gd a cap an je;refine .ref _ _ _ _ _ (by simpa using vB) (λ h_ c9 hK h=>?_) (λ _ _ _ h=>?_) ⟨_,_,rfl⟩ (λ _ _ _ _ h=>?_)
    ·rcases fB h with⟨_,e⟩|⟨e,_⟩
     ·cases e;exact je
     ·exact absurd rfl e
    ·rcases fB h with⟨_,e⟩|⟨e,_⟩
     ·cases e
     ·exact absurd rfl e
    ·rcases fB h with⟨_,e⟩|⟨e,_⟩
     ·cases e;omega
     ·exact absurd rfl e
   have BJ:(rows.take len++new).length=len+new.length:=by simp;omega
   have NH:Flat ay (rows.take len++new):=(Flat.take Fe).append re;by_cases Ny:len+new.length≤cap
   ·rcases fm with⟨cf,gf⟩|⟨cV,hn,cf,pA,jJ,uc⟩
    ·subst gf;have hl:len=0:=R;have hA:new=[]:=qe.1 R;subst hl hA;have s':eA=#[]:=zw (by rw[ka];simp);refine⟨_,w,E2 he bg n5 (oF w) (cQ _) (by rw[←s'];exact mw w rfl),?_⟩;have M8:rows=[]:=by
      rcases kZ with⟨_,j⟩|⟨b,_,_,_,j,_⟩
      ·exact j
      ·rw[cf]at j;cases j
     subst M8;refine UB aq aQ ⟨_,_,rfl⟩ (λ _ _=>rfl) rfl rfl rfl rfl (λ hm=>?_) (λ hm=>zF _ _ _ _ _ _ (by simp) ⟨by simp,_,_,rfl,.inl ⟨cf,rfl⟩⟩);exact⟨IW,λ i r h=>by simp at h,.inl ⟨cf,by simp⟩⟩
    ·rcases kZ with⟨j,_⟩|⟨bV,cs,elem,bl,j,hw,gK,ey,sh,el⟩
     ·rw[cf]at j;cases j
     rw[cf]at j;cases j;have UC:∀(ar:World) (hL:Array Value) (Ff:Bool),ar.heap[cV]?=some (.cells hL elem bl)→(∀bV,bV≠cV→ar.heap[bV]?=w.heap[bV]?)→ar.heap.size=w.heap.size→ar.os=w.os→ar.tape=w.tape→ar.output=w.output→hL.size=cs.size→
       kt ad (rows.take len++new).flatten hL→(Ff=true→cs.size=(len+new.length)*ay)→(len+new.length)*ay≤cs.size→∀a,(a=some ⟨cV,0*ay,none⟩∨(len+new.length=0∧cap=0))→
       cl E ad ac H w (H.set c (.ae ay (g+1) (rows.take len++new) Ff)) ar λ aN aC=>a7 aN aC (H.set c (.ae ay (g+1) (rows.take len++new) Ff)) (.ref c (g+1) 0 (len+new.length)) (.slice a (len+new.length) cap):=by
      intro ar hL Ff cC i2 i3 i4 i5 akT IX i8 i9 akU a akV;refine UB aq aQ ⟨_,_,rfl⟩ (λ bV js=>i2 bV (λ e=>js _ (e▸cf))) i3 i4 i5 akT (λ hm=>?_) (λ hm=>zF _ _ _ _ _ _ BJ ⟨R,_,_,rfl,.inr ⟨cV,cs.size,cf,R,jJ,akV⟩⟩);exact⟨IW,NH,.inr ⟨cV,hL,elem,bl,by rw[IX];exact cf,cC,by rw[IX];exact gK,by rw[IX,BJ];exact akU,λ al=>by rw[IX,BJ];exact i9 al,kt.rows NH i8⟩⟩
     have UD:(ex &&rows.isEmpty &&new.isEmpty)=true→cs.size=(len+new.length)*ay:=by intro al;simp only[cO,List.isEmpty_iff]at al;obtain⟨⟨j,rfl⟩,rfl⟩:=al;have:=sh j;simp at this vC⊢;subst vC;simp[this]
     have akW:kt ad (rows.take len).flatten cs:=by
      intro ab v bi;have UE:Flat ay (rows.take len):=Flat.take Fe;have a':=(bF.1 bi).1;rw[UE.length]at a';obtain⟨r,a2,ao,aI,bE⟩:=Io NG UE a';rw[bi]at bE;cases bE;rw[nZ]at ao;split at ao
      ·have:=el _ _ _ _ ao aI;rwa [show ab/ay*ay+ab%ay=ab by rw[vi];exact zi _ _]at this
      ·cases ao
     have MF:(rows.take len).flatten.length=len*ay:=by rw[(Flat.take Fe).length,gE,NA vC]
     rcases uc with rfl|⟨j,J⟩
     ·have Nz:len*ay+eA.size≤cs.size:=by rw[ka,←hj];have:(len+new.length)*ay≤(0+cap)*ay:=j5 _ R;omega
      have sj:∀v∈eA.toList,v.oneCell'=true:=by
       intro v bi;obtain⟨ab,a',rfl⟩:=EW bi;have lm:ab<eA.size:=by simpa using a'
       have NI:ab<new.flatten.length:=by rw[re.length,←ka];exact lm
       have:=ES (pC ab _ (eT NI));simpa[dp,lm]using this
      obtain⟨ar,hL,s1,s2,ud,Fg,NJ,NK,NL,B2,NM⟩:=vp E.P cV (0*ay+len*ay) elem bl eA.toList 0 cs w hw gK (by simp;omega) sj;refine⟨_,ar,Uc he bg n5 (oF w) Ny (mw w rfl) s1,?_⟩;refine UC ar hL _ s2 ud Fg NJ NK NL B2 ?_ UD (by rw[hj];omega) _ (.inl rfl);intro ab v bi;rw[dp,NM];simp only[Nat.zero_mul,cq,fc,vl];rw[List.flatten_append,tZ,MF]at bi;split at bi
      ·rw[if_neg R,←dp];exact akW ab v bi
      ·have aw:=(bF.1 bi).1;rw[re.length,←ka]at aw;rw[if_pos R,mW,←dp];exact pC _ v bi
     ·subst j J;have hA:new=[]:=qe.1 R;subst hA;have s':eA=#[]:=zw (by rw[ka];simp);refine⟨_,w,E2 he bg n5 (oF w) (cQ _) (by rw[←s'];exact mw w rfl),?_⟩;exact UC w cs _ hw (λ _ _=>rfl) rfl rfl rfl rfl rfl (by intro ab v h;simp at h) UD (by simp) a (.inr ⟨rfl,rfl⟩)
   ·have hold:∃gO:Array Value,(∀ar:World,ar.heap=w.heap→(iK ay (rows.take len).length (.slice a (rows.take len).length cap)).run E.P ar=.ok gO ar)∧gO.size=(rows.take len).length*ay∧kt ad (rows.take len).flatten gO:=by
     have an:(rows.take len).length=len:=by simp;omega
     by_cases hl:len=0
     ·subst hl;refine⟨#[],λ ar _=>?_,by simp,λ ab v h=>by simp at h⟩;cases a<;>simp[iK,loadCells,loadCellsFrom]
     ·rcases fm with⟨cf,gf⟩|⟨cV,hn,cf,pA,jJ,uc⟩
      ·exfalso;rcases kZ with⟨_,j⟩|⟨b,_,_,_,j,_⟩
       ·subst j;simp at hle;omega
       ·rw[cf]at j;cases j
      ·rcases kZ with⟨j,_⟩|⟨bV,cs,elem,bl,j,hw,gK,ey,sh,el⟩
       ·rw[cf]at j;cases j
       rw[cf]at j;cases j;rcases uc with rfl|⟨j,_⟩
       ·obtain⟨cI,d1,d2,d3⟩:=TU (P:=E.P) (ad:=ad) NG Fe hw ey el 0 len R;refine⟨cI,λ ar ql=>by rw[an];exact d1 ar ql,by rw[an];exact d2,by simpa using d3⟩
       ·omega
    obtain⟨gO,cr,sn,vA⟩:=hold;have an:(rows.take len).length=len:=by simp;omega
    obtain⟨u,ar,iL,cs,g1,rfl,g3,g4,g5,g6,g7,g8,g9,g10⟩:=grow (rows.take len) a cap gO cr sn vA (Flat.take Fe) (by rw[an];omega) (by rw[an];exact vm) (.slice a len cap) (by rw[an]);rw[an]at g1 g9;have akX:0<new.length:=by
     rcases fm with⟨cf,gf⟩|⟨cV,hn,cf,pA,jJ,uc⟩
     ·rcases kZ with⟨_,j⟩|⟨b,_,_,_,j,_⟩
      ·subst j;simp at vC;omega
      ·rw[cf]at j;cases j
     ·omega
    have hex:(ex &&rows.isEmpty &&new.isEmpty)=false:=by
     cases new with
     |nil=>simp at akX
     |cons=>simp
    rw[hex];exact⟨_,ar,g1,akR aq g3 g4 g5 g6 aQ (ex:=false) NG NH g7 g8 rfl R R g10⟩
  ·rename_i ay aY rows ex aQ;split at h;rotate_left
   ·cases h
   rename_i az;obtain⟨rfl,rfl,rfl,rfl,rfl,akY,akZ⟩:=az;simp only[bj,bA]at h;obtain⟨rfl,rfl⟩:=h;obtain⟨hle,lV⟩:=aK _ _ _ aQ;have ao:(rows.drop 0).take rows.length=rows:=by simp
   rw[ao]at lV;simp only[cq,decide_true,NN]at lV;have Fb:∃a,cS=.slice a rows.length rows.length:=by
    generalize iw:rows=bR at lV;cases lV with
    |nil ay ex a cap al=>exact⟨a,by rw[al rfl];rfl⟩
    |ae ay rows ex b off cap cs elem bl dB cd ah al ai j J=>exact⟨_,by rw[al rfl]⟩
   obtain⟨a,rfl⟩:=Fb;have hS:0<new.length:=NF.2 akY;obtain⟨gO,cr,sn,vA,B1,IV⟩:=Ip (P:=E.P) aq.dT fq lV;obtain⟨u,ar,iL,cs,g1,rfl,g3,g4,g5,g6,g7,g8,g9,g10⟩:=grow rows a rows.length gO sn vA B1 IV R akZ _ rfl;refine⟨_,ar,g1,?_⟩;have:=zq aq g3 g4 g5 g6 (ex:=false) (n:=rows.length+new.length) (cap:=iL) fq (IV.append re) g7 g8 (λ h=>by cases h) (ps _) (by simp) (by simp;omega) g10;exact this
  ·cases h
 ·cases h
def ak0(aq:b6 E ad ac H w){t t2 ed:TypeId}{z:Nat}{s x v:U}{cS ls:Value}{ap:aa}(h:qU E H t t2 z s x=some (v,ap))(fX:a7 ad ac H s cS)(rx:a7 ad ac H x ls):
  ∃u ar,(q' #[t,t2] ed #[cS,ls]).run E.P w=.ok u ar∧cl E ad ac H w ap ar λ aN aC=>a7 aN aC ap v u:=by
 unfold qU at h;split at h
 ·exact NC aq h fX rx
 ·exact akN aq h fX rx
def UF{P:Program}(a:Addr):∀(n i:Nat) (acc cs:Array Value),(loadCellsFrom a i n acc).run P w=.ok cs w→acc.size≤cs.size∧(∀ab,ab<acc.size→cs[ab]?=acc[ab]?)∧
  ∀m,m≤n→∃cI,(loadCellsFrom a i m acc).run P w=.ok cI w∧cI.size=acc.size+m∧∀ab,ab<acc.size+m→cI[ab]?=cs[ab]?
 |0,i,acc,cs,h=>by simp only[loadCellsFrom,eL]at h;cases h;exact⟨cQ _,λ _ _=>rfl,λ m hm=>⟨acc,by rw[Nat.le_zero.1 hm];rfl,R,λ _ _=>rfl⟩⟩
 |n+1,i,acc,cs,h=>by
  have bi:∃v,(load (a.add i)).run P w=.ok v w∧(loadCellsFrom a (i+1) n (acc.push v)).run P w=.ok cs w:=by
   simp only[loadCellsFrom,dU]at h;rw[run_load]at h⊢;split at h
   ·rename_i v ah;exact⟨v,rfl,h⟩
   ·rename_i ah;split at h
    ·rename_i v _ aO;exact⟨v,rfl,h⟩
    ·cases h
  obtain⟨v,j,J⟩:=bi;obtain⟨bG,bH,cG⟩:=UF a n (i+1) (acc.push v) cs J;simp only[Array.size_push]at bG bH cG;have eZ:∀ab,ab<acc.size→cs[ab]?=acc[ab]?:=λ ab a'=>by rw[bH ab R,Array.getElem?_push_lt a',q9 a']
  refine⟨R,eZ,λ m hm=>?_⟩;cases m with
  |zero=>exact⟨acc,rfl,rfl,λ ab a'=>(eZ ab a').symm⟩
  |succ m=>obtain⟨cI,ao,aI,bE⟩:=cG m R;exact⟨cI,by simp only[loadCellsFrom,dU,j,ek];exact ao,R,λ ab a'=>bE ab R⟩
def ak1{P:Program}{size n N l cap:Nat}{a:Option Addr}{cs:Array Value}(h:(iK size N (.slice a l cap)).run P w=.ok cs w)(aS:cs.size=N*size)(aF:n≤N):
  ∃cI,(iK size n (.slice a l cap)).run P w=.ok cI w∧cI.size=n*size∧∀ab,ab<n*size→cI[ab]?=cs[ab]?:=by
 have hle:n*size≤N*size:=j5 _ aF;cases a with
 |none=>simp only[iK,eL]at h;cases h;simp only[Array.size_empty,IG,dx]at aS;exact⟨#[],by simp[iK],by simp;omega,λ _ _=>rfl⟩
 |some a=>simp only[iK,loadCells]at h⊢;obtain⟨_,_,aw⟩:=UF a _ 0 #[] cs h;obtain⟨cI,ao,aI,bE⟩:=aw _ hle;exact⟨cI,ao,by simpa using aI,λ ab a'=>bE ab (by simpa using a')⟩
def ak2{x:U}{r:Nat×List (List aD)×Bool}(h:hP H x=some r):kU H x=some r:=by
 unfold kU;split
 ·simp[hP]at h
 ·exact h
def ak3{x:U}{y:Value}(rx:a7 ad ac H x y){r:Nat×List (List aD)×Bool}(h:hP H x=some r):∃a l cap,y=.slice a l cap:=by
 unfold hP at h;split at h
 ·obtain⟨a,cap,rfl⟩:=EQ (iI rx);exact⟨_,_,_,rfl⟩
 ·obtain⟨a,cap,rfl⟩:=MM rx;exact⟨_,_,_,rfl⟩
 ·cases h
def ak4(aq:b6 E ad ac H w){t t2 ed:TypeId}{d x v:U}{E' ls:Value}{ap:aa}(h:ns E H t d x=some (v,ap))(rd:a7 ad ac H d E')(rx:a7 ad ac H x ls):
  ∃u ar,(Fa #[t,t2] ed #[E',ls]).run E.P w=.ok u ar∧cl E ad ac H w ap ar λ aN aC=>a7 aN aC ap v u:=by
 unfold ns at h;split at h;rotate_left
 ·cases h
 rename_i e he;split at h;rotate_left
 ·cases h
 rename_i z c g off len db new ND bg Fc;split at h;rotate_left
 ·cases h
 rename_i ah;obtain⟨gL,fq⟩:=ah;unfold y7 at h;split at h;rotate_left
 ·cases h
 rename_i ay aY rows ex aQ;split at h;rotate_left
 ·cases h
 rename_i aP;obtain⟨rfl,rfl⟩:=aP;simp only[bj,bA]at h;obtain⟨rfl,rfl⟩:=h;obtain⟨aE,ae,aRn,rfl⟩:=ak3 rx Fc;obtain⟨eA,oF,mw,ka,pC,re⟩:=MY (P:=E.P) aq rx (ak2 Fc) gL fq;obtain⟨cI,zH,ms,ak5⟩:=ak1 (n:=min new.length len) (mw w rfl) ka (Nat.min_le_left _ _);obtain⟨IW,hk,kZ⟩:=aq.b7 _ _ aQ;have hk:Flat ay rows:=hk;cases rd with
 |ref c g off len v cg aS aK av BA=>
  obtain⟨hle,a,cap,rfl,fm⟩:=aS _ _ _ aQ;have hlen:(new.take len).length=min new.length len:=by simp[Nat.min_comm]
  have UG:∀(i:Nat) (r:List aD),(rows.take off++(new.take len++rows.drop (off+min new.length len)))[i]?=some r→
    (off≤i∧i<off+min new.length len∧new[i-off]?=some r)∨(¬(off≤i∧i<off+min new.length len)∧rows[i]?=some r):=by
   intro i r aA;rw[tZ]at aA;have ao:(rows.take off).length=off:=by simp;omega
   rw[ao]at aA;split at aA
   ·rename_i bf;rw[nZ,if_pos bf]at aA;exact .inr ⟨R,aA⟩
   ·rename_i bf;rw[tZ,hlen]at aA;split at aA
    ·rename_i J;rw[nZ]at aA;split at aA
     ·exact .inl ⟨R,R,aA⟩
     ·cases aA
    ·rename_i J;rw[q5]at aA;rw[show off+min new.length len+(i-off-min new.length len)=i by omega]at aA;exact .inr ⟨R,aA⟩
  have fe:(rows.take off++(new.take len++rows.drop (off+min new.length len))).length=rows.length:=by simp only[dd,gE,ic];omega
  have UH:Flat ay (rows.take off++(new.take len++rows.drop (off+min new.length len))):=by
   intro i r aA;rcases UG i r aA with⟨_,_,h⟩|⟨_,h⟩
   ·exact re _ _ h
   ·exact hk _ _ h
  by_cases hA:min new.length len=0
  ·have oL:rows.take off++(new.take len++rows.drop (off+min new.length len))=rows:=by have:new.take len=[]:=qe.1 (by rw[hlen];exact hA);rw[this,hA];simp
   rw[oL];have jd:H.set c (.ae ay g rows ex)=H:=by
    apply Fh;intro i;by_cases aA:i=c
    ·subst aA;rw[ks cg,aQ]
    ·rw[dC (ba aA)]
   rw[jd,hA];have lU:cI=#[]:=zw (by rw[ms,hA];simp);subst lU;refine⟨.int .i64 0,w,?_,.refl aq (.i _ _ (.v _ rfl))⟩;have hm:Nat.min new.length len=0:=hA;rw[hA]at zH;cases a<;>simp[Fa,run_underlying (h' he),(gJ bg w).1,oF w,hm,zH,storeCells,goInt]
  ·rcases fm with⟨cf,gf⟩|⟨cV,hn,cf,pA,jJ,uc⟩
   ·exfalso;rcases kZ with⟨_,j⟩|⟨b,_,_,_,j,_⟩
    ·subst j;simp at hle;omega
    ·rw[cf]at j;cases j
   ·rcases kZ with⟨j,_⟩|⟨bV,cs,elem,bl,j,hw,gK,ey,sh,el⟩
    ·rw[cf]at j;cases j
    rw[cf]at j;cases j;rcases uc with rfl|⟨j,J⟩;rotate_left
    ·omega
    have Nz:off*ay+cI.size≤cs.size:=by rw[ms,←hj];have:(off+min new.length len)*ay≤rows.length*ay:=j5 _ R;omega
    have UI:∀ab,ab<min new.length len*ay→cI[ab]?=eA[ab]?:=ak5;have aRo:cI.size≤eA.size:=by rw[ms,ka];exact j5 _ R
    have sj:∀v∈cI.toList,v.oneCell'=true:=by
     intro v bi;obtain⟨ab,a',rfl⟩:=EW bi;have lm:ab<cI.size:=by simpa using a'
     have BF:ab<eA.size:=R;have NI:ab<new.flatten.length:=by rw[re.length,←ka];exact BF
     have bu:=ES (pC ab _ (eT NI));have dw:=UI ab (by rw[←ms];exact lm);rw[q9 lm,q9 BF]at dw;have gx:cI[ab]=eA[ab]:=by simpa using dw
     simp only[Array.getElem_toList,gx];simpa[dp,BF]using bu
    obtain⟨ar,hL,s1,s2,ud,Fg,NJ,NK,NL,B2,NM⟩:=vp E.P cV (off*ay) elem bl cI.toList 0 cs w hw gK (by simp;omega) sj;refine⟨.int .i64 (min new.length len:Nat),ar,?_,?_⟩
    ·have hm:Nat.min new.length len=min new.length len:=rfl;simp[Fa,run_underlying (h' he),(gJ bg w).1,oF w,hm,zH,s1,goInt]
    ·refine wrote aq cf aQ ud Fg NJ NK NL ?_ (λ hm=>?_) (λ _=>.i _ _ (.v _ rfl))
     ·intro y aZ;rcases fB aZ with⟨_,rfl⟩|⟨e,_⟩
      ·exact .inl ⟨rows,ex,aQ,rfl,fe⟩
      ·exact absurd rfl e
     ·have kv:∀ab,hL.getD ab undef=if off*ay≤ab∧ab<off*ay+min new.length len*ay then eA.getD (ab-off*ay) undef else cs.getD ab undef:=by
       intro ab;rw[dp,NM];simp only[fc,vl,ms];split
       ·rw[mW,UI _ R,dp]
       ·rw[dp]
      refine⟨IW,UH,.inr ⟨cV,hL,elem,bl,by rw[B2];exact cf,s2,by rw[B2];exact gK,by rw[B2,fe];exact ey,λ he=>by rw[B2,fe];exact sh he,λ i r k a aA aB=>?_⟩⟩;have az:k<ay:=by have:=(bF.1 aB).1;rw[UH _ _ aA]at this;exact this
      rw[kv];rcases UG i r aA with⟨j,J,aw⟩|⟨j,aw⟩
      ·have ao:off*ay≤i*ay:=j5 _ j;have aI:(i+1)*ay≤(off+min new.length len)*ay:=j5 _ J;rw[hj,hj]at aI;rw[if_pos R];have bE:i*ay+k-off*ay=(i-off)*ay+k:=by rw[Nat.sub_mul];omega
       rw[bE];exact(kt.rows re pC) _ _ _ _ aw aB
      ·rw[if_neg]
       ·exact el _ _ _ _ aw aB
       ·rintro⟨ch,cw⟩;apply j;constructor
        ·apply Decidable.byContradiction;intro fl;have:(i+1)*ay≤off*ay:=j5 _ R;rw[hj]at this;omega
        ·apply Decidable.byContradiction;intro fl;have:(off+min new.length len)*ay≤i*ay:=j5 _ R;rw[hj]at this;omega
def NO:Next→Option Value
 |.value v=>some v
 |.skip=>some undef
 |_=>none
def UJ{I:Fr}{a:Act}{aj:Oper}{v:U}{ap:aa}(h:dh E I H aj.op=some (v,ap))(aq:b6 E ad ac H w)(aK:e1 ad ac H I a.tmps):
  ∃ue x ar,(execOp a.eval aj).run E.P w=.ok ue ar∧NO ue=some x∧cl E ad ac H w ap ar λ aN aC=>a7 aN aC ap v x:=by
 obtain⟨dst,op,ed,pos,after,guard⟩:=aj;simp only at h;cases op<;>(try(first|(simp only[dh]at h;done)|(simp only[dh]at h;cases h;done)))
 case alloc e=>
  simp only[dh]at h;split at h
  ·rename_i z bg;split at h
   ·rename_i b';split at h
    ·split at h
     ·rename_i ak6;simp only[bj,bA]at h;obtain⟨rfl,rfl⟩:=h;have H_:=bg;simp only[kO,c0]at H_;obtain⟨dZ,kw,_⟩:=H_;obtain⟨i,aA,vt⟩:=BK.1 kw;have xy:(zeroValue e).run E.P w=.ok dZ w:=by simp[zeroValue,run_typeInfo w aA,vt]
      obtain⟨x,ar,j,J⟩:=ajW aq (ajX kw ak6) e;refine⟨.value x,x,ar,?_,rfl,J⟩;have:(Instr.alloc e true (.tuple #[])).run E.P w=.ok x ar:=by have gz:(do pure (.pointer (some (←newVar e dZ))):Sem Value).run E.P w=.ok x ar:=j;simp only[Instr.alloc,dU,xy,ek];simpa using gz
      simp only[execOp,dU,this,ek,eL]
     ·cases h
    ·simp only[bj,bA]at h;obtain⟨rfl,rfl⟩:=h;obtain⟨dZ,xy,sZ⟩:=xx bg w;have ai:a7 ad ac H z dZ:=by rw[sZ];exact sY dZ
     obtain⟨x,ar,j,J⟩:=TV aq ai b' e;refine⟨.value x,x,ar,?_,rfl,J⟩;have:(Instr.alloc e true (.tuple #[])).run E.P w=.ok x ar:=by have gz:(do pure (.pointer (some (←newVar e dZ))):Sem Value).run E.P w=.ok x ar:=j;simp only[Instr.alloc,dU,xy,ek];simpa using gz
     simp only[execOp,dU,this,ek,eL]
   ·cases h
  ·cases h
 case box e x=>
  simp only[dh]at h;unfold y9 at h;split at h
  ·rename_i v0 H1 bg;split at h
   ·rename_i b';simp only[bj,bA]at h;obtain⟨rfl,rfl⟩:=h;obtain⟨ej,dY,oK,gP,na,NP⟩:=T6 aq bg (eK aq aK x);obtain⟨y,ar,j,e2,ez,ie,gT,j',pB⟩:=TV oK NP b' e;exact⟨.value y,y,ar,by simp only[execOp,dU,j,ek,eL],rfl,e2,ez,ie,gP.trans gT,na.trans j',pB⟩
   ·cases h
  ·cases h
 case buildSlice t n parts=>
  simp only[dh]at h;have UK:BL ad ac H (parts.toList.map λ p=>(p.1,bo E I p.2)) (parts.map λ p=>(p.1,a.eval p.2)).toList:=⟨by simp,λ k p q av bn=>by
   simp only[fA,c0,Nf]at av bn;obtain⟨kr,s7,rfl⟩:=av;obtain⟨mu,s8,rfl⟩:=bn;rw[s7]at s8;cases s8;exact⟨rfl,eK aq aK _⟩⟩
  split at h
  ·obtain⟨x,ar,j,J⟩:=TX (jF:=parts.map λ p=>(p.1,a.eval p.2)) aq h UK;exact⟨.value x,x,ar,by simp only[execOp,dU];rw[j];simp only[ek,eL],rfl,J⟩
  ·obtain⟨x,ar,j,J⟩:=akL (jF:=parts.map λ p=>(p.1,a.eval p.2)) aq h UK;exact⟨.value x,x,ar,by simp only[execOp,dU];rw[j];simp only[ek,eL],rfl,J⟩
 case slice t x bU aA kQ=>
  cases kQ with
  |none=>simp only[dh]at h;cases h
  |some m=>
   simp only[dh]at h;split at h
   ·rename_i y H1 bg;simp only[c0,bA]at h;obtain⟨v1,j,rfl,rfl⟩:=h;obtain⟨e2,ez,ie,gT,j',pB⟩:=zp aq (eK aq aK x) bg;have BR:=aK.mono j';obtain⟨u,bG,bH⟩:=TE j ie (.i _ _ pB) (BH ie BR bU) (BH ie BR aA) (BH ie BR (some m));exact⟨.value u,u,w,by simp only[execOp,dU];rw[bG];simp only[ek,eL],rfl,e2,ez,ie,gT,j',bH⟩
   ·cases h
 case store t p x=>
  simp only[dh]at h;unfold w8 at h;split at h
  ·rename_i v0 H1 bg;simp only[c0,bA]at h;obtain⟨bx,j,rfl,rfl⟩:=h;obtain⟨ej,dY,oK,gP,na,NP⟩:=T6 aq bg (eK aq aK x);obtain⟨ar,J,e2,ez,ie,gT,j',_⟩:=akb oK j (na _ _ (eK aq aK p)) NP;exact⟨.skip,undef,ar,by simp only[execOp,dU,J,ek,eL],rfl,e2,ez,ie,gP.trans gT,na.trans j',.dead _⟩
  ·cases h
 case range t x=>
  simp only[dh]at h;split at h
  ·rename_i l al;split at h
   ·rename_i bq;simp only[bj,bA]at h;obtain⟨rfl,rfl⟩:=h;have r:=eK aq aK x;rw[al]at r;obtain⟨y,ar,j,J⟩:=aku (l:=l) aq bq;exact⟨.value y,y,ar,by simp only[execOp,dU,qh r,j,ek,eL],rfl,J⟩
   ·cases h
  ·cases h
 case makeMap t r=>
  cases r with
  |some r=>simp only[dh]at h;cases h
  |none=>
   simp only[dh]at h;split at h
   ·simp only[bj,bA]at h;obtain⟨rfl,rfl⟩:=h
    let W:World:={w with heap:=w.heap.push (.map #[] 0)}
    refine⟨.value (.map (some w.heap.size)),.map (some w.heap.size),W,by simp[execOp,Instr.makeMap,newObj,ua,W],rfl,?_⟩;refine Un (ar:=W) (aj:=.map #[] 0) aq rfl rfl rfl rfl _ (λ hm=>?_) (λ hm=>?_)
    ·exact⟨w.heap.size,#[],0,by simp[fS],by simp[W],mi.nil⟩
    ·exact .dA _ _ (by simp) (λ es h=>⟨w.heap.size,0,by simp[fS],rfl⟩) (λ _ _ h=>by simp at h) (λ _ _ h=>by simp at h) rfl (λ _ _ _ _ h=>by simp at h)
   ·cases h
 case mapUpdate t m k x=>simp only[dh]at h;obtain⟨ar,J,rfl,aw⟩:=Um aq h (eK aq aK m) (eK aq aK k) (eK aq aK x);exact⟨.skip,undef,ar,by simp only[execOp,dU,J,ek,eL],rfl,aw.imp λ _ _ _ _ _=>.dead _⟩
 case insert t m k x=>simp only[dh]at h;obtain⟨ar,J,rfl,aw⟩:=Um aq h (eK aq aK m) (eK aq aK k) (eK aq aK x);exact⟨.skip,undef,ar,by simp only[execOp,dU,J,ek,eL],rfl,aw.imp λ _ _ _ _ _=>.dead _⟩
 case next it b=>
  simp only[dh]at h;split at h
  ·rename_i c g r al;have bR:=eK aq aK it;rw[al]at bR;split at h
   ·rename_i s pos aQ;obtain⟨gh,gr⟩:=akx aq ed bR aQ;split at h
    ·rename_i av;simp only[bj,bA]at h;obtain⟨rfl,rfl⟩:=h;obtain⟨y,ar,j,J⟩:=gh av;exact⟨.value y,y,ar,by simp only[execOp,dU,j,ek,eL],rfl,J⟩
    ·rename_i av;simp only[bj,bA]at h;obtain⟨rfl,rfl⟩:=h;obtain⟨y,j,J⟩:=gr av;exact⟨.value y,y,w,by simp only[execOp,dU,j,ek,eL],rfl,cl.refl aq J⟩
   ·cases h
  ·cases h
 case makeSlice t l c=>
  simp only[dh]at h;split at h
  ·obtain⟨x,ar,j,J⟩:=T8 aq h (eK aq aK l) (eK aq aK c);exact⟨.value x,x,ar,by simp only[execOp,dU,j,ek,eL],rfl,J⟩
  ·obtain⟨x,ar,j,J⟩:=akJ aq h (eK aq aK l) (eK aq aK c);exact⟨.value x,x,ar,by simp only[execOp,dU,j,ek,eL],rfl,J⟩
 case convert s d x=>
  simp only[dh]at h;split at h
  ·rename_i l an;split at h
   ·rename_i ah;obtain⟨gL,xD⟩:=ah;have r:=eK aq aK x;rw[an]at r;obtain⟨y,ar,j,J⟩:=akj aq gL xD h;exact⟨.value y,y,ar,by simp only[execOp,dU,qh r,j,ek,eL],rfl,J⟩
   ·cases h
  ·cases h
 case call c=>
  obtain⟨callee,args,e6⟩:=c;cases callee with
  |value f=>simp[dh]at h
  |invoke r m=>simp[dh]at h
  |builtin b=>
   simp only[dh]at h;split at h
   ·rename_i s x t t2 pD vD;have pD:=Ik pD;have vD:=Ik vD;subst pD vD;split at h
    ·obtain⟨u,ar,j,J⟩:=NC (ed:=ed) aq h (eK aq aK s) (eK aq aK x);exact⟨.value u,u,ar,by simp[execOp,resolve,invoke,builtin,j],rfl,J⟩
    ·obtain⟨u,ar,j,J⟩:=ak0 (ed:=ed) aq h (eK aq aK s) (eK aq aK x);exact⟨.value u,u,ar,by simp[execOp,resolve,invoke,builtin,j],rfl,J⟩
   ·rename_i d x t t2 pD vD;have pD:=Ik pD;have vD:=Ik vD;subst pD vD;split at h
    ·obtain⟨u,ar,j,J⟩:=ak4 (ed:=ed) (t2:=t2) aq h (eK aq aK d) (eK aq aK x);exact⟨.value u,u,ar,by simp[execOp,resolve,invoke,builtin,j],rfl,J⟩
    ·obtain⟨u,ar,j,J⟩:=akP (ed:=ed) (t2:=t2) aq h (eK aq aK d) (eK aq aK x);exact⟨.value u,u,ar,by simp[execOp,resolve,invoke,builtin,j],rfl,J⟩
   ·cases h
end
def uf(aU:Nat→Option Nat):∀l:List U,cB aU l=l.map (co aU)
 |[]=>by simp[cB]
 |a::l=>by simp[cB,uf aU l]
def IY(aU:Nat→Option Nat)(ac:b9)(H:aa)(aC:b9)(ap:aa):Prop:=
 ∀c cp,aU c=some cp→cp<ap.length∧(∀r,aC ⟨cp,r⟩=ac ⟨c,r⟩)∧ap[cp]?=(H[c]?).map (Chunk.cL aU)
def Fi{aU:Nat→Option Nat}{x:Option Chunk}{ay g:Nat}{rows:List (List aD)}{ex:Bool}(h:x.map (Chunk.cL aU)=some (.ae ay g rows ex)):x=some (.ae ay g rows ex):=by
 cases x with
 |none=>simp at h
 |some y=>cases y<;>simp[Chunk.cL]at h<;>simp[h]
def UL{aU:Nat→Option Nat}{x:Option Chunk}{ay g:Nat}{rows:List (List aD)}{ex:Bool}(h:x.map (Chunk.cL aU)=some (.bl ay g rows ex)):x=some (.bl ay g rows ex):=by
 cases x with
 |none=>simp at h
 |some y=>cases y<;>simp[Chunk.cL]at h<;>simp[h]
def UM(aU:Nat→Option Nat):∀es:List (aD×U),y_ aU es=es.map λ p=>(p.1,co aU p.2)
 |[]=>rfl
 |p::r=>by simp[y_,UM aU r]
def ak7{aU:Nat→Option Nat}{x:Option Chunk}{es:List (aD×U)}(h:x.map (Chunk.cL aU)=some (.map es)):∃zb,x=some (.map zb)∧es=y_ aU zb:=by
 cases x with
 |none=>cases h
 |some x=>cases x<;>simp[Chunk.cL]at h;exact⟨_,rfl,h.symm⟩
def ak8{aU:Nat→Option Nat}{x:Option Chunk}{t:Nat}{cells:List U}(h:x.map (Chunk.cL aU)=some (.cZ t cells)):∃qg,x=some (.cZ t qg)∧cells=cB aU qg:=by
 cases x with
 |none=>cases h
 |some x=>cases x<;>simp[Chunk.cL]at h;obtain⟨rfl,rfl⟩:=h;exact⟨_,rfl,rfl⟩
def ak9{aU:Nat→Option Nat}{x:Option Chunk}{t:Nat}{l:List UInt8}(h:x.map (Chunk.cL aU)=some (.jA t l)):x=some (.jA t l):=by
 cases x with
 |none=>cases h
 |some x=>cases x<;>simp_all [Chunk.cL]
def ak_{aU:Nat→Option Nat}{x:Option Chunk}{s:List UInt8}{p:Nat}(h:x.map (Chunk.cL aU)=some (.iter s p)):x=some (.iter s p):=by
 cases x with
 |none=>simp at h
 |some y=>cases y<;>simp[Chunk.cL]at h<;>simp[h]
def ak'{aU:Nat→Option Nat}{x:Option Chunk}{cells:List U}(h:x.map (Chunk.cL aU)=some (.box cells)):∃qg,x=some (.box qg)∧cells=cB aU qg:=by
 cases x with
 |none=>simp at h
 |some y=>cases y<;>simp[Chunk.cL]at h<;>simp[h]
section
variable{E:Env}{ad:cb}{ac:b9}{H:aa}{w:World}
def IZ{aU:Nat→Option Nat}{x:Option Chunk}{z g s:Nat}{rows:List bS}(h:x.map (Chunk.cL aU)=some (.ax z g s rows)):x=some (.ax z g s rows):=by
 cases x with
 |none=>simp at h
 |some y=>cases y<;>simp[Chunk.cL]at h<;>simp[h]
def ala{aU:Nat→Option Nat}{x:Option Chunk}{g:Nat}{rows:List (List aD)}(h:x.map (Chunk.cL aU)=some (.fd g rows)):x=some (.fd g rows):=by
 cases x with
 |none=>simp at h
 |some y=>cases y<;>simp[Chunk.cL]at h<;>simp[h]
def alb{aU:Nat→Option Nat}{ap:aa}{k:cP}{cp:Nat}{v:Value}(h:q1 ad H k v)(aw:ap[cp]?=(H[k.c]?).map (Chunk.cL aU)):q1 ad ap (k.to cp) v:=by
 intro g c off len rows e aQ;cases k with
 |d gA g0 cH hn=>cases e;rw[aw]at aQ;exact h _ _ _ _ _ rfl (ala aQ)
 |_=>cases e
def alc{aU:Nat→Option Nat}{aC:b9}{ap:aa}{k:cP}{cp:Nat}{v:Value}(h:kX ac H k v)(j:cp<ap.length)(J:∀r,aC ⟨cp,r⟩=ac ⟨k.c,r⟩)(aw:ap[cp]?=(H[k.c]?).map (Chunk.cL aU)):kX aC ap (k.to cp) v:=by
 cases k with
 |d c g off len=>obtain⟨ch,cw,fl⟩:=h;refine⟨j,cw,λ z aY s rows aQ=>?_⟩;rw[aw]at aQ;obtain⟨ao,aI⟩:=fl _ _ _ _ (IZ aQ);refine⟨ao,λ e=>?_⟩;have nb:aC ⟨cp,0⟩=ac ⟨c,0⟩:=J 0;have:=aI e;unfold EC at*;rw[nb];exact this
 |e c g r=>obtain⟨ch,cw,fl⟩:=h;refine⟨j,cw,λ z aY s rows aQ=>?_⟩;rw[aw]at aQ;obtain⟨ao,aI⟩:=fl _ _ _ _ (IZ aQ);have nb:aC ⟨cp,0⟩=ac ⟨c,0⟩:=J 0;exact⟨ao,λ e=>by rw[nb];exact aI e⟩
 |h c g s r=>obtain⟨ch,cw,fl⟩:=h;refine⟨j,cw,λ z aY s rows aQ=>?_⟩;rw[aw]at aQ;obtain⟨ao,aI⟩:=fl _ _ _ _ (IZ aQ);have nb:aC ⟨cp,r+1⟩=ac ⟨c,r+1⟩:=J (r+1);refine⟨ao,λ e lh bR ai=>?_⟩;have:=aI e lh bR ai;unfold ve at*;rw[nb];exact this
 |p c g s r i k=>obtain⟨ch,cw,fl⟩:=h;refine⟨j,cw,λ z aY s rows aQ=>?_⟩;rw[aw]at aQ;obtain⟨ao,aI⟩:=fl _ _ _ _ (IZ aQ);have nb:aC ⟨cp,r+1⟩=ac ⟨c,r+1⟩:=J (r+1);exact⟨ao,λ e lh bR ai aA=>by rw[nb];exact aI e lh bR ai aA⟩
def vE{aU:Nat→Option Nat}{aC:b9}{ap:aa}(rf:IY aU ac H aC ap){a:U}{v:Value}(r:a7 ad ac H a v):a7 ad aC ap (co aU a) v:=by
 induction r with
 |dead v=>exact .dead v
 |i x v h=>simp only[co];exact .i x v h
 |agg cells cs an _ a8=>
  simp only[co,uf];refine .agg _ _ (by simpa using an) λ k a aB=>?_
  simp only[fA,c0]at aB;obtain⟨b,ak,rfl⟩:=aB;exact a8 k b ak
 |aR fn first fy eP cs an hm _ _ nX nY=>
  simp only[co,uf];refine .aR _ _ _ _ _ (by simpa using an) (by simpa using hm) (λ k a aB=>?_) (λ k a aB=>?_)
  ·simp only[fA,c0]at aB;obtain⟨b,ak,rfl⟩:=aB;exact nX k b ak
  ·simp only[fA,c0]at aB;obtain⟨b,ak,rfl⟩:=aB;exact nY k b ak
 |be vs xs an _ a8=>
  simp only[co,uf];refine .be _ _ (by simpa using an) λ k a aB=>?_
  simp only[fA,c0]at aB;obtain⟨b,ak,rfl⟩:=aB;exact a8 k b ak
 |ref c g off len v ah aS aK av aP=>
  simp only[co];cases h:aU c with
  |none=>exact .dead v
  |some cp=>
   obtain⟨j,nb,aw⟩:=rf c cp h;have J:aC cp=ac c:=nb 0;refine .ref cp g off len v j (λ ay rows ex aQ=>?_) (λ ay rows ex aQ=>?_) av (λ ay aY rows ex aQ=>?_)
   ·rw[aw]at aQ;have:=aS _ _ _ (Fi aQ);unfold sX at*;rw[J];exact this
   ·rw[aw]at aQ;exact aK _ _ _ (UL aQ)
   ·rw[aw]at aQ;exact aP _ _ _ _ (Fi aQ)
 |dA c v ah hm bq hu av bg=>
  simp only[co];cases h:aU c with
  |none=>exact .dead v
  |some cp=>
   obtain⟨j,nb,aw⟩:=rf c cp h;have J:aC cp=ac c:=nb 0;refine .dA cp v j (λ es aQ=>?_) (λ t cells aQ=>?_) (λ t l aQ=>?_) av (λ ay g rows ex aQ=>by rw[aw]at aQ;exact bg _ _ _ _ (Fi aQ))
   ·rw[aw]at aQ;rw[J];obtain⟨gA,gf,_⟩:=ak7 aQ;exact hm _ gf
   ·rw[aw]at aQ;rw[J];obtain⟨gA,gf,_⟩:=ak8 aQ;exact bq _ _ gf
   ·rw[aw]at aQ;rw[J];exact hu _ _ (ak9 aQ)
 |ptr c g r k v ah ak aS aK aA av aP=>
  simp only[co];cases h:aU c with
  |none=>exact .dead v
  |some cp=>
   obtain⟨j,nb,aw⟩:=rf c cp h;have J:aC cp=ac c:=nb 0;refine .ptr cp g r k v j (λ cells aQ=>?_) (λ ay rows ex aQ=>?_) (λ ay rows ex row aQ ai=>?_) (λ s p aQ=>?_) av (λ ay aY rows ex aQ=>?_)
   ·rw[aw]at aQ;obtain⟨gA,gf,_⟩:=ak' aQ;rw[J];exact ak _ gf
   ·rw[aw]at aQ;rw[J];exact aS _ _ _ (Fi aQ)
   ·rw[aw]at aQ;exact aK _ _ _ _ (UL aQ) ai
   ·rw[aw]at aQ;rw[J];exact aA _ _ (ak_ aQ)
   ·rw[aw]at aQ;exact aP _ _ _ _ (Fi aQ)
 |x k v h aK=>
  simp only[co];cases az:aU k.c with
  |none=>exact .dead v
  |some cp=>obtain⟨j,nb,aw⟩:=rf k.c cp az;exact .x _ _ (alc h j nb aw) (alb aK aw)
def NQ{aU:Nat→Option Nat}{aC:b9}{ap:aa}(rf:IY aU ac H aC ap){c cp:Nat}(pq:∀r,aC ⟨cp,r⟩=ac ⟨c,r⟩){x:Chunk}(h:oD ad ac H w c x):oD ad aC ap w cp (Chunk.cL aU x):=by
 have he:aC cp=ac c:=pq 0;cases x with
 |box cells=>obtain⟨b,cs,elem,bl,j,J,aw,bb,bu⟩:=h;refine⟨b,cs,elem,bl,by rw[he];exact j,J,aw,by rw[uf];simpa using bb,λ k a aB=>?_⟩;rw[uf]at aB;simp only[fA,c0]at aB;obtain⟨b,ak,rfl⟩:=aB;exact vE rf (bu k b ak)
 |ae ay g rows ex=>
  obtain⟨j,J,aw⟩:=h;refine⟨λ e=>he.trans (j e),J,?_⟩;rcases aw with⟨bb,bu⟩|⟨b,cs,elem,bl,bb,bu⟩
  ·exact .inl ⟨by rw[he];exact bb,bu⟩
  ·exact .inr ⟨b,cs,elem,bl,by rw[he];exact bb,bu⟩
 |bl ay g rows ex=>exact(he.trans h:aC cp=none)
 |iter s p=>obtain⟨b,j,J⟩:=h;exact⟨b,by rw[he];exact j,J⟩
 |map es=>obtain⟨b,hv,aL,j,J,aw⟩:=h;exact⟨b,hv,aL,by rw[he];exact j,J,by rw[UM];exact aw.to λ a v r=>vE rf r⟩
 |cZ t cells=>obtain⟨b,cs,j,J,bb,bu⟩:=h;refine⟨b,cs,by rw[he];exact j,J,by rw[uf];simpa using bb,λ k a aB=>?_⟩;rw[uf]at aB;simp only[fA,c0]at aB;obtain⟨b,ak,rfl⟩:=aB;exact vE rf (bu k b ak)
 |jA t l=>obtain⟨b,cs,j,J,aw⟩:=h;exact⟨b,cs,by rw[he];exact j,J,aw⟩
 |gone=>exact(he.trans h:aC cp=none)
 |fd=>exact(he.trans h:aC cp=none)
 |ax z g s rows=>
  rcases h with⟨j,J⟩|⟨b,cs,elem,bl,j,J,aw,bb,bu⟩
  ·exact .inl ⟨by rw[he];exact j,J⟩
  ·refine .inr ⟨b,cs,elem,bl,by rw[he];exact j,J,aw,bb,λ r y aZ=>?_⟩;have:=bu r y aZ;have e:aC ⟨cp,r+1⟩=ac ⟨c,r+1⟩:=pq (r+1);cases y with
   |own bR=>obtain⟨bG,bH⟩:=this;refine⟨bG,?_⟩;rw[e];exact bH
   |dG q=>exact this
   |dead=>exact this
def n8:∀{aW:List Nat} {c i:Nat},bt aW c=some i→aW[i]?=some c
 |[],c,i,h=>by simp[bt]at h
 |d::aW,c,i,h=>by
  simp only[bt]at h;split at h
  ·rename_i e;cases h;simp[e]
  ·simp only[c0]at h;obtain⟨ab,a',rfl⟩:=h;simpa using n8 a'
def zI:∀{aW:List Nat} {c i:Nat},aW.Nodup→aW[i]?=some c→bt aW c=some i
 |[],c,i,_,h=>by simp at h
 |d::aW,c,0,aF,h=>by simp at h;simp[bt,h]
 |d::aW,c,i+1,aF,h=>by
  simp only[jM]at h;have hm:=jG h;have gp:c≠d:=λ e=>by subst e;exact(Fj.1 aF).1 hm
  simp[bt,gp,zI (Fj.1 aF).2 h]
def UN{aW:List Nat}{c:Nat}(h:bt aW c=none):c∉aW:=by
 induction aW with
 |nil=>simp
 |cons d aW a8=>
  simp only[bt]at h;split at h
  ·cases h
  ·rename_i gp;simp only[Option.map_eq_none_iff]at h;simp[gp,a8 h]
def B3(H:aa):∀(n:Nat) (l seen:List Nat),seen.Nodup→(∀c∈seen,c<H.length)→(reach H n l seen).Nodup∧∀c∈reach H n l seen,c<H.length
 |0,l,seen,j,J=>by simp only[reach];exact⟨j,J⟩
 |n+1,[],seen,j,J=>by simp only[reach];exact⟨j,J⟩
 |n+1,c::r,seen,j,J=>by
  simp only[reach];split
  ·exact B3 H n r seen j J
  ·rename_i ah;simp only[not_or,e8]at ah;refine B3 H n _ _ ?_ ?_
   ·rw[List.nodup_append];exact⟨j,by simp,λ a aB b ak=>by simp at ak;subst ak;exact λ e=>ah.1 (e▸aB)⟩
   ·intro d aM;simp at aM;rcases aM with aM|rfl
    ·exact J d aM
    ·exact ah.2
def xP:∀(aW:List Nat) (xs:List Chunk) (H:aa),(ef H aW xs).length=H.length
 |[],xs,H=>by cases xs<;>rfl
 |c::aW,[],H=>rfl
 |c::aW,x::xs,H=>by simp only[ef];rw[xP aW xs];simp
def NR:∀(aW:List Nat) (xs:List Chunk) (H:aa),aW.Nodup→xs.length=aW.length→(∀c∈aW,c<H.length)→∀c,(ef H aW xs)[c]?=match bt aW c with|some i=>xs[i]?|none=>H[c]?
 |[],xs,H,_,_,_,c=>by cases xs<;>simp[ef,bt]
 |d::aW,[],H,_,h,_,c=>by simp at h
 |d::aW,x::xs,H,aF,an,bf,c=>by
  simp only[ef];rw[NR aW xs (H.set d x) (Fj.1 aF).2 (by simpa using an) (λ c ah=>by simpa using bf c (by simp[ah])) c];simp only[bt];by_cases e7:c=d
  ·subst e7;have:bt aW c=none:=by
    cases h:bt aW c with
    |none=>rfl
    |some i=>exact absurd (jG (n8 h)) (Fj.1 aF).1
   rw[this];have xQ:=bf c (by simp);simp[xQ]
  ·simp only[e7,if_false];cases h:bt aW c with
   |none=>simp[dC (ba e7)]
   |some i=>simp
def oM(ad:cb)(ac:b9)(H:aa)(args:List U)(vs:Array Value):Prop:=vs.size=args.length∧∀(k:Nat) (a:U),args[k]?=some a→a7 ad ac H a (vs.getD k undef)
def n9(E:Env)(aL:dD):Prop:=∀f args H r ap,aL f args H=some (r,ap)→∀ad ac w vs,b6 E ad ac H w→oM ad ac H args vs→
 Calls E.P f vs w λ e ar=>∃x,e=.returned x∧cl E ad ac H w ap ar λ aN aC=>a7 aN aC ap r x
def zJ(E:Env):Prop:=∀f h,E.ext f=some h→∀args H r ap,h args H=some (r,ap)→∀ad ac w vs,b6 E ad ac H w→oM ad ac H args vs→
 Calls E.P f vs w λ e ar=>∃x,e=.returned x∧cl E ad ac H w ap ar λ aN aC=>a7 aN aC ap r x
def ald{aL:dD}(cg:n9 E aL)(tb:zJ E):n9 E (e0 E aL):=by
 intro f args H r ap h;unfold e0 at h;split at h
 ·rename_i g aP;exact tb f g aP args H r ap h
 ·exact cg f args H r ap h
def B4:∀{ad:cb} {ac:b9} {H:aa} (aq:b6 E ad ac H w) {args hJ:List U} {H1:aa} (f:Nat→Value),dr H args=some (hJ,H1)→(∀(k:Nat) (a:U),args[k]?=some a→a7 ad ac H a (f k))→
  cl E ad ac H w H1 w λ aN aC=>hJ.length=args.length∧∀(k:Nat) (a:U),hJ[k]?=some a→a7 aN aC H1 a (f k)
 |ad,ac,H,aq,[],hJ,H1,f,h,r=>by simp only[dr,bj,bA]at h;obtain⟨rfl,rfl⟩:=h;exact cl.refl aq ⟨rfl,λ k a h=>by simp at h⟩
 |ad,ac,H,aq,a::l,hJ,H1,f,h,r=>by
  have rest:∀{bI:List U} {bx:aa},dr H l=some (bI,bx)→cl E ad ac H w bx w λ aN aC=>bI.length=l.length∧∀(k:Nat) (b:U),bI[k]?=some b→a7 aN aC bx b (f (k+1)):=
   λ h=>B4 aq (λ k=>f (k+1)) h (λ k b ak=>r (k+1) b (by simpa using ak))
  have other:∀{bI:List U} {bx:aa},dr H l=some (bI,bx)→hJ=a::bI→H1=bx→cl E ad ac H w H1 w λ aN aC=>hJ.length=(a::l).length∧∀(k:Nat) (b:U),hJ[k]?=some b→a7 aN aC H1 b (f k):=by
   intro bI bx h ao aI;subst ao aI;refine(rest h).imp λ aN aC _ hm bn=>⟨by simp[bn.1],λ k b ak=>?_⟩
   cases k with
   |zero=>simp at ak;subst ak;exact hm _ _ (r 0 a rfl)
   |succ k=>exact bn.2 k b (by simpa using ak)
  cases a with
  |ref c g off len=>
   simp only[dr]at h;split at h
   ·rename_i x bx j;split at h
    ·rename_i bI oN J;simp only[bj,bA]at h;obtain⟨rfl,rfl⟩:=h;refine(zp aq (r 0 _ rfl) j).trans λ ej dY dt _ hm al=>?_
     refine(B4 dt (λ k=>f (k+1)) J (λ k b ak=>hm _ _ (r (k+1) b (by simpa using ak)))).imp λ e2 ez cd gq bn=>⟨by simp[bn.1],λ k b ak=>?_⟩
     cases k with
     |zero=>simp at ak;subst ak;exact .i _ _ (al.mono cd)
     |succ k=>exact bn.2 k b (by simpa using ak)
    ·cases h
   ·cases h
  |x q=>
   simp only[dr]at h;split at h
   ·rename_i x bx j;split at h
    ·rename_i bI oN J;simp only[bj,bA]at h;obtain⟨rfl,rfl⟩:=h;refine(zp aq (r 0 _ rfl) j).trans λ ej dY dt _ hm al=>?_
     refine(B4 dt (λ k=>f (k+1)) J (λ k b ak=>hm _ _ (r (k+1) b (by simpa using ak)))).imp λ e2 ez cd gq bn=>⟨by simp[bn.1],λ k b ak=>?_⟩
     cases k with
     |zero=>simp at ak;subst ak;exact .i _ _ (al.mono cd)
     |succ k=>exact bn.2 k b (by simpa using ak)
    ·cases h
   ·cases h
  |agg cells=>
   simp only[dr]at h;split at h
   ·rename_i xs bx j;split at h
    ·rename_i bI oN J;simp only[bj,bA]at h;obtain⟨rfl,rfl⟩:=h;have ix:=r 0 _ rfl;have bi:∃cs:Array Value,f 0=.agg cs∧cs.size=cells.length∧∀(k:Nat) (a:U),cells[k]?=some a→a7 ad ac H a (cs.getD k undef):=by
      generalize f 0=v at ix;cases ix with
      |agg _ cs an h=>exact⟨cs,rfl,an,h⟩
     obtain⟨cs,Fk,an,eX⟩:=bi;refine(It aq (λ k=>cs.getD k undef) eX j).trans λ ej dY dt _ hm al=>?_
     refine(B4 dt (λ k=>f (k+1)) J (λ k b ak=>hm _ _ (r (k+1) b (by simpa using ak)))).imp λ e2 ez cd gq bn=>⟨by simp[bn.1],λ k b ak=>?_⟩
     cases k with
     |zero=>
      simp at ak;subst ak;rw[Fk];refine .agg _ _ (by simp[kP,al.1,an]) λ k a aB=>?_
      simp only[kP,fA,c0]at aB;obtain⟨x,lR,rfl⟩:=aB;exact .i _ _ ((al.2 k x lR).mono cd)
     |succ k=>exact bn.2 k b (by simpa using ak)
    ·cases h
   ·split at h
    ·rename_i bI bx j;simp only[bj,bA]at h;exact other j h.1.symm h.2.symm
    ·cases h
  |dead|i|ptr|dA|aR|be=>
   simp only[dr]at h;split at h
   ·rename_i bI bx j;simp only[bj,bA]at h;exact other j h.1.symm h.2.symm
   ·cases h
def UO:∀(bs:List (Option Nat)) (l:List U),(jD bs l).length=l.length
 |[],l=>rfl
 |k::bs,[]=>rfl
 |k::bs,a::l=>by cases a<;>simp[jD,UO bs l]
def UP:∀(bs:List (Option Nat)) (l:List U) (i:Nat) (y:U),(jD bs l)[i]?=some y→∃x,l[i]?=some x∧(y=x∨∃k z,x=.i z∧y=.i (h7 k z))
 |[],l,i,y,h=>⟨y,h,.inl rfl⟩
 |k::bs,[],i,y,h=>by simp[jD]at h
 |k::bs,a::l,0,y,h=>by
  cases a<;>simp[jD]at h<;>subst h
  case i z=>exact⟨_,rfl,.inr ⟨k,z,rfl,rfl⟩⟩
  all_goals exact⟨_,rfl,.inl rfl⟩
 |k::bs,a::l,i+1,y,h=>by
  have:(jD bs l)[i]?=some y:=by cases a<;>simpa[jD]using h
  simpa using UP bs l i y this
def ale{bs:List (Option Nat)}{a:U}{v:Value}(r:a7 ad ac H a v):a7 ad ac H (r4 bs a) v:=by
 cases r with
 |i x v h=>exact .i _ _ (zr h)
 |agg cells cs an h=>
  refine .agg _ _ (by rw[UO];exact an) λ k a aB=>?_
  obtain⟨x,al,rfl|⟨dv,z,rfl,rfl⟩⟩:=UP _ _ _ _ aB
  ·exact h k _ al
  ·exact .i _ _ (zr (iI (h k _ al)))
 |dead v=>exact .dead v
 |ref c g aj n v j J aw bb bu=>exact .ref c g aj n v j J aw bb bu
 |ptr c g r k v j J aw bb bu dw gx=>exact .ptr c g r k v j J aw bb bu dw gx
 |dA c v j J aw bb bu dw=>exact .dA c v j J aw bb bu dw
 |x k v h aK=>exact .x k v h aK
 |aR fn a b eP cs j J aw bb=>exact .aR fn a b eP cs j J aw bb
 |be vs xs an h=>exact .be vs xs an h
def NS:∀(bs:List (List (Option Nat))) (l:List U),(nT bs l).length=l.length
 |[],l=>rfl
 |k::bs,[]=>rfl
 |k::bs,a::l=>by simp[nT,NS bs l]
def NT:∀(bs:List (List (Option Nat))) (l:List U) (f:Nat→Value),(∀(k:Nat) (a:U),l[k]?=some a→a7 ad ac H a (f k))→∀(k:Nat) (a:U),(nT bs l)[k]?=some a→a7 ad ac H a (f k)
 |[],l,f,h=>h
 |k::bs,[],f,h=>h
 |xR::bs,b::l,f,h=>λ k a aB=>by
  cases k with
  |zero=>simp[nT]at aB;subst aB;exact ale (h 0 b rfl)
  |succ k=>exact NT bs l (λ k=>f (k+1)) (λ k a h9=>h (k+1) a (by simpa using h9)) k a (by simpa[nT]using aB)
def alf(aq:b6 E ad ac H w)(x:Chunk):fb ad ac H ad ac (H++[x]):=by
 refine mV (λ _ _ h=>h) (by simp) λ c ah=>?_
 exact jc.same (by rw[en ah]) (λ _=>rfl)
def NU(aq:b6 E ad ac H w){a:U}{v:Value}(z:Nat)(r:a7 ad ac H a v):cl E ad ac H w (i_ z H a).2 w λ aN aC=>a7 aN aC (i_ z H a).2 (i_ z H a).1 v:=by
 unfold i_;split
 ·rename_i ay;cases aM:decide (z<1000)
  ·have bi:∃a,v=.slice a 0 0:=by
    have:=iI r;cases this with
    |nil _ _ a cap h=>exact⟨a,by rw[h rfl]⟩
    |ae _ _ _ b off cap cs elem bl dB cd ah al ai j J=>exact⟨_,by rw[al rfl];rfl⟩
   obtain⟨a,rfl⟩:=bi;exact Nr aq (z-1000) a
  simp only[y1];have hm:=alf aq (.ae z 0 [] false);have cf:ac H.length=none:=by
   cases h:ac H.length with
   |none=>rfl
   |some p=>have:=aq.Bz (b:=p.1) (n:=p.2) h;omega
  have bi:∃a,v=.slice a 0 0:=by
   have:=iI r;cases this with
   |nil _ _ a cap h=>exact⟨a,by rw[h rfl]⟩
   |ae _ _ _ b off cap cs elem bl dB cd ah al ai j J=>exact⟨_,by rw[al rfl];rfl⟩
  obtain⟨a,rfl⟩:=bi;refine⟨ad,ac,⟨aq.dT,λ c x al=>?_,aq.inj,λ c b n h=>?_,aq.e_⟩,Trans.refl _ _ _,hm,?_⟩
  ·by_cases ah:c<H.length
   ·rw[en ah]at al;exact(aq.b7 c x al).mono (λ _=>rfl) (λ _ _ h=>h) hm (λ _ _ _ _=>rfl)
   ·have:c=H.length:=by have:=(bF.1 al).1;simp at this;omega
    subst this;simp at al;subst al;exact⟨λ _=>cf,λ i r h=>by simp at h,.inl ⟨cf,rfl⟩⟩
  ·have:=aq.sep c b n h;exact⟨this.1,this.2.1,by simp;omega⟩
  ·refine .ref _ _ _ _ _ (by simp) (λ h_ c9 hK h=>?_) (λ _ _ _ h=>by simp at h) ⟨_,_,rfl⟩ (λ _ _ _ _ h=>R);simp at h;obtain⟨rfl,rfl,rfl⟩:=h;exact⟨by simp,a,0,rfl,.inl ⟨cf,rfl⟩⟩
 ·exact cl.refl aq r
def alg(aq:b6 E ad ac H w){a:U}{v:Value}(k:List (Option Nat))(r:a7 ad ac H a v):cl E ad ac H w (lf k H a).2 w λ aN aC=>a7 aN aC (lf k H a).2 (lf k H a).1 v:=by
 unfold lf;split
 ·exact NU aq _ r
 ·exact cl.refl aq r
def NV:∀{ad:cb} {ac:b9} (bs:List (List (Option Nat))) (l:List U) {H:aa} (aq:b6 E ad ac H w) (f:Nat→Value),(∀(k:Nat) (a:U),l[k]?=some a→a7 ad ac H a (f k))→
  cl E ad ac H w (eW bs l H).2 w λ aN aC=>(eW bs l H).1.length=l.length∧∀(k:Nat) (a:U),(eW bs l H).1[k]?=some a→a7 aN aC (eW bs l H).2 a (f k)
 |ad,ac,[],l,H,aq,f,h=>by simp only[eW,true_and];exact cl.refl aq h
 |ad,ac,xR::bs,[],H,aq,f,h=>by simp only[eW,true_and];exact cl.refl aq h
 |ad,ac,xR::bs,b::l,H,aq,f,h=>by
  simp only[eW];refine(alg aq xR (h 0 b rfl)).trans λ ej dY dt _ hm al=>?_
  refine(NV bs l dt (λ k=>f (k+1)) (λ k a h9=>hm _ _ (h (k+1) a (by simpa using h9)))).imp λ aN aC _ gq bn=>⟨by simp[bn.1],λ k a aB=>?_⟩
  cases k with
  |zero=>simp at aB;subst aB;exact gq _ _ al
  |succ k=>exact bn.2 k a (by simpa using aB)
def alh(aq:b6 E ad ac H w){g:FuncId}{args hJ:List U}{H1:aa}(f:Nat→Value)(h:ja E g H args=some (hJ,H1))(r:∀(k:Nat) (a:U),args[k]?=some a→a7 ad ac H a (f k)):
  cl E ad ac H w H1 w λ aN aC=>hJ.length=args.length∧∀(k:Nat) (a:U),hJ[k]?=some a→a7 aN aC H1 a (f k):=by
 unfold ja at h;split at h
 ·simp only[bj]at h;have:=NV (E.gI g) args aq f r;rw[h]at this;exact this
 ·split at h
  ·rename_i bI bx av;simp only[bj,bA]at h;obtain⟨rfl,rfl⟩:=h;exact(B4 aq f av r).imp λ aN aC _ _ bn=>⟨by rw[NS];exact bn.1,NT _ _ f bn.2⟩
  ·cases h
end
section
variable{E:Env}{ad:cb}{ac:b9}{H:aa}{w:World}
def vF(H:aa)(aW:List Nat):aa:=aW.map λ c=>((H[c]?).map (Chunk.cL (bt aW))).getD (.iter [] 0)
def n_(ac:b9)(aW:List Nat):b9:=λ i=>match aW[i.c]? with|some c=>ac ⟨c,i.r⟩|none=>none
def fj.ext'{i ab:fj}(j:i.c=ab.c)(J:i.r=ab.r):i=ab:=by cases i;cases ab;simp_all
def UQ{aW:List Nat}(bf:∀c∈aW,c<H.length){i c:Nat}(h:aW[i]?=some c):(vF H aW)[i]?=(H[c]?).map (Chunk.cL (bt aW)):=by have ah:=bf c (jG h);simp[vF,h,ah]
def Fl{aW:List Nat}(aF:aW.Nodup)(bf:∀c∈aW,c<H.length):IY (bt aW) ac H (n_ ac aW) (vF H aW):=by intro c i h;have aA:=n8 h;refine⟨by simp[vF];exact(bF.1 aA).1,λ r=>by simp[n_,aA],UQ bf aA⟩
def UR(aq:b6 E ad ac H w){aW:List Nat}(aF:aW.Nodup)(bf:∀c∈aW,c<H.length):b6 E ad (n_ ac aW) (vF H aW) w:=by
 refine⟨aq.dT,λ i x al=>?_,λ i ab b n dO j J=>?_,λ i b n h=>?_,aq.e_⟩
 ·have zs:i<aW.length:=by have:=(bF.1 al).1;simpa[vF]using this
  have aA:=eT zs;rw[UQ bf aA]at al;simp only[c0]at al;obtain⟨y,aZ,rfl⟩:=al;exact NQ (Fl aF bf) (λ r=>by simp[n_,aA]) (aq.b7 _ _ aZ)
 ·unfold n_ at j J;split at j
  ·rename_i c ah;split at J
   ·rename_i d aM;have:=aq.inj _ _ _ _ _ j J;simp only[fj.mk.injEq]at this;obtain⟨rfl,ai⟩:=this;have ao:=zI aF ah;have aI:=zI aF aM;rw[ao]at aI;exact fj.ext' (qf aI) ai
   ·cases J
  ·cases j
 ·unfold n_ at h;split at h
  ·rename_i c ah;have:=aq.sep _ _ _ h;exact⟨this.1,this.2.1,by simp[vF];exact(bF.1 ah).1⟩
  ·cases h
def ali(aq:b6 E ad ac H w){aW:List Nat}(aF:aW.Nodup)(bf:∀c∈aW,c<H.length){L:aa}{ar:World}{aN:cb}{aC:b9}(B5:b6 E aN aC L ar)(du:Trans ad (n_ ac aW) w aN aC ar)
  (hm:fb ad (n_ ac aW) (vF H aW) aN aC L)(fh:aW.length≤L.length){K:List Nat}(jt:K.Nodup)(I0:∀i∈K,aW.length≤i)(NW:∀i∈K,i<L.length){rh:aa}
  (gU:rh=ef H aW ((L.take aW.length).map (Chunk.cL (dm aW H.length K)))++K.map λ i=>((L[i]?).map (Chunk.cL (dm aW H.length K))).getD (.iter [] 0)):
  ∃jN,b6 E aN jN rh ar∧Trans ad ac w aN jN ar∧fb ad ac H aN jN rh∧∀r x,a7 aN aC L r x→a7 aN jN rh (co (dm aW H.length K) r) x:=by
 let aU:=dm aW H.length K
 let jN:b9:=λ c=>match bt aW c.c with
  |some i=>aC ⟨i,c.r⟩
  |none=>if c.c<H.length then ac c else match K[c.c-H.length]? with
   |some i=>aC ⟨i,c.r⟩
   |none=>none
 have vG:((L.take aW.length).map (Chunk.cL aU)).length=aW.length:=by simp;omega
 have qp:∀c,rh[c]?=match bt aW c with
   |some i=>(L[i]?).map (Chunk.cL aU)
   |none=>if c<H.length then H[c]? else match K[c-H.length]? with
    |some i=>(L[i]?).map (Chunk.cL aU)
    |none=>none:=by
  intro c;rw[gU];by_cases ah:c<H.length
  ·rw[en (by rw[xP];exact ah),NR _ _ _ aF vG bf];cases av:bt aW c with
   |none=>simp[ah]
   |some i=>have aA:=(bF.1 (n8 av)).1;simp[nZ,aA,aU]
  ·rw[ha (by rw[xP];omega),xP];have av:bt aW c=none:=by
    cases h:bt aW c with
    |none=>rfl
    |some i=>exact absurd (bf c (jG (n8 h))) ah
   rw[av];simp only[ah,if_false,fA];cases az:K[c-H.length]? with
   |none=>rfl
   |some i=>have:=NW i (jG az);simp[this,aU]
 have aRp:rh.length=H.length+K.length:=by rw[gU];simp[xP]
 have rf:IY aU aC L jN rh:=by
  intro i c h;have aO:(aW[i]?=some c)∨(aW[i]?=none∧∃ab,bt K i=some ab∧c=ab+H.length):=by
   simp only[aU,dm]at h;split at h
   ·rename_i d aM;cases h;exact .inl aM
   ·rename_i aM;simp only[c0]at h;obtain⟨ab,a',rfl⟩:=h;exact .inr ⟨aM,ab,a',rfl⟩
  rcases aO with dc|⟨_,ab,a',rfl⟩
  ·have av:=zI aF dc;have ah:=bf c (jG dc);exact⟨R,λ r=>by simp[jN,av],by rw[qp,av]⟩
  ·have B6:=n8 a';have jO:=(bF.1 B6).1;have av:bt aW (ab+H.length)=none:=by
    cases h:bt aW (ab+H.length)with
    |none=>rfl
    |some i=>have:=bf _ (jG (n8 h));omega
   have e:¬(ab+H.length<H.length):=R;refine⟨R,λ r=>by simp[jN,av,B6];intro h;omega,by rw[qp,av];simp[B6];intro h;omega⟩
 have own:∀(i:fj) b n,aC i=some (b,n)→w.heap.size≤b∨∃(c:fj) (m:Nat),c.c∈aW∧ac c=some (b,m):=by
  intro i b n h;rcases du.own i b n h with j|⟨ab,m,j⟩
  ·exact .inl j
  ·unfold n_ at j;split at j
   ·rename_i c ah;exact .inr ⟨⟨c,_⟩,m,jG ah,j⟩
   ·cases j
 have frame:∀(c:fj),c.c∉aW→∀b n,ac c=some (b,n)→ar.heap[b]?=w.heap[b]?:=by
  intro c alj b n h;refine du.frame b (aq.sep _ _ _ h).2.1 λ i m aA=>?_
  unfold n_ at aA;split at aA
  ·rename_i d aM;have:=aq.inj _ _ _ _ _ h aA;subst this;exact alj (jG aM)
  ·cases aA
 have Fm:∀(c:fj) b n,jN c=some (b,n)→(∃i,aC ⟨i,c.r⟩=some (b,n)∧((bt aW c.c=some i)∨(bt aW c.c=none∧H.length≤c.c∧K[c.c-H.length]?=some i)))∨(c.c∉aW∧bt aW c.c=none∧c.c<H.length∧ac c=some (b,n)):=by
  intro c b n h;simp only[jN]at h;split at h
  ·rename_i i aA;exact .inl ⟨i,h,.inl aA⟩
  ·rename_i av;split at h
   ·rename_i ah;exact .inr ⟨UN av,av,ah,h⟩
   ·rename_i ah;split at h
    ·rename_i i aA;exact .inl ⟨i,h,.inr ⟨av,R,aA⟩⟩
    ·cases h
 have US:∀(i:fj) b n (c:fj) m,aC i=some (b,n)→c.c∉aW→ac c=some (b,m)→False:=by
  intro i b n c m j ah J;rcases own i b n j with aw|⟨d,b1,aM,aw⟩
  ·have:=(aq.sep _ _ _ J).2.1;omega
  ·have:=aq.inj _ _ _ _ _ J aw;subst this;exact ah aM
 have UT:fb ad ac H aN jN rh:=by
  intro a v r;have I1:=λ a v (r:a7 ad ac H a v)=>vE (ap:=rh) (aC:=jN) rf (hm _ _ (vE (Fl aF bf) r))
  induction r with
  |dead v=>exact .dead v
  |i x v h=>exact .i x v (h.mono du.dT)
  |agg cells cs an _ a8=>exact .agg cells cs an a8
  |aR fn first fy eP cs an hm _ _ nX nY=>exact .aR fn first fy eP cs an hm nX nY
  |be vs xs an _ a8=>exact .be vs xs an a8
  |ref c g off len v ah aS aK av aP=>
   cases hS:bt aW c with
   |some i=>
    have:=I1 _ _ (.ref c g off len v ah aS aK av aP);have ak:aU i=some c:=by simp[aU,dm,n8 hS]
    simp only[co,hS]at this;rw[ak]at this;exact this
   |none=>
    have aQ:rh[c]?=H[c]?:=by rw[qp,hS];simp[ah]
    have cf:jN c=ac c:=by simp[jN,hS,ah]
    refine .ref c g off len v R (λ ay rows ex h=>?_) (λ ay rows ex h=>?_) av (λ ay aY rows ex h=>?_)
    ·rw[aQ]at h;have:=aS _ _ _ h;unfold sX at*;rw[cf];exact this
    ·rw[aQ]at h;exact⟨(aK _ _ _ h).1,(aK _ _ _ h).2.mono du.dT⟩
    ·rw[aQ]at h;exact aP _ _ _ _ h
  |dA c v ah hm bq hu av bg=>
   cases hS:bt aW c with
   |some i=>
    have:=I1 _ _ (.dA c v ah hm bq hu av bg);have ak:aU i=some c:=by simp[aU,dm,n8 hS]
    simp only[co,hS]at this;rw[ak]at this;exact this
   |none=>
    have aQ:rh[c]?=H[c]?:=by rw[qp,hS];simp[ah]
    have cf:jN c=ac c:=by simp[jN,hS,ah]
    refine .dA c v R (λ es h=>?_) (λ t cells h=>?_) (λ t l h=>?_) av (λ ay g rows ex h=>by rw[aQ]at h;exact bg _ _ _ _ h)
    ·rw[aQ]at h;rw[cf];exact hm _ h
    ·rw[aQ]at h;rw[cf];exact bq _ _ h
    ·rw[aQ]at h;rw[cf];exact hu _ _ h
  |x k v h aK=>
   cases hS:bt aW k.c with
   |some i=>
    have:=I1 _ _ (.x k v h aK);have ak:aU i=some k.c:=by simp[aU,dm,n8 hS]
    simp only[co,hS]at this;have pE:(k.to i).c=i:=by cases k<;>rfl
    have M6:(k.to i).to k.c=k:=by cases k<;>rfl
    rw[pE,ak]at this;simp only[M6]at this;exact this
   |none=>
    have ah:=h.lt;have aQ:rh[k.c]?=H[k.c]?:=by rw[qp,hS];simp[ah]
    refine .x _ _ (h.step R ?_) (aK.to du.dT λ g rows e=>by rw[←aQ];exact e);intro z g s rows ll;rw[aQ]at ll;exact .inl ⟨s,rows,ll,by simp[jN,hS,ah],rfl,.inr ⟨rfl,λ r bR ai=>⟨bR,ai,rfl,by simp[jN,hS,ah]⟩⟩⟩
  |ptr c g r k v ah ak aS aK aA av aP=>
   cases hS:bt aW c with
   |some i=>
    have:=I1 _ _ (.ptr c g r k v ah ak aS aK aA av aP);have ak:aU i=some c:=by simp[aU,dm,n8 hS]
    simp only[co,hS]at this;rw[ak]at this;exact this
   |none=>
    have aQ:rh[c]?=H[c]?:=by rw[qp,hS];simp[ah]
    have cf:jN c=ac c:=by simp[jN,hS,ah]
    refine .ptr c g r k v R (λ cells h=>?_) (λ ay rows ex h=>?_) (λ ay rows ex row h ai=>?_) (λ s p h=>?_) av (λ ay aY rows ex h=>?_)
    ·rw[aQ]at h;rw[cf];exact ak _ h
    ·rw[aQ]at h;rw[cf];exact aS _ _ _ h
    ·rw[aQ]at h;exact(aK _ _ _ _ h ai).mono du.dT
    ·rw[aQ]at h;rw[cf];exact aA _ _ h
    ·rw[aQ]at h;exact aP _ _ _ _ h
 refine⟨jN,⟨B5.dT,λ c x al=>?_,λ c cp b n dO j J=>?_,λ c b n h=>?_,B5.e_⟩,⟨du.os,du.tape,du.output,du.size,λ b ak B7=>?_,du.dT,λ b ak=>?_,λ c b n h=>?_⟩,UT,λ r x ai=>vE rf ai⟩
 ·rw[qp]at al;split at al
  ·rename_i i aA;simp only[c0]at al;obtain⟨y,aZ,rfl⟩:=al;exact NQ rf (λ r=>by simp[jN,aA]) (B5.b7 _ _ aZ)
  ·rename_i av;split at al
   ·rename_i ah;exact(aq.b7 _ _ al).mono (λ r=>by simp[jN,av,ah]) du.dT UT (λ r b n h=>frame ⟨c,r⟩ (UN av) b n h)
   ·rename_i ah;split at al
    ·rename_i i aA;simp only[c0]at al;obtain⟨y,aZ,rfl⟩:=al;exact NQ rf (λ r=>by simp[jN,av,ah,aA]) (B5.b7 _ _ aZ)
    ·cases al
 ·rcases Fm _ _ _ j with⟨i,ao,d1⟩|⟨gh,nC,c7,ao⟩
  ·rcases Fm _ _ _ J with⟨ab,aI,d2⟩|⟨gr,ri,eS,aI⟩
   ·have UU:=B5.inj _ _ _ _ _ ao aI;simp only[fj.mk.injEq]at UU;obtain⟨rfl,iw⟩:=UU;refine fj.ext' ?_ iw;rcases d1 with d1|⟨_,c7,d1⟩
    ·rcases d2 with d2|⟨_,eS,d2⟩
     ·have hC:=n8 d1;have a2:=n8 d2;rw[hC]at a2;exact qf a2
     ·have hC:=(bF.1 (n8 d1)).1;have a2:=I0 i (jG d2);omega
    ·rcases d2 with d2|⟨_,eS,d2⟩
     ·have hC:=(bF.1 (n8 d2)).1;have a2:=I0 i (jG d1);omega
     ·have hC:=zI jt d1;have a2:=zI jt d2;rw[hC]at a2;have:=qf a2;omega
   ·exact(US _ _ _ _ _ ao gr aI).elim
  ·rcases Fm _ _ _ J with⟨ab,aI,d2⟩|⟨gr,ri,eS,aI⟩
   ·exact(US _ _ _ _ _ aI gh ao).elim
   ·exact aq.inj _ _ _ _ _ ao aI
 ·rcases Fm _ _ _ h with⟨i,ao,d1⟩|⟨gh,nC,c7,ao⟩
  ·have:=B5.sep _ _ _ ao;refine⟨this.1,this.2.1,?_⟩;rcases d1 with d1|⟨_,c7,d1⟩
   ·have:=bf c.c (jG (n8 d1));omega
   ·have:=(bF.1 d1).1;omega
  ·have aS:=aq.sep _ _ _ ao;refine⟨?_,by have:=du.size;omega,R⟩;cases cd:aN b with
   |none=>rfl
   |some aj=>
    exfalso;rcases du.q2 b (by rw[cd];simp)with j|j|⟨i,m,j⟩
    ·rw[aS.1]at j;exact j rfl
    ·omega
    ·unfold n_ at j;split at j
     ·rename_i d aM;have:=aq.inj _ _ _ _ _ ao j;subst this;exact gh (jG aM)
     ·cases j
 ·refine du.frame b ak λ i m aA=>?_
  unfold n_ at aA;split at aA
  ·exact B7 _ _ aA
  ·cases aA
 ·rcases du.q2 b ak with j|j|⟨i,m,j⟩
  ·exact .inl j
  ·exact .inr (.inl j)
  ·unfold n_ at j;split at j
   ·exact .inr (.inr ⟨_,_,j⟩)
   ·cases j
 ·rcases Fm _ _ _ h with⟨i,ao,d1⟩|⟨gh,nC,c7,ao⟩
  ·rcases own _ _ _ ao with j|⟨d,m,_,j⟩
   ·exact .inl j
   ·exact .inr ⟨_,_,j⟩
  ·exact .inr ⟨_,_,ao⟩
def alk{aL:dD}(cg:n9 E aL)(tb:zJ E):n9 E (lg E aL):=by
 intro f args H r ap h ad ac w vs aq b0;unfold lg at h;have alm:∀hJ H1,ja E f H args=some (hJ,H1)→cl E ad ac H w H1 w λ aN aC=>oM aN aC H1 hJ vs:=by
  intro hJ H1 av;exact(alh aq _ av b0.2).imp λ aN aC _ _ bn=>⟨by rw[bn.1];exact b0.1,bn.2⟩
 split at h
 ·cases h
 ·rename_i hJ H1 av;obtain⟨ej,dY,dt,lW,hb,I2⟩:=alm hJ H1 av;simp only at h;split at h
  ·cases h
  ·rename_i ix L fh;split at h
   ·cases h
   ·rename_i hlen;simp only[bj,bA]at h;obtain⟨rfl,rfl⟩:=h;obtain⟨Fo,xS⟩:=B3 H1 64 (bz hJ) [] (by simp) (by simp);generalize dc:reach H1 64 (bz hJ) []=aW at*;have NX:oM ej (n_ dY aW) (vF H1 aW) (cB (bt aW) hJ) vs:=by refine⟨by rw[uf];simpa using I2.1,λ k a aB=>?_⟩;rw[uf]at aB;simp only[fA,c0]at aB;obtain⟨b,ak,rfl⟩:=aB;exact vE (Fl Fo xS) (I2.2 k b ak)
    refine(ald cg tb f _ _ _ _ fh ej (n_ dY aW) w vs (UR dt Fo xS) NX).mono λ e ar he=>?_
    obtain⟨x,al,e2,ez,bG,bH,cG,eZ⟩:=he;obtain⟨pF,aln⟩:=B3 L 64 (bd ix++(L.take aW.length).flatMap Chunk.refs) [] (by simp) (by simp);obtain⟨jN,fo,dE,I3,B8⟩:=ali dt Fo xS bG bH cG R (K:=(reach L 64 (bd ix++(L.take aW.length).flatMap Chunk.refs) []).filter λ i=>decide (aW.length≤i))
     (pF.filter _) (λ i aA=>by simpa using(NY.1 aA).2) (λ i aA=>aln i (NY.1 aA).1) rfl
    exact⟨x,al,e2,jN,fo,lW.trans dE,hb.trans I3,B8 _ _ eZ⟩
end
section
variable{E:Env}{ad:cb}{ac:b9}{H:aa}{w:World}
def UW{l m:List U}{xs cS:Array Value}(h:oM ad ac H l xs)(k:oM ad ac H m cS):oM ad ac H (l++m) (xs++cS):=by
 refine⟨by simp[h.1,k.1],λ ab a aB=>?_⟩;rw[tZ]at aB;rw[dp];split at aB
 ·rename_i a';have:=h.2 _ _ aB;rw[xI (by rw[h.1];exact a'),←dp];exact this
 ·rename_i a';have:=k.2 _ _ aB;rw[Uz (by rw[h.1];omega),h.1,←dp];exact this
def alo{I:Fr}{a:Act}(aq:b6 E ad ac H w)(aK:e1 ad ac H I a.tmps)(l:Array Operand):oM ad ac H (l.toList.map (bo E I)) (l.map a.eval):=by refine⟨by simp,λ k b ak=>?_⟩;simp only[fA,c0,mW]at ak;obtain⟨x,al,rfl⟩:=ak;have bf:=(j6.1 al).1;rw[getD_map _ _ _ bf,(j6.1 al).2];exact eK aq aK x
def zK(E:Env):Prop:=∀g fn,E.oy g=some fn→∀(v:Value) (w:World),v.oneCell'=true→Calls E.P g #[v] w λ e ar=>e=.returned (.func (.func fn) #[] #[.pointer (some ⟨w.heap.size,0,none⟩)])∧∃t,ar=w.alloc (.cells #[v] t)
def alp(h:∀f,E.oy f=none):zK E:=λ g fn aP=>by rw[h]at aP;cases aP
def alq{a:U}{v:Value}(r:a7 ad ac H a v)(h:one a=true):v.oneCell'=true∧cA a=[a]∧v.cells=#[v]:=by
 have j:cA a=[a]:=by cases a<;>simp[one]at h<;>rfl
 have J:(cA a).all one=true:=by rw[j];simp[h]
 obtain⟨ao,aI,bE⟩:=tV r J;have b':v.oneCell'=true:=by
  cases r with
  |i x v al=>exact ES al
  |ref c g off len v ah aS aK av aP=>obtain⟨a,m,rfl⟩:=av;rfl
  |ptr c g r k v ah ak aS aK aA av aP=>obtain⟨a,rfl⟩:=av;rfl
  |dA c v ah hm bq hu av bg=>exact av
  |x k v al aK=>exact al.one
  |aR=>rfl
  |_=>simp[one]at h
 exact⟨b',j,by cases v<;>simp_all [sg,MN]⟩
def alr{x y:Value}(h:Eu x y=true):x=y:=by
 unfold Eu at h;split at h
 ·split at h
  ·simp only[cO,decide_eq_true_eq]at h;rw[h.1,h.2]
  ·cases h
 ·split at h
  ·rw[eq_of_beq h]
  ·cases h
 ·split at h
  ·rfl
  ·cases h
 ·split at h
  ·rfl
  ·cases h
 ·split at h
  ·rfl
  ·cases h
 ·exact @of_decide_eq_true _ (Classical.propDecidable _) h
def als(x:Value):Eu x x=true:=by unfold Eu;split<;>simp
mutual
theorem I4:∀{x y:aD},lM x y=true→x=y
 |.v x,y,h=>by
  cases y with
  |v y=>simp only[lM]at h;rw[alr h]
  |_=>simp[lM]at h
 |.str a,y,h=>by
  cases y with
  |str b=>simp only[lM]at h;rw[eq_of_beq h]
  |_=>simp[lM]at h
 |.ae z r e,y,h=>by
  cases y with
  |ae db ht lh=>simp only[lM,cO]at h;rw[eq_of_beq h.1,B9 h.2.1,eq_of_beq h.2.2]
  |_=>simp[lM]at h
 |.gl c aj,y,h=>by
  cases y with
  |gl cp r_=>simp only[lM,cO]at h;rw[NZ h.1,eq_of_beq h.2]
  |_=>simp[lM]at h
 |.mp a,y,h=>by
  cases y with
  |mp b=>simp only[lM,decide_eq_true_eq]at h;rw[h]
  |_=>simp[lM]at h
theorem NZ:∀{x y:List aD},vc x y=true→x=y
 |[],y,h=>by
  cases y with
  |nil=>rfl
  |cons=>simp[vc]at h
 |a::r,y,h=>by
  cases y with
  |nil=>simp[vc]at h
  |cons b t=>simp only[vc,cO]at h;rw[I4 h.1,NZ h.2]
theorem B9:∀{x y:List (List aD)},r9 x y=true→x=y
 |[],y,h=>by
  cases y with
  |nil=>rfl
  |cons=>simp[r9]at h
 |a::r,y,h=>by
  cases y with
  |nil=>simp[r9]at h
  |cons b t=>simp only[r9,cO]at h;rw[NZ h.1,B9 h.2]
end
mutual
theorem I5:∀x:aD,lM x x=true
 |.v x=>by simp[lM,als]
 |.str a=>by simp[lM]
 |.ae z r e=>by simp[lM,I6 r]
 |.gl c aj=>by simp[lM,N0 c]
 |.mp a=>by simp[lM]
theorem N0:∀x:List aD,vc x x=true
 |[]=>rfl
 |a::r=>by simp[vc,I5 a,N0 r]
theorem I6:∀x:List (List aD),r9 x x=true
 |[]=>rfl
 |a::r=>by simp[r9,N0 a,I6 r]
end
def alt{x y:Fn}(h:HW x y=true):x=y:=of_decide_eq_true h
def alu(x:Fn):HW x x=true:=by simp[HW]
mutual
theorem UX:∀{x y:U},iF x y=true→x=y
 |.dead,y,h=>by
  cases y with
  |dead=>rfl
  |_=>simp[iF]at h
 |.i x,y,h=>by
  cases y with
  |i y=>simp only[iF]at h;rw[I4 h]
  |_=>simp[iF]at h
 |.agg a,y,h=>by
  cases y with
  |agg b=>simp only[iF]at h;rw[zL h]
  |_=>simp[iF]at h
 |.ref a b c d,y,h=>by
  cases y with
  |ref bY bV cp hR=>simp only[iF,cO,beq_iff_eq]at h;obtain⟨rfl,rfl,rfl,rfl⟩:=h;rfl
  |_=>simp[iF]at h
 |.ptr a b c d,y,h=>by
  cases y with
  |ptr bY bV cp hR=>simp only[iF,cO,beq_iff_eq]at h;obtain⟨rfl,rfl,rfl,rfl⟩:=h;rfl
  |_=>simp[iF]at h
 |.dA a,y,h=>by
  cases y with
  |dA b=>simp only[iF]at h;rw[eq_of_beq h]
  |_=>simp[iF]at h
 |.x a,y,h=>by
  cases y with
  |x b=>simp only[iF,decide_eq_true_eq]at h;rw[h]
  |_=>simp[iF]at h
 |.aR f a b,y,h=>by
  cases y with
  |aR HX bY bV=>simp only[iF,cO]at h;rw[alt h.1,zL h.2.1,zL h.2.2]
  |_=>simp[iF]at h
 |.be a,y,h=>by
  cases y with
  |be b=>simp only[iF]at h;rw[zL h]
  |_=>simp[iF]at h
theorem zL:∀{x y:List U},qX x y=true→x=y
 |[],y,h=>by
  cases y with
  |nil=>rfl
  |cons=>simp[qX]at h
 |a::r,y,h=>by
  cases y with
  |nil=>simp[qX]at h
  |cons b t=>simp only[qX,cO]at h;rw[UX h.1,zL h.2]
end
mutual
theorem UY:∀x:U,iF x x=true
 |.dead=>rfl
 |.i x=>by simp[iF,I5]
 |.agg a=>by simp[iF,B_ a]
 |.ref a b c d=>by simp[iF]
 |.ptr a b c d=>by simp[iF]
 |.dA a=>by simp[iF]
 |.x a=>by simp[iF]
 |.aR f a b=>by simp[iF,alu,B_ a,B_ b]
 |.be a=>by simp[iF,B_ a]
theorem B_:∀x:List U,qX x x=true
 |[]=>rfl
 |a::r=>by simp[qX,UY a,B_ r]
end
def UZ:∀{x y:List (aD×U)},xa x y=true→x=y
 |[],[],_=>rfl
 |[],_::_,h=>by simp[xa]at h
 |_::_,[],h=>by simp[xa]at h
 |(a,bY)::r,(b,bV)::t,h=>by simp only[xa,cO]at h;rw[I4 h.1.1,UX h.1.2,UZ h.2]
def U0:∀x:List (aD×U),xa x x=true
 |[]=>rfl
 |a::r=>by simp[xa,I5,UY,U0 r]
def alv{x y:bS}(h:Ev x y=true):x=y:=by
 unfold Ev at h;split at h
 ·rw[B9 h]
 ·rw[I4 h]
 ·rfl
 ·cases h
def alw(x:bS):Ev x x=true:=by cases x<;>simp[Ev,I6,I5]
def U1:∀{x y:List bS},w' x y=true→x=y
 |[],[],_=>rfl
 |[],_::_,h=>by simp[w']at h
 |_::_,[],h=>by simp[w']at h
 |a::r,b::t,h=>by simp only[w',cO]at h;rw[alv h.1,U1 h.2]
def U2:∀x:List bS,w' x x=true
 |[]=>rfl
 |a::r=>by simp[w',alw,U2 r]
def alx{x y:Chunk}(h:Ew x y=true):x=y:=by
 unfold Ew at h;split at h
 ·rw[zL h]
 ·simp only[cO,beq_iff_eq]at h;obtain⟨rfl,rfl,aw,rfl⟩:=h;rw[B9 aw]
 ·simp only[cO,beq_iff_eq]at h;obtain⟨rfl,rfl,aw,rfl⟩:=h;rw[B9 aw]
 ·simp only[cO,beq_iff_eq]at h;obtain⟨rfl,rfl⟩:=h;rfl
 ·rw[UZ h]
 ·simp only[cO,beq_iff_eq]at h;obtain⟨rfl,J⟩:=h;rw[zL J]
 ·simp only[cO,beq_iff_eq]at h;obtain⟨rfl,rfl⟩:=h;rfl
 ·rfl
 ·simp only[cO,beq_iff_eq]at h;obtain⟨rfl,J⟩:=h;rw[B9 J]
 ·simp only[cO,beq_iff_eq]at h;obtain⟨rfl,rfl,rfl,bb⟩:=h;rw[U1 bb]
 ·cases h
def aly(x:Chunk):Ew x x=true:=by cases x<;>simp[Ew,B_,I6,U0,U2]
def U3:∀{x y:aa},xb x y=true→x=y
 |[],[],_=>rfl
 |[],_::_,h=>by simp[xb]at h
 |_::_,[],h=>by simp[xb]at h
 |a::r,b::t,h=>by simp only[xb,cO]at h;rw[alx h.1,U3 h.2]
def U4:∀x:aa,xb x x=true
 |[]=>rfl
 |a::r=>by simp[xb,aly,U4 r]
def I7(v:U):xc H (some (v,H))=some (v,H):=by simp only[xc,U4,if_true]
def Fp{q:Option (U×aa)}{v:U}{ap:aa}(h:xc H q=some (v,ap)):ap=H∧q=some (v,H):=by
 unfold xc at h;split at h
 ·split at h
  ·rename_i he;cases h;exact⟨rfl,by rw[←U3 he]⟩
  ·cases h
 ·cases h
def alz{aL:dD}(hmk:zK E)(cg:n9 E (lg E aL)):n9 E (gn E aL):=by
 intro f args H r ap h ad ac w vs aq b0;unfold gn at h;split at h
 ·rename_i fn qq;unfold xd at h;split at h
  ·rename_i a;split at h
   ·rename_i b';cases h;have ai:=b0.2 0 a rfl;have U5:vs=#[vs.getD 0 undef]:=by
     have j:=b0.1;obtain⟨l⟩:=vs
     match l,j with
     |[x],_=>rfl
    generalize vs.getD 0 undef=v at ai U5;subst U5;obtain⟨bG,bH,cG⟩:=alq ai b';refine(hmk f fn qq v w bG).mono λ e ar ⟨ao,t,aI⟩=>?_
    have hw:ar.heap=w.heap.push (.cells #[v] t):=by rw[aI];rfl
    refine⟨_,ao,Ir (ar:=ar) aq hw (by rw[aI];rfl) (by rw[aI];rfl) (by rw[aI];rfl) (.box [a]) (λ hm=>?_) (λ hm=>?_)⟩
    ·exact⟨w.heap.size,#[v],t,(0,0),by simp[fS],xC hw,ps _,rfl,λ k c ah=>by
      cases k with
      |zero=>simp at ah;subst ah;exact hm _ _ ai
      |succ k=>simp at ah⟩
    ·refine .aR _ _ _ _ _ rfl rfl (λ k a h=>by simp at h) (λ k b h=>?_);cases k with
     |zero=>simp at h;subst h;exact .ptr _ _ _ _ _ (by simp) (λ cells h=>⟨w.heap.size,1,by simp[fS],rfl⟩) (λ _ _ _ h=>by simp at h) (λ _ _ _ _ h=>by simp at h) (λ _ _ h=>by simp at h) ⟨_,rfl⟩ (λ _ _ _ _ h=>by simp at h)
     |succ k=>simp at h
   ·cases h
  ·cases h
 ·split at h
  ·obtain⟨rfl,J⟩:=Fp h;exact cg f args _ r _ J ad ac w vs aq b0
  ·exact cg f args H r ap h ad ac w vs aq b0
def N1{aL:dD}(cg:n9 E (gn E aL)){I:Fr}{a:Act}{aj:Oper}{v:U}{ap:aa}(h:ci E aL aj.op I H=some (v,ap))(aq:b6 E ad ac H w)(aK:e1 ad ac H I a.tmps)
  {K:Act→World→Prop}{Q:Exit→Act→World→Prop}(jt:∀x ar,cl E ad ac H w ap ar (λ aN aC=>a7 aN aC ap v x)→K (a.put aj.dst x) ar):aj.wp E.P a w K Q:=by
 have other:(∀f args e6,aj.op≠.call ⟨.value f,args,e6⟩)→(if eC E aj.op then dh E I H aj.op else(ev E I H aj.op).map λ v=>(v,H))=some (v,ap)→aj.wp E.P a w K Q:=by
  intro _ h;split at h
  ·obtain⟨ue,x,ar,j,J,aw⟩:=UJ h aq aK;unfold Oper.wp;rw[j];cases ue<;>simp only[NO]at J<;>first|(cases J;done)|skip
   ·cases J;exact jt _ _ aw
   ·cases J;exact jt _ _ aw
  ·simp only[c0,bA]at h;obtain⟨hi,j,rfl,rfl⟩:=h;obtain⟨x,J,aw⟩:=akt j aq aK;unfold Oper.wp;rw[J];exact jt _ _ (cl.refl aq aw)
 by_cases B':∃f args e6,aj.op=.call ⟨.value f,args,e6⟩
 ·obtain⟨f,args,e6,b'⟩:=B';rw[b']at h;simp only[ci]at h;split at h
  ·rename_i g bI aP;split at h
   ·rename_i pG;unfold xe at aP;split at aP
    ·rename_i aY first fy Fk
     simp only[bj,bA]at aP;obtain⟨rfl,rfl⟩:=aP;have N2:=eK aq aK f;rw[Fk]at N2;generalize aZ:a.eval f=y at N2;cases N2 with
     |aR fn eP cs xs cS an hm j J=>
      have b0:oM ad ac H (first++args.toList.map (bo E I)++fy) (xs++args.map a.eval++cS):=UW (UW ⟨an,j⟩ (alo aq aK args)) ⟨hm,J⟩;have N3:∃fn,E.P.funcs[aY]?=some fn∧fn.body.isSome=true∧(fn.name== "runtime.NumGoroutine")=false:=by
       unfold li at pG;split at pG
       ·rename_i fn qq;simp only[cO,rj]at pG;exact⟨fn,qq,pG.1,pG.2⟩
       ·cases pG
      obtain⟨fn,qq,ak,aF⟩:=N3;have lQ:(execOp a.eval aj).run E.P w=.ok (.enter aY (xs++args.map a.eval++cS)) w:=by
       have js:¬fn.body=none:=by cases fg:fn.body<;>simp_all
       have Ca:¬fn.name= "runtime.NumGoroutine":=by simpa using aF
       simp[execOp,b',resolve,aZ,Deferred.ofValue,invoke,callFunc,qq,Ca,js]
      unfold Oper.wp;rw[lQ,Oper.upon_enter];refine(cg _ _ _ _ _ h ad ac w _ aq b0).mono λ e ar he=>?_
      obtain⟨x,rfl,al⟩:=he;exact jt _ _ al
    ·cases aP
   ·cases h
  ·cases h
 ·have gp:∀f args e6,aj.op≠.call ⟨.value f,args,e6⟩:=λ f args e6 e=>B' ⟨f,args,e6,e⟩
  refine other gp ?_;unfold ci at h;split at h
  ·rename_i f args e6 he;exact absurd he (gp _ _ _)
  ·exact h
def pH(ro:Option Nat):Fence:={Fence.wide with round:=ro}
def alA{ro:Option Nat}{n:Nat}{P:Program}{f:FuncId}{args:Array Value}{w:World}{aW:Ending→World→Prop}(h:Calls P f args w aW):CallsIn (pH ro) n P f args w aW:=(callsIn_wide (n:=n)).2 h
def alB{ro:Option Nat}{n:Nat}{P:Program}{row:String}{args:Array Value}{w:World}{aW:Value→World→Prop}(h:Rows P row args w aW):RowsIn (pH ro) n P row args w aW:=
 λ c cs _=>let ⟨v,ar,r,s⟩:=h c cs;⟨v,ar,r,stepsIn_wide.2 s⟩
def N4{ro:Option Nat}{n:Nat}{P:Program}{aj:Oper}{a:Act}{w:World}{K:Act→World→Prop}{Q:Exit→Act→World→Prop}(aM:∀c,aj.op≠.defer c)(h:aj.wp P a w K Q):aj.wpIn (pH ro) n P a w K Q:=by
 refine⟨λ _ _=>trivial,?_⟩;have aS:aj.semAt (pH ro).round a.eval=execOp a.eval aj:=by
  cases ro with
  |none=>rfl
  |some l=>exact Oper.semAt_some l _ _ aM
 rw[aS];unfold Oper.wp at h;generalize (execOp a.eval aj).run P w=r at*;cases r with
 |ok x ar=>
  cases x<;>simp only[Oper.upon,Oper.uponIn]at h⊢<;>
   first
    |exact h
    |exact⟨λ h=>(by cases h),alA h⟩
    |exact⟨λ h=>(by cases h),alB h⟩
    |exact h.elim
 |halt x ar=>cases x<;>simp only[Oper.upon,Oper.uponIn]at h⊢<;>exact h
def U6{E:Env}{aL:dD}{aj:Op}{I:Fr}{H:aa}{r:U×aa}(h:ci E aL aj I H=some r):∀c,aj≠.defer c:=by rintro c rfl;simp[ci,eC,ev]at h
def Cb{I:Fr}{tmps:Array Value}(aK:e1 ad ac H I tmps){ops:Array Oper}{aj:Oper}{b:Bool}(h:gw ops.toList I aj=some b):Region.wanted aj (yielded ops tmps)=b:=by
 unfold gw at h;unfold Region.wanted;split at h
 ·rename_i aP;cases h;rw[aP]
 ·rename_i ab want aP;rw[aP];simp only[mW]at h;split at h
  ·rename_i d aM;have r:=aK d;split at h
   ·rename_i c ah;cases h;rw[ah]at r;have bi:=fz r;have:tmps[d]?=some (.bool c):=by
     rw[dp]at bi;cases h:tmps[d]? with
     |none=>rw[h]at bi;simp[undef]at bi
     |some x=>rw[h]at bi;simp at bi;rw[bi]
    simp[yielded,aM,this]
   ·rename_i ah;cases h;rw[ah]at r;obtain⟨cs,eX,bg,_⟩:=Tk r;have:∀c,tmps[d]?≠some (.bool c):=by intro c e9;simp[dp,e9]at eX
    have aZ:yielded ops tmps ab=none:=by
     unfold yielded;rw[aM];show(match tmps[d]? with|some (.bool b)=>some b|_=>none)=none;split
     ·rename_i c e9;exact absurd e9 (this c)
     ·rfl
    show(yielded ops tmps ab==some want)=false;rw[aZ];rfl
   ·cases h
  ·cases h
def Cc(n:Nat)(l:List Oper):Prop:=∀aj∈l,∀d,aj.dst=some d→d<n
def xT(a:Act)(d:Option Nat)(x:Value):(a.put d x).tmps.size=a.tmps.size:=by cases d<;>simp[Act.put]
def put_defers(a:Act)(d:Option Nat)(x:Value):(a.put d x).defers=a.defers:=by cases d<;>simp[Act.put]
def N5{aL:dD}{ro:Option Nat}{n:Nat}(cg:n9 E (gn E aL)){ops:Array Oper}{Q:Exit→Act→World→Prop}:∀(l:List Oper) {I bN:Fr} {H ap:aa} {ad:cb} {ac:b9} {a:Act} {w:World},iu E aL ops.toList l I H=some (bN,ap)→
  b6 E ad ac H w→e1 ad ac H I a.tmps→Cc a.tmps.size l→
  (∀bY ar,bY.defers=a.defers→bY.tmps.size=a.tmps.size→cl E ad ac H w ap ar (λ aN aC=>e1 aN aC ap bN bY.tmps)→Q .normal bY ar)→wpListIn (pH ro) n E.P ops Q l a w
 |[],I,bN,H,ap,ad,ac,a,w,h,aq,aK,_,eY=>by simp only[iu,bj,bA]at h;obtain⟨rfl,rfl⟩:=h;exact eY a w rfl rfl (cl.refl aq aK)
 |aj::l,I,bN,H,ap,ad,ac,a,w,h,aq,aK,aM,eY=>by
  simp only[iu]at h;unfold wpListIn;split at h
  ·rename_i aP;rw[Cb aK aP];simp only[if_true];split at h
   ·rename_i v H1 bi;refine N4 (U6 bi) (N1 cg bi aq aK λ x gg al=>?_);obtain⟨ej,dY,dt,lW,hb,n2⟩:=al;refine N5 cg l h dt ((aK.mono hb).put n2 aj.dst λ k az=>aM aj (by simp) k az) (by rw[xT];exact λ aj b' d N6=>aM aj (by simp[b']) d N6) λ bY ar kb ey b0=>?_
    rw[put_defers]at kb;rw[xT]at ey;obtain⟨e2,ez,bG,bH,cG,eZ⟩:=b0;exact eY bY ar kb ey ⟨e2,ez,bG,lW.trans bH,hb.trans cG,eZ⟩
   ·cases h
  ·rename_i aP;rw[Cb aK aP];simp only[fK,if_false];refine⟨λ _ _=>trivial,?_⟩;refine N5 cg l h aq (aK.put (My _ _ _) aj.dst λ k az=>aM aj (by simp) k az) (by rw[xT];exact λ aj b' d N6=>aM aj (by simp[b']) d N6) λ bY ar kb ey b0=>?_
   rw[put_defers]at kb;rw[xT]at ey;exact eY bY ar kb ey b0
  ·cases h
end
section
variable{E:Env}{aL:dD}{ops:List Oper}
def qs(E:Env)(I bN:Fr)(op:Op):Prop:=∀x∈op.operands,bo E I x=bo E bN x
def Cd{I bN:Fr}{l:Array Operand}(h:∀x∈l,bo E I x=bo E bN x):l.toList.map (bo E I)=l.toList.map (bo E bN):=
 zM λ x al=>h x (by simpa using al)
def N7{I bN:Fr}{l:Array (Nat×Operand)}(h:∀x∈(l.toList.map (·.2)).toArray,bo E I x=bo E bN x):(l.toList.map λ p=>(p.1,bo E I p.2))=l.toList.map λ p=>(p.1,bo E bN p.2):=
 zM λ p av=>by rw[h p.2 (by simp;exact⟨p.1,by simpa using av⟩)]
def Fq{I bN:Fr}{aj:Option Operand}(h:∀x∈aj.toArray,bo E I x=bo E bN x):aj.map (bo E I)=aj.map (bo E bN):=by
 cases aj with
 |none=>rfl
 |some x=>simp[h x (by simp)]
def alC{I bN:Fr}{H:aa}{op:Op}(h:qs E I bN op):ev E I H op=ev E bN H op:=by
 unfold qs at h;cases op<;>simp only[Op.operands]at h<;>simp only[ev]
 case move x=>rw[h x (by simp)]
 case assign x=>rw[h x (by simp)]
 case pick c a b=>rw[h c (by simp),h a (by simp),h b (by simp)]
 case build t bm=>rw[N7 h]
 case load t x=>rw[h x (by simp)]
 case nilCheck x=>rw[h x (by simp)]
 case binOp op t x y t2=>rw[h x (by simp),h y (by simp)]
 case unOp op t x=>rw[h x (by simp)]
 case convert s d x=>rw[h x (by simp)]
 case makeFunc fn a b=>rw[Cd (l:=a) λ x al=>h x (by simp[al]),Cd (l:=b) λ x al=>h x (by simp[al])]
 case slice t x l aO m=>rw[h x (by simp),Fq (aj:=l) λ x al=>h x (by simp[al]),Fq (aj:=aO) λ x al=>h x (by simp[al]),Fq (aj:=m) λ x al=>h x (by simp[al])]
 case fieldAddr t x f=>rw[h x (by simp)]
 case field t x f=>rw[h x (by simp)]
 case indexAddr t x i=>rw[h x (by simp),h i (by simp)]
 case index t x i=>rw[h x (by simp),h i (by simp)]
 case extract x n=>rw[h x (by simp)]
 case lookup t x k ok=>rw[h x (by simp),h k (by simp)]
 case call c=>
  obtain⟨callee,args,e6⟩:=c;cases callee with
  |value f=>rfl
  |invoke r m=>rfl
  |builtin b=>
   simp only[N8]at h;have hm:=Cd (E:=E) (I:=I) (bN:=bN) (l:=args) λ x al=>h x (by simpa using al)
   simp only;split
   ·rename_i x t al bq;have:=hm;rw[al]at this;simp at this;rw[this]
   ·rename_i al bq;rw[hm]
   ·rename_i al bq;rw[hm]
   ·rfl
def U7{I bN:Fr}{H:aa}{op:Op}(h:qs E I bN op):dh E I H op=dh E bN H op:=by
 unfold qs at h;cases op<;>simp only[Op.operands]at h<;>simp only[dh]
 case box t x=>rw[h x (by simp)]
 case buildSlice t n bm=>rw[N7 h]
 case store t a x=>rw[h a (by simp),h x (by simp)]
 case slice t x l aO m=>
  cases m with
  |none=>rfl
  |some m=>simp only;rw[h x (by simp),h m (by simp),Fq (aj:=l) λ x al=>h x (by simp[al]),Fq (aj:=aO) λ x al=>h x (by simp[al])]
 case makeSlice t l c=>rw[h l (by simp),h c (by simp)]
 case convert s d x=>rw[h x (by simp)]
 case range t x=>rw[h x (by simp)]
 case next it b=>rw[h it (by simp)]
 case makeMap t r=>cases r<;>rfl
 case mapUpdate t m k x=>rw[h m (by simp),h k (by simp),h x (by simp)]
 case insert t m k x=>rw[h m (by simp),h k (by simp),h x (by simp)]
 case call c=>
  obtain⟨callee,args,e6⟩:=c;cases callee with
  |value f=>rfl
  |invoke r m=>rfl
  |builtin b=>
   simp only[N8]at h;have hm:=Cd (E:=E) (I:=I) (bN:=bN) (l:=args) λ x al=>h x (by simpa using al)
   simp only;split
   ·rename_i s x t t2 al bq;have:=hm;rw[al]at this;simp at this;rw[this.1,this.2]
   ·rename_i s x t t2 al bq;have:=hm;rw[al]at this;simp at this;rw[this.1,this.2]
   ·rfl
def U8{I bN:Fr}{f:Operand}{args:Array Operand}{e6:Array TypeId}(h:qs E I bN (.call ⟨.value f,args,e6⟩)):xe E I f args.toList=xe E bN f args.toList:=by simp only[qs,Op.operands,N8]at h;unfold xe;rw[h f (by simp),Cd (l:=args) λ x al=>h x (by simp[al])]
def N9{I bN:Fr}{H:aa}{op:Op}(h:qs E I bN op):ci E aL op I H=ci E aL op bN H:=by
 unfold ci;split
 ·rw[U8 h]
 ·rw[U7 h,alC h]
def N_{I bN:Fr}{H:aa}{op:Op}(h:qs E I bN op):cR E I H op=cR E bN H op:=by
 have aV:=h;unfold qs at h;cases op<;>simp only[Op.operands]at h<;>simp only[cR]
 case load t x=>rw[h x (by simp)]
 case store t a x=>rw[h a (by simp),h x (by simp)]
 case box t x=>rw[h x (by simp)]
 case slice t x l aO m=>rw[h x (by simp)]
 case indexAddr t x i=>rw[h x (by simp)]
 case buildSlice t n bm=>rw[N7 h]
 case convert s d x=>rw[h x (by simp)]
 case next it b=>rw[h it (by simp)]
 case mapUpdate t m k x=>rw[h m (by simp)]
 case insert t m k x=>rw[h m (by simp)]
 case lookup t x k ok=>rw[h x (by simp)]
 case call c=>
  obtain⟨callee,args,e6⟩:=c;cases callee with
  |value f=>simp only;rw[U8 aV]
  |invoke r m=>rfl
  |builtin b=>simp only[N8]at h;simp only;rw[Cd (l:=args) λ x al=>h x (by simpa using al)]
def alD{H ap:aa}{k:cP}(h:ap[k.c]?=H[k.c]?):u3 ap k=u3 H k:=by cases k<;>simp only[cP.c]at h<;>simp only[u3,h]
def alE{H ap:aa}{z:Nat}{n:Int}{k:cP}(h:ap[k.c]?=H[k.c]?):u4 ap z n k=u4 H z n k:=by cases k<;>simp only[cP.c]at h<;>simp only[u4,h]
def alF{H ap:aa}{p:U}(h:∀c∈bd p,ap[c]?=H[c]?):behind ap p=behind H p:=by
 unfold behind;split
 ·rfl
 ·rw[h _ (by simp[bd])]
 ·exact alD (h _ (by simp[bd]))
 ·rfl
def alG{I:Fr}{H ap:aa}{op:Op}(h:kW op=true→∀c∈cR E I H op,ap[c]?=H[c]?):ev E I ap op=ev E I H op:=by
 cases op<;>simp only[ev]
 case load t x=>simp only[kW,cR,true_implies]at h;unfold tG;rw[alF h]
 case indexAddr t x i=>
  simp only[kW,cR,true_implies]at h;unfold Bi;split
  ·split
   ·rfl
   ·split
    ·rfl
    ·rename_i c g off len _ al;rw[al]at h;rw[h c (by simp[bd])]
    ·rename_i k _ al;rw[al]at h;exact alE (h k.c (by simp[bd]))
    ·rfl
   ·rfl
  ·rfl
 case slice t x l aO m=>
  simp only[kW,cR,true_implies]at h;unfold j2;split
  ·rfl
  ·split
   ·split
    ·split
     ·rfl
     ·rfl
     ·rename_i c g off len al;rw[al]at h;rw[h c (by simp[bd])]
     ·rename_i c g off len al;rw[al]at h;rw[h c (by simp[bd,cP.c])]
     ·rfl
    ·rfl
   ·rfl
 case convert s d x=>
  simp only[kW,cR,true_implies]at h;split
  ·unfold Bk hP;cases al:bo E I x with
   |ref c g off len=>rw[al]at h;simp only;rw[h c (by simp[bd])]
   |i z=>cases z<;>rfl
   |_=>rfl
  ·rfl
 case lookup t x k ok=>
  simp only[kW,cR,true_implies]at h;unfold y0;cases al:bo E I x with
  |dA c=>rw[al]at h;simp only;rw[h c (by simp[bd])]
  |_=>rfl
 case call c=>obtain⟨callee,args,e6⟩:=c;cases callee<;>rfl
def Leaves(H ap:aa)(T:List Nat):Prop:=H.length≤ap.length∧∀c,c<H.length→c∉T→ap[c]?=H[c]?
def Leaves.refl(H:aa)(T:List Nat):Leaves H H T:=⟨cQ _,λ _ _ _=>rfl⟩
def Leaves.iP(H:aa)(x:aa)(T:List Nat):Leaves H (H++x) T:=⟨by simp,λ c ah _=>en ah⟩
def Leaves.trans{H ap nw:aa}{T:List Nat}(h:Leaves H ap T)(k:Leaves ap nw T):Leaves H nw T:=
 ⟨sd h.1 k.1,λ c ah du=>by rw[k.2 c (by have:=h.1;omega) du,h.2 c ah du]⟩
def Leaves.set{H:aa}{c:Nat}{x:Chunk}{T:List Nat}(h:c∈T):Leaves H (H.set c x) T:=
 ⟨by simp,λ d aM du=>by rw[dC (λ e:c=d=>du (e▸h))]⟩
def Leaves.mono{H ap:aa}{T cW:List Nat}(h:Leaves H ap T)(aS:∀c∈T,c∈cW):Leaves H ap cW:=⟨h.1,λ c ah du=>h.2 c ah λ ah=>du (aS c ah)⟩
def alH{H ap:aa}{k:cP}{x:aD}(h:pj H k=some (x,ap)):Leaves H ap [k.c]:=by
 cases k with
 |e=>cases h
 |p=>cases h
 |d c g off len=>
  simp only[pj]at h;unfold u6 Bn at h
  repeat' split at h
  all_goals first|(simp only[bj,bA]at h;obtain⟨_,rfl⟩:=h;first|exact .set (by simp[cP.c])|exact .refl _ _)|cases h
 |h c g s r=>
  simp only[pj]at h;unfold u7 at h
  repeat' split at h
  all_goals first|(simp only[bj,bA]at h;obtain⟨_,rfl⟩:=h;exact .set (by simp[cP.c]))|cases h
def Ce{H ap:aa}{a:U}{x:aD}(h:freeze H a=some (x,ap)):Leaves H ap (bd a):=by
 unfold freeze at h;split at h
 ·cases h;exact .refl _ _
 ·split at h
  ·split at h
   ·simp only[bj,bA]at h;obtain⟨_,rfl⟩:=h;exact .set (by simp[bd])
   ·cases h
  ·split at h
   ·simp only[bj,bA]at h;obtain⟨_,rfl⟩:=h;exact .refl _ _
   ·cases h
  ·cases h
 ·exact alH h
 ·cases h
def U9{H H1:aa}{z:Nat}{v:U}{y:bS}(h:tI z (freeze H v)=some (y,H1)):Leaves H H1 (bd v):=by
 unfold tI at h;split at h
 ·rename_i q bx aK;simp only[bj,bA]at h;obtain⟨_,rfl⟩:=h;exact Ce aK
 ·cases h
def U_{H H1:aa}{z:Nat}{v:U}{y:bS}(h:p8 H z v=some (y,H1)):Leaves H H1 (bd v):=by
 unfold p8 at h;split at h
 ·unfold Bp at h;split at h
  ·split at h
   ·simp only[bj,bA]at h;obtain⟨_,rfl⟩:=h;exact .set (by simp[bd])
   ·cases h
  ·exact U9 h
 ·exact U9 h
def alI{t:TypeId}{n:Nat}{v:U}{k:cP}{H ap:aa}(h:p9 E H t n v k=some ap):Leaves H ap (k.c::bd v):=by
 cases k with
 |d=>cases h
 |h=>cases h
 |e c g r=>
  simp only[p9]at h;split at h
  ·unfold w5 at h;split at h
   ·unfold w4 at h;split at h
    ·rename_i y H1 ai;split at h
     ·split at h
      ·simp only[bj]at h;subst h;exact((U_ ai).mono λ c ah=>by simp[ah]).trans (.set (by simp[cP.c]))
      ·cases h
     ·cases h
    ·cases h
   ·cases h
  ·cases h
 |p c g s r i k=>
  simp only[p9]at h;unfold w6 at h
  repeat' split at h
  all_goals first|(simp only[bj]at h;subst h;exact .set (by simp[cP.c]))|cases h
def U'{z d:Nat}{x:U}{new:List bS}{H H1:aa}(h:lK z H x=some (d,new,H1)):Leaves H H1 (bd x):=by
 unfold lK at h;split at h
 ·unfold u' at h;split at h
  ·split at h
   ·simp only[bj,bA]at h;obtain⟨_,_,rfl⟩:=h;exact .set (by simp[bd,cP.c])
   ·cases h
  ·cases h
 ·cases h
def alJ{t t2:TypeId}{z:Nat}{s x v:U}{H ap:aa}(h:tK E H t t2 z s x=some (v,ap)):Leaves H ap (bd s++bd x):=by
 unfold tK at h;split at h
 ·unfold va at h;split at h
  ·rename_i d new H1 aS;refine((U' aS).mono λ c ah=>by simp[ah]).trans ?_;split at h
   ·split at h
    ·simp only[bj,bA]at h;obtain⟨_,rfl⟩:=h;exact .iP _ _ _
    ·cases h
   ·unfold Br at h;split at h
    ·split at h
     ·simp only[bj,bA]at h;obtain⟨_,rfl⟩:=h;exact .set (by simp[bd,cP.c])
     ·cases h
    ·cases h
   ·cases h
  ·cases h
 ·cases h
def Va{t t2:TypeId}{s x v:U}{H ap:aa}(h:hI E H t t2 s x=some (v,ap)):Leaves H ap (bd s++bd x):=by
 unfold hI at h;split at h
 ·split at h
  ·split at h
   ·split at h
    ·split at h
     ·simp only[bj,bA]at h;obtain⟨_,rfl⟩:=h;exact .iP _ _ _
     ·cases h
    ·rename_i c g off len;split at h
     ·split at h
      ·simp only[bj,bA]at h;obtain⟨_,rfl⟩:=h;exact .set (by simp[bd])
      ·cases h
     ·split at h
      ·simp only[bj,bA]at h;obtain⟨_,rfl⟩:=h;exact .iP _ _ _
      ·cases h
     ·cases h
    ·cases h
   ·cases h
  ·cases h
 ·cases h
def alK{t t2:TypeId}{z:Nat}{s x v:U}{H ap:aa}(h:qU E H t t2 z s x=some (v,ap)):Leaves H ap (bd s++bd x):=by
 unfold qU at h;split at h
 ·exact Va h
 ·exact alJ h
def alL{t:TypeId}{z:Nat}{x y v:U}{H ap:aa}(h:qT E H t z x y=some (v,ap)):Leaves H ap (bd x++bd y):=by
 unfold qT at h;split at h
 ·unfold y5 at h;split at h
  ·rename_i d new H1 aS;refine((U' aS).mono λ c ah=>by simp[ah]).trans ?_;split at h
   ·unfold Bs at h;split at h
    ·split at h
     ·simp only[bj,bA]at h;obtain⟨_,rfl⟩:=h;exact .set (by simp[bd,cP.c])
     ·cases h
    ·cases h
   ·cases h
  ·cases h
 ·cases h
def alM{t:TypeId}{z:Nat}{l c v:U}{H ap:aa}(h:tL z (i' E H t l c)=some (v,ap))(T:List Nat):Leaves H ap T:=by
 unfold tL at h;split at h
 ·rename_i cp n H1 hm;obtain⟨fr,gh,rows,ex,ao,rfl⟩:=Uv hm;cases ao;unfold Bt at h;split at h
  ·simp only[bj,bA]at h;obtain⟨_,rfl⟩:=h;rw[xB _ _ (cQ _)];exact .iP _ _ _
  ·cases h
 ·cases h
def alN{t:TypeId}{v:U}(hz:r7 E t t=true)(pu:one v=true):nt E t 1 [(0,v)]=bd v:=by
 obtain⟨e,b,dZ,he,bg,ak,hzero,_,_,pt,zD⟩:=IR hz;obtain⟨a0,No⟩:∃a0,cA dZ=[a0]:=by
  match bn:cA dZ,pt with
  |[a0],_=>exact⟨a0,rfl⟩
 have qm:cA v=[v]:=by cases v<;>simp[one]at pu<;>rfl
 have ao:fW 1 (cy 1 (cA dZ)).flatten [(0,v)]=some [v]:=by rw[No];simp[fW,qm,pu,pi]
 unfold nt;rw[he];simp only[bg,hzero,ao];simp[bz]
def alO{t:TypeId}{z n:Nat}{bm:List (Nat×U)}{v:U}{H ap:aa}(h:tJ E H t z n bm=some (v,ap)):Leaves H ap (nt E t n bm):=by
 unfold tJ at h;split at h
 ·rename_i v0;split at h
  ·rename_i ah;obtain⟨rfl,j,J⟩:=ah;rw[alN J j];unfold Bq at h;split at h
   ·rename_i y H1 ai;simp only[bj,bA]at h;obtain⟨_,rfl⟩:=h;exact(U_ ai).trans (.iP _ _ _)
   ·cases h
  ·cases h
 ·cases h
def I8:∀{l:List U} {H ap:aa} {xs:List aD},fI H l=some (xs,ap)→Leaves H ap (bz l)
 |[],H,ap,xs,h=>by simp only[fI,bj,bA]at h;obtain⟨_,rfl⟩:=h;exact .refl _ _
 |a::l,H,ap,xs,h=>by
  simp only[fI]at h;split at h
  ·rename_i x H1 j;split at h
   ·rename_i cS bx J;simp only[bj,bA]at h;obtain⟨_,rfl⟩:=h;exact((Ce j).mono (by simp[bz];exact λ c ah=>.inl ah)).trans ((I8 J).mono (by simp[bz];exact λ c ah=>.inr ah))
   ·cases h
  ·cases h
def Fs:∀{l bI:List U} {H ap:aa},dr H l=some (bI,ap)→Leaves H ap (bz l)
 |[],bI,H,ap,h=>by simp only[dr,bj,bA]at h;obtain⟨_,rfl⟩:=h;exact .refl _ _
 |a::l,bI,H,ap,h=>by
  have rest:∀{bI ap},dr H l=some (bI,ap)→Leaves H ap (bz (a::l)):=λ h=>(Fs h).mono (by simp[bz];exact λ c ah=>.inr ah)
  cases a with
  |ref c g off len=>
   simp only[dr]at h;split at h
   ·rename_i x H1 j;split at h
    ·rename_i tc bx J;simp only[bj,bA]at h;obtain⟨_,rfl⟩:=h;exact((Ce j).mono (by simp[bz];exact λ c ah=>.inl ah)).trans ((Fs J).mono (by simp[bz];exact λ c ah=>.inr ah))
    ·cases h
   ·cases h
  |agg cells=>
   simp only[dr]at h;split at h
   ·rename_i xs H1 j;split at h
    ·rename_i tc bx J;simp only[bj,bA]at h;obtain⟨_,rfl⟩:=h;exact((I8 j).mono (by simp[bz,bd];exact λ c ah=>.inl ah)).trans ((Fs J).mono (by simp[bz];exact λ c ah=>.inr ah))
    ·cases h
   ·split at h
    ·rename_i tc bx J;simp only[bj,bA]at h;obtain⟨_,rfl⟩:=h;exact rest J
    ·cases h
  |x q=>
   simp only[dr]at h;split at h
   ·rename_i x H1 j;split at h
    ·rename_i tc bx J;simp only[bj,bA]at h;obtain⟨_,rfl⟩:=h;exact((Ce j).mono (by simp[bz];exact λ c ah=>.inl ah)).trans ((Fs J).mono (by simp[bz];exact λ c ah=>.inr ah))
    ·cases h
   ·cases h
  |dead|i|ptr|dA|aR|be=>
   simp only[dr]at h;split at h
   ·rename_i tc bx J;simp only[bj,bA]at h;obtain⟨_,rfl⟩:=h;exact rest J
   ·cases h
def Vb(z:Nat)(H:aa)(a:U):∃x,(i_ z H a).2=H++x:=by
 unfold i_;split
 ·cases decide (z<1000)<;>exact⟨_,rfl⟩
 ·exact⟨[],by simp⟩
def Vc(k:List (Option Nat))(H:aa)(a:U):∃x,(lf k H a).2=H++x:=by
 unfold lf;split
 ·exact Vb _ _ _
 ·exact⟨[],by simp⟩
def Vd:∀(bs:List (List (Option Nat))) (l:List U) (H:aa),∃x,(eW bs l H).2=H++x
 |[],l,H=>⟨[],by simp[eW]⟩
 |k::bs,[],H=>⟨[],by simp[eW]⟩
 |k::bs,a::l,H=>by obtain⟨x,al⟩:=Vc k H a;obtain⟨y,aZ⟩:=Vd bs l (lf k H a).2;exact⟨x++y,by simp only[eW];rw[aZ,al,dV]⟩
def Ve{f:FuncId}{l bI:List U}{H ap:aa}(h:ja E f H l=some (bI,ap)):Leaves H ap (bz l):=by
 unfold ja at h;split at h
 ·simp only[bj]at h;obtain⟨x,al⟩:=Vd (E.gI f) l H;rw[h]at al;simp only at al;rw[al];exact .iP _ _ _
 ·split at h
  ·rename_i tc bx J;simp only[bj,bA]at h;obtain⟨_,rfl⟩:=h;exact Fs J
  ·cases h
def alP{f:FuncId}{args:List U}{H ap:aa}{r:U}(h:lg E aL f args H=some (r,ap)):Leaves H ap (qY E f args H):=by
 unfold lg at h;unfold qY;split at h
 ·cases h
 ·rename_i hJ H1 av;rw[av];show Leaves H ap (bz args++reach H1 64 (bz hJ) []);have j:Leaves H H1 (bz args++reach H1 64 (bz hJ) []):=by exact(Ve av).mono (by intro c ah;simp[ah])
  simp only at h;split at h
  ·cases h
  ·rename_i ix L fh;split at h
   ·cases h
   ·rename_i hlen;simp only[bj,bA]at h;obtain⟨_,rfl⟩:=h;obtain⟨Fo,xS⟩:=B3 H1 64 (bz hJ) [] (by simp) (by simp);generalize reach H1 64 (bz hJ) []=aW at*;refine j.trans ⟨?_,λ c ah du=>?_⟩
    ·rw[dd,xP];exact Nat.le_add_right _ _
    rw[en (by rw[xP];exact ah),NR _ _ _ Fo (by simp;omega) xS];have:bt aW c=none:=by
     cases av:bt aW c with
     |none=>rfl
     |some i=>exact absurd (jG (n8 av)) (λ hm=>du (by simp[hm]))
    rw[this]
def N'{l:List U}{ab:Nat}{x:aD}{d:Nat}(h:d∈bz (l.set ab (.i x))):d∈bz l:=by
 obtain⟨k,a,az,aM⟩:=l0.1 h;by_cases e:ab=k
 ·subst e;rw[List.getElem?_set_self']at az;cases an:l[ab]? with
  |none=>rw[an]at az;cases az
  |some b=>rw[an]at az;cases az;simp[bd]at aM
 ·rw[dC e]at az;exact l0.2 ⟨k,a,az,aM⟩
def Vf(v:U):bz (cA v)=bd v:=by cases v<;>simp[cA,bz,bd]
def Vg{bs:List (Option Nat)}:∀{hB:List Nat} {H H1:aa} {cs eG:List U},jp bs hB H cs=some (eG,H1)→Leaves H H1 (bz cs)∧∀d∈bz eG,d∈bz cs
 |[],H,H1,cs,eG,h=>by simp only[jp,bj,bA]at h;obtain⟨rfl,rfl⟩:=h;exact⟨.refl _ _,λ _ h=>h⟩
 |ab::hB,H,H1,cs,eG,h=>by
  simp only[jp]at h;split at h
  ·rename_i a aB;split at h
   ·rename_i x bx aK;obtain⟨j,J⟩:=Vg h;exact⟨((Ce aK).mono λ d aM=>l0.2 ⟨ab,a,aB,aM⟩).trans (j.mono λ d aM=>N' aM),λ d aM=>N' (J d aM)⟩
   ·cases h
  ·cases h
def I9{t:TypeId}{H H1:aa}{v v1:U}{hB:List Nat}(h:kq E t H v hB=some (v1,H1)):Leaves H H1 (bd v)∧∀d∈bd v1,d∈bd v:=by
 cases hB with
 |nil=>simp only[kq,bj,bA]at h;obtain⟨rfl,rfl⟩:=h;exact⟨.refl _ _,λ _ h=>h⟩
 |cons ab hB=>
  simp only[kq,vb]at h;split at h
  ·rename_i cs bx aK;simp only[bj,bA]at h;obtain⟨rfl,rfl⟩:=h;obtain⟨j,J⟩:=Vg aK;rw[Vf]at j J;refine⟨j,λ d aM=>?_⟩;have key:d∈bz cs∨d∈bd v:=by
    cases v with
    |agg l=>exact .inl aM
    |_=>cases cs with
     |nil=>exact .inr aM
     |cons c r=>exact .inl (by simp only[bz,fT];exact .inl aM)
   exact key.elim (J d) id
  ·cases h
def alQ{H ap:aa}{t:TypeId}{a:Operand}{I:Fr}{v:U}(h:nU E H t (bo E I a) v=some ap):Leaves H ap (bd (bo E I a)++bd v):=by
 unfold nU at h;split at h
 ·split at h
  ·split at h
   ·rename_i k av;rw[av];simpa[bd]using alI h
   ·rename_i c g r k av;rw[av];split at h
    ·split at h
     ·simp only[bj]at h;subst h;exact .set (by simp[bd])
     ·cases h
    ·split at h
     ·rename_i xs bx aK;split at h
      ·split at h
       ·split at h
        ·simp only[bj]at h;subst h;refine((I8 aK).mono λ c ah=>?_).trans (.set (by simp[bd]));have:bz (cA (v))=bd (v):=by cases v<;>simp[cA,bz,bd]
         rw[this]at ah;simp[ah]
        ·cases h
       ·cases h
      ·cases h
     ·cases h
    ·cases h
   ·cases h
  ·cases h
 ·cases h
def alR{I:Fr}{H ap:aa}{op:Op}{v:U}(h:dh E I H op=some (v,ap)):Leaves H ap (cR E I H op):=by
 cases op<;>simp only[dh]at h<;>(try(cases h;done))
 case slice t x bU aA kQ=>
  cases kQ with
  |none=>cases h
  |some m=>
   simp only at h;split at h
   ·rename_i y H1 bg;simp only[c0,bA]at h;obtain⟨v1,_,_,rfl⟩:=h;exact Ce bg
   ·cases h
 case alloc e=>
  split at h
  ·split at h
   ·split at h
    ·split at h
     ·simp only[bj,bA]at h;obtain⟨_,rfl⟩:=h;exact .iP _ _ _
     ·cases h
    ·simp only[bj,bA]at h;obtain⟨_,rfl⟩:=h;exact .iP _ _ _
   ·cases h
  ·cases h
 case box t x=>
  unfold y9 at h;split at h
  ·rename_i v1 H1 bg;split at h
   ·simp only[bj,bA]at h;obtain⟨_,rfl⟩:=h;simp only[cR];cases a':E.sO t with
    |nil=>rw[a']at bg;simp only[kq,bj,bA]at bg;obtain⟨_,rfl⟩:=bg;exact .iP _ _ _
    |cons ab hB=>exact(I9 bg).1.trans (.iP _ _ _)
   ·cases h
  ·cases h
 case buildSlice t n bm=>
  simp only[cR];split at h;rotate_left
  ·exact alO h
  simp only[nt];unfold kT at h;split at h
  ·rename_i e he;split at h
   ·rename_i z zero bg hzero;split at h
    ·split at h
     ·rename_i cells ah;split at h
      ·rename_i xs H1 aK;simp only[bj,bA]at h;obtain⟨_,rfl⟩:=h;exact(I8 aK).trans (.iP _ _ _)
      ·cases h
     ·cases h
    ·cases h
   ·cases h
  ·cases h
 case store t a x=>
  unfold w8 at h;split at h
  ·rename_i v1 H1 bg;simp only[c0,bA]at h;obtain⟨bx,j,_,rfl⟩:=h;simp only[cR];obtain⟨f1,f2⟩:=I9 bg;exact(f1.mono λ c ah=>fT.2 (.inr ah)).trans ((alQ j).mono λ c ah=>(fT.1 ah).elim (λ h=>fT.2 (.inl h)) λ h=>fT.2 (.inr (f2 _ h)))
  ·cases h
 case convert s d x=>
  split at h
  ·split at h
   ·unfold y8 at h;split at h
    ·simp only[bj,bA]at h;obtain⟨_,rfl⟩:=h;exact .iP _ _ _
    ·simp only[bj,bA]at h;obtain⟨_,rfl⟩:=h;exact .iP _ _ _
    ·cases h
   ·cases h
  ·cases h
 case range t x=>
  split at h
  ·split at h
   ·simp only[bj,bA]at h;obtain⟨_,rfl⟩:=h;exact .iP _ _ _
   ·cases h
  ·cases h
 case makeMap t r=>
  cases r with
  |some r=>cases h
  |none=>
   simp only at h;split at h
   ·simp only[bj,bA]at h;obtain⟨_,rfl⟩:=h;exact .iP _ _ _
   ·cases h
 case mapUpdate t m k x=>
  unfold mQ at h;split at h
  ·rename_i c al;unfold sS at h;split at h
   ·split at h
    ·split at h
     ·simp only[c0,bA]at h;obtain⟨_,_,_,rfl⟩:=h;exact .set (by simp[cR,al,bd])
     ·cases h
    ·cases h
   ·cases h
  ·cases h
 case insert t m k x=>
  unfold mQ at h;split at h
  ·rename_i c al;unfold sS at h;split at h
   ·split at h
    ·split at h
     ·simp only[c0,bA]at h;obtain⟨_,_,_,rfl⟩:=h;exact .set (by simp[cR,al,bd])
     ·cases h
    ·cases h
   ·cases h
  ·cases h
 case next it b=>
  split at h
  ·rename_i c g r al;split at h
   ·split at h
    ·simp only[bj,bA]at h;obtain⟨_,rfl⟩:=h;exact .set (by simp[cR,al,bd])
    ·simp only[bj,bA]at h;obtain⟨_,rfl⟩:=h;exact .refl _ _
   ·cases h
  ·cases h
 case makeSlice t l c=>
  split at h;rotate_left
  ·exact alM h _
  unfold i' at h;split at h
  ·split at h
   ·split at h
    ·simp only[bj,bA]at h;obtain⟨_,rfl⟩:=h;exact .iP _ _ _
    ·split at h
     ·simp only[bj,bA]at h;obtain⟨_,rfl⟩:=h;exact .iP _ _ _
     ·cases h
   ·cases h
  ·cases h
 case call c=>
  obtain⟨callee,args,e6⟩:=c;cases callee with
  |value f=>cases h
  |invoke r m=>cases h
  |builtin b=>
   simp only at h;split at h
   ·rename_i s x t t2 pD vD;simp only[cR,pD];split at h
    ·exact(Va h).mono (by simp[bz])
    ·exact(alK h).mono (by simp[bz])
   ·rename_i d x t t2 pD vD;simp only[cR,pD];split at h;rotate_left
    ·exact(alL h).mono (by simp[bz])
    unfold ns at h;split at h
    ·split at h
     ·rename_i aM _;split at h
      ·unfold y7 at h;split at h
       ·split at h
        ·simp only[bj,bA]at h;obtain⟨_,rfl⟩:=h;exact .set (by simp[aM,bz,bd])
        ·cases h
       ·cases h
      ·cases h
     ·cases h
    ·cases h
   ·cases h
def alS{f:FuncId}{args:List U}{H ap:aa}{r:U}(h:gn E aL f args H=some (r,ap)):Leaves H ap (jq E f args H):=by
 unfold gn at h;unfold jq;cases hm:E.oy f with
 |none=>
  rw[hm]at h;simp only at h⊢;cases ai:E.sN f with
  |true=>rw[ai]at h;obtain⟨rfl,_⟩:=Fp h;exact .refl _ _
  |false=>rw[ai]at h;exact alP h
 |some fn=>
  rw[hm]at h;simp only at h;unfold xd at h;split at h
  ·split at h
   ·cases h;exact .iP _ _ _
   ·cases h
  ·cases h
def alT{I:Fr}{H ap:aa}{op:Op}{v:U}(h:ci E aL op I H=some (v,ap)):Leaves H ap (cR E I H op):=by
 unfold ci at h;split at h
 ·rename_i f args e6;simp only[cR];split at h
  ·rename_i g bI aP;split at h
   ·exact alS h
   ·cases h
  ·cases h
 ·split at h
  ·exact alR h
  ·simp only[c0,bA]at h;obtain⟨_,_,_,rfl⟩:=h;exact .refl _ _
end
section
variable{E:Env}{aL:dD}{ops:Array Oper}
def hZ(I bN:Fr):Prop:=∀k,get k I=get k bN
def hZ.refl(I:Fr):hZ I I:=λ _=>rfl
def hZ.trans{a b c:Fr}(h:hZ a b)(k:hZ b c):hZ a c:=λ i=>(h i).trans (k i)
def hZ.put{I bN:Fr}(h:hZ I bN)(d:Option Nat)(v:U):hZ (dL d v I) (dL d v bN):=by
 cases d with
 |none=>exact h
 |some d=>intro k;simp only[dL,get];split<;>first|rfl|exact h k
def hZ.swap(I:Fr){d e:Option Nat}(h:∀k,d=some k→e≠some k)(v u:U):hZ (dL d v (dL e u I)) (dL e u (dL d v I)):=by
 cases d with
 |none=>exact .refl _
 |some d=>
  cases e with
  |none=>exact .refl _
  |some e=>
   have gp:e≠d:=λ x=>h d rfl (by rw[x])
   intro k;simp only[dL,get];by_cases j:k=d
   ·subst j;simp[ba gp]
   ·simp[j]
def Vh{I bN:Fr}(h:hZ I bN)(x:Operand):bo E I x=bo E bN x:=by cases x<;>simp only[bo];exact h _
def alU{I:Fr}{d:Option Nat}{v:U}{x:Operand}(h:∀k,d=some k→x≠.tmp k):bo E (dL d v I) x=bo E I x:=by
 cases d with
 |none=>rfl
 |some d=>
  cases x with
  |tmp t=>
   have:t≠d:=λ e=>h d rfl (by rw[e])
   simp[bo,dL,get,this]
  |_=>rfl
def Vi{I bN:Fr}(h:hZ I bN)(aj:Oper):gw ops.toList I aj=gw ops.toList bN aj:=by
 unfold gw;split
 ·rfl
 ·split
  ·rw[h _]
  ·rfl
def Vj{I:Fr}{aj:Oper}{d:Option Nat}{v:U}(h:∀k,d=some k→k∉aj.looksAt ops):gw ops.toList (dL d v I) aj=gw ops.toList I aj:=by
 cases d with
 |none=>rfl
 |some d=>
  unfold gw;split
  ·rfl
  ·rename_i ab want aP;split
   ·rename_i t bq;have:t≠d:=λ e=>h d rfl (by
     subst e;simp only[mW]at bq;simp[Oper.looksAt,aP,bq])
    simp[dL,get,this]
   ·rfl
def I_{I:Fr}{aj:Oper}{d:Option Nat}{v:U}(h:∀k,d=some k→k∉aj.looksAt ops):qs E (dL d v I) I aj.op:=λ x al=>
 alU λ k az e=>h k az (by
  subst e;simp only[Oper.looksAt,fT,List.mem_filterMap];exact .inl ⟨.tmp k,by simpa using al,rfl⟩)
noncomputable def gF(E:Env)(aL:dD)(ops:Array Oper)(aj:Oper)(I:Fr)(H:aa):Option (U×aa×List Nat):=
 match gw ops.toList I aj with
 |some true=>match ci E aL aj.op I H with
  |some (v,ap)=>some (v,ap,cR E I H aj.op++lN H.length (ap.length-H.length))
  |none=>none
 |some false=>some (.be [],H,[])
 |none=>none
def alV{aj:Oper}{I:Fr}{H:aa}:qb E aL ops.toList aj I H=(gF E aL ops aj I H).map λ x=>(dL aj.dst x.1 I,x.2.1,x.2.2):=by
 unfold qb gF;cases gw ops.toList I aj with
 |none=>rfl
 |some b=>
  cases b with
  |false=>rfl
  |true=>cases ci E aL aj.op I H<;>rfl
def alW{I bN:Fr}(h:hZ I bN)(aj:Oper)(H:aa):gF E aL ops aj I H=gF E aL ops aj bN H:=by
 unfold gF;have aB:qs E I bN aj.op:=λ x _=>Vh h x
 rw[Vi h,N9 aB,N_ aB]
def ug{I:Fr}{aj:Oper}{d:Option Nat}{v:U}{H:aa}(h:∀k,d=some k→k∉aj.looksAt ops):gF E aL ops aj (dL d v I) H=gF E aL ops aj I H:=by unfold gF;rw[Vj h,N9 (I_ h),N_ (I_ h)]
def qt{a b:List Nat}(h:qZ a b=true){c:Nat}(aB:c∈a):c∉b:=by simp only[qZ,oH]at h;have:=h c aB;simpa using this
def zN{aj:Oper}{I:Fr}{H ap:aa}(an:eC E aj.op=false)(h:kW aj.op=true→∀c∈cR E I H aj.op,ap[c]?=H[c]?){v:U}{H1:aa}{T:List Nat}
  (bi:gF E aL ops aj I H=some (v,H1,T)):H1=H∧gF E aL ops aj I ap=some (v,ap,T):=by
 unfold gF at bi⊢;split at bi
 ·rename_i aP;split at bi
  ·rename_i hi nw l2;simp only[bj,bA]at bi;obtain⟨rfl,rfl,rfl⟩:=bi;unfold ci at l2⊢;split at l2
   ·rename_i f args e6 b';rw[b']at an;simp[eC]at an
   ·rename_i B7;rw[an]at l2;simp only[fK,if_false,c0,bA]at l2;obtain⟨u,hu,rfl,rfl⟩:=l2;refine⟨rfl,?_⟩;have bq:cR E I ap aj.op=cR E I H aj.op:=by
     generalize aj.op=op at an B7;cases op<;>(try rfl);rename_i c;obtain⟨callee,args,e6⟩:=c;cases callee with
     |value f=>exact absurd rfl (B7 f args e6)
     |_=>rfl
    simp only[an,fK,if_false,alG h,hu,d',bq,qk,List.range'_zero]
  ·cases bi
 ·rename_i aP;simp only[bj,bA]at bi;obtain⟨rfl,rfl,rfl⟩:=bi;exact⟨rfl,rfl⟩
 ·cases bi
structure Vk (E:Env) (ops:Array Oper) (x y:Oper) (mx my:List Nat):Prop where
 apart:x.apart ops y=true
 alX:¬(eC E x.op=true∧eC E y.op=true)
 float:(eC E x.op=true∧kW y.op=true)∨(eC E y.op=true∧kW x.op=true)→qZ mx my=true∧qZ my mx=true
def Cf{aj:Oper}{I:Fr}{H ap:aa}{v:U}{T:List Nat}(h:gF E aL ops aj I H=some (v,ap,T)):H.length≤ap.length∧∀c,c∉T→ap[c]?=H[c]?:=by
 unfold gF at h;split at h
 ·split at h
  ·rename_i hi nw l2;simp only[bj,bA]at h;obtain⟨rfl,rfl,rfl⟩:=h;have an:=alT l2;refine⟨an.1,λ c ah=>?_⟩;simp only[fT,List.mem_range',not_or]at ah;by_cases j:c<H.length
   ·exact an.2 c j ah.1
   ·have J:nw.length≤c:=by
     have:=an.1;refine Nat.le_of_not_lt λ aw=>ah.2 ⟨c-H.length,R,R⟩
    rw[sl J,sl R]
  ·cases h
 ·simp only[bj,bA]at h;obtain⟨rfl,rfl,rfl⟩:=h;exact⟨cQ _,λ _ _=>rfl⟩
 ·cases h
def I'{aj:Oper}{I:Fr}{H ap:aa}{v:U}{T:List Nat}(h:gF E aL ops aj I H=some (v,ap,T))(aP:gw ops.toList I aj=some true):∀c∈cR E I H aj.op,c∈T:=by
 unfold gF at h;rw[aP]at h;simp only at h;split at h
 ·simp only[bj,bA]at h;obtain⟨_,_,rfl⟩:=h;intro c ah;simp[ah]
 ·cases h
def xU{aj:Oper}{I:Fr}{H ap:aa}(aP:gw ops.toList I aj=some false):gF E aL ops aj I ap=some (.be [],ap,[]):=by unfold gF;rw[aP]
def swap{x y:Oper}{I:Fr}{H H1 bx:aa}{jr kY:U}{mx my:List Nat}(al:gF E aL ops x I H=some (jr,H1,mx))(aZ:gF E aL ops y (dL x.dst jr I) H1=some (kY,bx,my))
  (ah:Vk E ops x y mx my):∃qu,gF E aL ops y I H=some (kY,qu,my)∧gF E aL ops x (dL y.dst kY I) qu=some (jr,bx,mx)∧hZ (dL y.dst kY (dL x.dst jr I)) (dL x.dst jr (dL y.dst kY I)):=by
 obtain⟨hC,a2,a3⟩:=Oper.apart_spec ah.apart;rw[ug hC]at aZ;have gN:hZ (dL y.dst kY (dL x.dst jr I)) (dL x.dst jr (dL y.dst kY I)):=hZ.swap I (λ k az e=>a2 k e az) _ _;cases k1:gw ops.toList I x with
 |none=>unfold gF at al;rw[k1]at al;cases al
 |some rk=>
 cases ky:gw ops.toList I y with
 |none=>unfold gF at aZ;rw[ky]at aZ;cases aZ
 |some rl=>
 cases rk with
 |false=>
  rw[xU k1]at al
  ·simp only[bj,bA]at al;obtain⟨rfl,rfl,rfl⟩:=al;exact⟨bx,aZ,by rw[ug a3];exact xU k1 (H:=H),gN⟩
  ·exact H
 |true=>
 cases rl with
 |false=>
  rw[xU ky]at aZ
  ·simp only[bj,bA]at aZ;obtain⟨rfl,rfl,rfl⟩:=aZ;exact⟨H,xU ky (H:=H),by rw[ug a3];exact al,gN⟩
  ·exact H
 |true=>
 by_cases vH:eC E x.op=true
 ·have so:eC E y.op=false:=by
   cases h:eC E y.op with
   |false=>rfl
   |true=>exact absurd ⟨vH,h⟩ ah.alX
  have Oa:=Cf al;have zO:cR E I H1 y.op=cR E I H y.op:=by
   generalize rm:y.op=op at so;cases op<;>(try rfl);rename_i c;obtain⟨callee,args,e6⟩:=c;cases callee with
   |value f=>simp[eC]at so
   |_=>rfl
  have lp:=I' aZ ky;have key:kW y.op=true→∀c∈cR E I H1 y.op,H[c]?=H1[c]?:=by intro ai c e9;have du:=(ah.float (.inl ⟨vH,ai⟩)).2;have:=qt du (lp c e9);exact(Oa.2 c this).symm
  obtain⟨rfl,E5⟩:=zN so key aZ;exact⟨H,E5,by rw[ug a3];exact al,gN⟩
 ·have Ft:eC E x.op=false:=by simpa using vH
  have alY:kW x.op=true→∀c∈cR E I H x.op,H[c]?=H[c]?:=λ _ _ _=>rfl
  obtain⟨rfl,_⟩:=zN (ap:=H) Ft alY al;have Ob:=Cf aZ;have lp:=I' al k1;by_cases so:eC E y.op=true
  ·have key:kW x.op=true→∀c∈cR E I H1 x.op,bx[c]?=H1[c]?:=by intro ai c e9;have du:=(ah.float (.inr ⟨so,ai⟩)).1;exact Ob.2 c (qt du (lp c e9))
   obtain⟨_,s9⟩:=zN Ft key al;exact⟨bx,aZ,by rw[ug a3];exact s9,gN⟩
  ·have Oc:eC E y.op=false:=by simpa using so
   obtain⟨rfl,_⟩:=zN (ap:=H1) Oc (λ _ _ _=>rfl) aZ;exact⟨bx,aZ,by rw[ug a3];exact al,gN⟩
end
section
variable{E:Env}{aL:dD}{ops:Array Oper}{eE:Nat→List Nat}
inductive uh (E:Env) (aL:dD) (ops:Array Oper) (eE:Nat→List Nat):List Nat→Fr→aa→Fr→aa→Prop
 |nil (I:Fr) (H:aa):uh E aL ops eE [] I H I H
 |cons (i:Nat) (l:List Nat) (I:Fr) (H:aa) (aj:Oper) (v:U) (H1:aa) (dI:Fr) (bx:aa) (b':ops[i]?=some aj) (bi:gF E aL ops aj I H=some (v,H1,eE i)) (h:uh E aL ops eE l (dL aj.dst v I) H1 dI bx):uh E aL ops eE (i::l) I H dI bx
def run_eq{l:List Nat}{I bN:Fr}{H:aa}{dI:Fr}{bx:aa}(h:uh E aL ops eE l I H dI bx):hZ I bN→∃ju,hZ dI ju∧uh E aL ops eE l bN H ju bx:=by
 induction h generalizing bN with
 |nil I H=>exact λ he=>⟨bN,he,.nil _ _⟩
 |cons i l I H aj v H1 dI bx b' bi _ a8=>intro he;obtain⟨ju,j,J⟩:=a8 (he.put aj.dst v);exact⟨ju,j,.cons i l bN H aj v H1 ju bx b' (by rw[←alW he];exact bi) J⟩
def Ja(E:Env)(ops:Array Oper)(eE:Nat→List Nat)(ab i:Nat):Prop:=∀x y,ops[ab]?=some x→ops[i]?=some y→Vk E ops x y (eE ab) (eE i)
def front:∀{c7 eS:List Nat} {i:Nat} {I:Fr} {H:aa} {dI:Fr} {bx:aa},uh E aL ops eE (c7++i::eS) I H dI bx→(∀ab∈c7,Ja E ops eE ab i)→
  ∃aj v H1 ju,ops[i]?=some aj∧gF E aL ops aj I H=some (v,H1,eE i)∧hZ dI ju∧uh E aL ops eE (c7++eS) (dL aj.dst v I) H1 ju bx
 |[],eS,i,I,H,dI,bx,h,_=>by
  cases h with
  |cons _ _ _ _ aj v H1 _ _ b' bi h=>exact⟨aj,v,H1,dI,b',bi,.refl _,h⟩
 |ab::c7,eS,i,I,H,dI,bx,h,ah=>by
  cases h with
  |cons _ _ _ _ x jr H1 _ _ al zg h=>obtain⟨aj,v,oN,iQ,b',bi,he,ai⟩:=front h (λ k az=>ah k (by simp[az]));obtain⟨Od,s1,s2,ud⟩:=swap zg bi (ah ab (by simp) x aj al b');obtain⟨Fu,c6,Fv⟩:=run_eq ai ud;exact⟨aj,v,Od,Fu,b',s1,he.trans c6,.cons ab _ _ _ x jr oN Fu bx al s2 Fv⟩
def Vl:∀(l:List Oper) (k:Nat) (I:Fr) (H:aa) (dI:Fr) (bx:aa) (fa:List (List Nat)),hX E aL ops.toList l I H=some (dI,bx,fa)→(∀ab,l[ab]?=ops[k+ab]?)→(∀ab,ab<l.length→eE (k+ab)=fa.getD ab [])→
  uh E aL ops eE (lN k l.length) I H dI bx
 |[],k,I,H,dI,bx,fa,h,_,_=>by simp only[hX,bj,bA]at h;obtain⟨rfl,rfl,rfl⟩:=h;exact .nil _ _
 |aj::l,k,I,H,dI,bx,fa,h,an,bq=>by
  simp only[hX]at h;split at h
  ·rename_i lO H1 t aS;split at h
   ·rename_i iQ oN Oe ai;simp only[bj,bA]at h;obtain⟨rfl,rfl,rfl⟩:=h;rw[alV]at aS;simp only[c0,bA]at aS;obtain⟨⟨v,ap,T⟩,bi,ao,aI,bE⟩:=aS;simp only at ao aI bE;subst ao aI bE;have aV:=an 0;simp only[qn,fc]at aV;have Fw:=bq 0 (by simp);simp only[fc,Cg]at Fw;rw[cT,List.range'_succ];refine .cons k _ I H aj v _ _ _ aV.symm (by rw[Fw];exact bi) ?_;refine Vl l (k+1) _ _ _ _ Oe ai (λ ab=>by have:=an (ab+1);simpa[tT,qv 1 ab]using this) λ ab a'=>?_
    have:=bq (ab+1) (by simpa using a');rw[show k+1+ab=k+(ab+1)by omega,this];simp
   ·cases h
  ·cases h
def Vm(acc:Array Nat)(ab:Nat):∀(l:List Edge) (s:Nat),(l.foldl (λ s e=>if vI .any e then s|||2^e.on|||acc.getD e.on 0 else s) s).testBit ab=true→
  s.testBit ab=true∨∃e∈l,vI .any e=true∧(e.on=ab∨(acc.getD e.on 0).testBit ab=true)
 |[],s,h=>.inl h
 |e::l,s,h=>by
  simp only[zo]at h;rcases Vm acc ab l _ h with j|⟨lh,pq,J⟩
  ·split at j
   ·rename_i ak;rw[Nat.testBit_or,Nat.testBit_or,xv,xv]at j;rcases j with(j|j)|j
    ·exact .inl j
    ·rw[Nat.testBit_two_pow]at j;exact .inr ⟨e,by simp,ak,.inl (by simpa using j)⟩
    ·exact .inr ⟨e,by simp,ak,.inr j⟩
   ·exact .inl j
  ·exact .inr ⟨lh,by simp[pq],J⟩
def bitsOf(acc:Array Nat)(aj:Oper):Nat:=aj.after.foldl (λ s e=>if vI .any e then s|||2^e.on|||acc.getD e.on 0 else s) 0
def Vn:∀(l:List Oper) (acc:Array Nat),(l.foldl (λ acc aj=>acc.push (bitsOf acc aj)) acc).size=acc.size+l.length∧(∀k,k<acc.size→(l.foldl (λ acc aj=>acc.push (bitsOf acc aj)) acc).getD k 0=acc.getD k 0)∧
  ∀k aj,l[k]?=some aj→∃xV:Array Nat,xV.size=acc.size+k∧(∀m,m<xV.size→xV.getD m 0=(l.foldl (λ acc aj=>acc.push (bitsOf acc aj)) acc).getD m 0)∧(l.foldl (λ acc aj=>acc.push (bitsOf acc aj)) acc).getD (acc.size+k) 0=bitsOf xV aj
 |[],acc=>⟨by simp,λ _ _=>rfl,λ k aj h=>by simp at h⟩
 |aj::l,acc=>by
  obtain⟨j,J,aw⟩:=Vn l (acc.push (bitsOf acc aj));simp only[zo];have BZ:∀k,k<acc.size→(acc.push (bitsOf acc aj)).getD k 0=acc.getD k 0:=by intro k az;simp[dp,Is,show k≠acc.size by omega]
  refine⟨by rw[j];simp;omega,λ k az=>by rw[J k (by simp;omega)];exact BZ k az,λ k p av=>?_⟩;cases k with
  |zero=>simp at av;subst av;refine⟨acc,rfl,λ m hm=>by rw[J m (by simp;omega)];exact(BZ m hm).symm,?_⟩;rw[J _ (by simp)];simp[dp]
  |succ k=>obtain⟨xV,hC,a2,a3⟩:=aw k p (by simpa using av);refine⟨xV,by rw[hC];simp;omega,a2,?_⟩;rw[←a3];congr 1;simp;omega
def alZ{i ab:Nat}{aj:Oper}(b':ops[i]?=some aj)(h:p' (qa ops) ab i=true):
  ∃e∈aj.after,vI .any e=true∧(e.on=ab∨(e.on<i∧p' (qa ops) ab e.on=true)):=by
 have ak:qa ops=ops.toList.foldl (λ acc aj=>acc.push (bitsOf acc aj)) #[]:=by unfold qa;rw[←Array.foldl_toList];rfl
 obtain⟨_,_,aw⟩:=Vn ops.toList #[];obtain⟨xV,hC,a2,a3⟩:=aw i aj (by simpa using b');simp only[IG,dx,cq]at hC a3;unfold p' at h⊢;rw[ak,a3]at h;unfold bitsOf at h;rw[←Array.foldl_toList]at h;rcases Vm xV ab _ 0 h with bb|⟨e,he,Of,bu⟩
 ·simp at bb
 ·refine⟨e,by simpa using he,Of,?_⟩;rcases bu with bu|bu
  ·exact .inl bu
  ·by_cases bf:e.on<i
   ·refine .inr ⟨bf,?_⟩;rw[ak,←a2 _ R];exact bu
   ·rw[dp,Array.getElem?_eq_none R]at bu;simp at bu
def Fx(ops:Array Oper)(listed:Array Bool):Prop:=∀(i:Nat) (aj:Oper),ops[i]?=some aj→listed.getD i false=true→∀e∈aj.after,vI .any e=true→listed.getD e.on false=true
def Vo{listed:Array Bool}(ah:Fx ops listed):∀(i:Nat) (aj:Oper),ops[i]?=some aj→(∀e∈aj.after,vI .any e=true→listed.getD e.on false=true)→∀ab,p' (qa ops) ab i=true→listed.getD ab false=true:=by
 intro i;induction i using Nat.strongRecOn with
 |_ i a8=>
  intro aj b' av ab ak;obtain⟨e,he,Of,h⟩:=alZ b' ak;have an:=av e he Of;rcases h with rfl|⟨bf,jJ⟩
  ·exact an
  ·have aA:i<ops.size:=(j6.1 b').1;have Fy:ops[e.on]?=some ops[e.on]:=q9 R;exact a8 e.on bf _ Fy (ah e.on _ Fy an) ab jJ
end
section
variable{E:Env}{aL:dD}{ops:Array Oper}{eE:Nat→List Nat}{Q:Exit→Act→World→Prop}{ro:Option Nat}{gV:Nat}
theorem Og(cg:n9 E (gn E aL)){dI:Fr}{bx:aa}(zP:∀ab i,ab<i→i<ops.size→p' (qa ops) ab i=false→Ja E ops eE ab i)
  (vJ:∀(i:Nat) (aj:Oper),ops[i]?=some aj→∀e∈aj.after,vI .any e=true→e.on<i){hn:Nat}{d0:List Deferred}(pI:Cc hn ops.toList):
  ∀(aW:List Nat) (listed:Array Bool) (ad:cb) (ac:b9) (I:Fr) (H:aa) (a:Act) (w:World) (dI:Fr),aW.Pairwise (·<·)→(∀i,i∈aW↔i<ops.size∧listed.getD i false=false)→listed.size=ops.size→Fx ops listed→
   uh E aL ops eE aW I H dI bx→b6 E ad ac H w→e1 ad ac H I a.tmps→a.tmps.size=hn→a.defers=d0→
   (∀bY ar iQ,hZ dI iQ→bY.defers=d0→bY.tmps.size=hn→cl E ad ac H w bx ar (λ aN aC=>e1 aN aC bx iQ bY.tmps)→Q .normal bY ar)→wpAnyIn (pH ro) gV E.P .any ops Q aW.length listed a w
 |[],listed,ad,ac,I,H,a,w,dI,av,dc,ey,vB,lQ,aq,aK,aF,aM,eY=>by
  refine⟨?_,?_⟩
  ·cases h:Fz .any ops listed with
   |nil=>rfl
   |cons i l=>
    have aA:i∈Fz .any ops listed:=by rw[h];simp
    obtain⟨j,aj,b',_⟩:=mem_ready.1 aA;have bf:=(j6.1 b').1;have:i∈([]:List Nat):=(dc i).2 ⟨bf,by
     rw[dp]at j⊢;cases aO:listed[i]? with
     |none=>rfl
     |some b=>rw[aO]at j;simpa using j⟩
    simp at this
  ·cases lQ with
   |nil=>exact eY a w I (.refl _) aM aF (cl.refl aq aK)
 |r::aW,listed,ad,ac,I,H,a,w,dI,av,dc,ey,vB,lQ,aq,aK,aF,aM,eY=>by
  simp only[cT];refine⟨λ Oh=>?_,λ i aA=>?_⟩
  ·exfalso;have ai:=(dc r).1 (by simp);have je:ops[r]?=some ops[r]:=q9 ai.1;have:r∈Fz .any ops listed:=by
    refine mem_ready.2 ⟨?_,_,je,λ e he ak=>?_⟩
    ·have:=ai.2;rw[dp]at this⊢;rw[q9 R]at this⊢;simpa using this
    ·have bf:=vJ r _ je e he ak;cases an:listed.getD e.on false with
     |true=>rfl
     |false=>
      have hm:e.on∈r::aW:=(dc e.on).2 ⟨R,an⟩;rcases mU.1 hm with j|j
      ·omega
      ·have:=(vg.1 av).1 _ j;omega
   rw[Oh]at this;simp at this
  ·obtain⟨j,aj,b',zQ⟩:=mem_ready.1 aA;have bf:=(j6.1 b').1;have Oi:i∈r::aW:=(dc i).2 ⟨bf,by
    rw[dp]at j⊢;rw[q9 R]at j⊢;simpa using j⟩
   obtain⟨c7,eS,rn⟩:=List.append_of_mem Oi;rw[rn]at lQ av;have rp:=Oj.1 av;have Ch:∀ab∈c7,Ja E ops eE ab i:=by
    intro ab a';have q_:ab<i:=rp.2.2 ab a' i (by simp);refine zP ab i q_ bf ?_;cases ak:p' (qa ops) ab i with
    |false=>rfl
    |true=>have:=Vo vB i aj b' zQ ab ak;have jO:=((dc ab).1 (by rw[rn];simp[a'])).2;rw[this]at jO;cases jO
   obtain⟨r_,v,H1,ju,FA,bi,he,FB⟩:=front lQ Ch;rw[b']at FA;cases FA;have FC:∀k,aj.dst=some k→k<a.tmps.size:=by intro k az;rw[aF];exact pI aj (by simpa using Array.mem_of_getElem? b') k az
   have hlen:aW.length=(c7++eS).length:=by have:=congrArg Ci rn;simp at this⊢;omega
   have FD:(c7++eS).Pairwise (·<·):=by rw[Oj];exact⟨rp.1,(vg.1 rp.2.1).2,λ x al y aZ=>rp.2.2 x al y (by simp[aZ])⟩
   have Ok:i∉c7++eS:=by
    intro hm;rcases fT.1 hm with hm|hm
    ·have:=rp.2.2 i hm i (by simp);omega
    ·have:=(vg.1 rp.2.1).1 i hm;omega
   have FE:∀k,k∈c7++eS↔k<ops.size∧(listed.setIfInBounds i true).getD k false=false:=by
    intro k;by_cases pE:k=i
    ·subst pE;refine⟨λ h=>absurd h Ok,λ h=>?_⟩;have J:=h.2;rw[dp]at J;simp[ey,bf]at J
    ·rw[getD_set_ne false (ba pE)];rw[←dc k,rn];simp[pE]
   have FF:Fx ops (listed.setIfInBounds i true):=by
    intro k p mz mX e pq ak;by_cases pE:k=i
    ·subst pE;rw[b']at mz;cases mz;exact getD_set_true (zQ e pq ak)
    ·rw[getD_set_ne false (ba pE)]at mX;exact getD_set_true (vB k p mz mX e pq ak)
   have zl:(listed.setIfInBounds i true).size=ops.size:=by simpa using ey
   unfold wpOpIn;rw[b'];unfold gF at bi;split at bi
   ·rename_i aP;split at bi
    ·rename_i hi qu l2;simp only[bj,bA]at bi;obtain⟨rfl,rfl,_⟩:=bi;simp only[Cb aK aP,if_true];refine N4 (U6 l2) (N1 cg l2 aq aK λ x gg al=>?_);obtain⟨ej,dY,dt,lW,hb,n2⟩:=al;rw[hlen];refine Og cg (d0:=d0) (hn:=hn) (dI:=ju) zP vJ pI (c7++eS) _ ej dY _ _ _ gg ju FD FE zl FF FB dt ((aK.mono hb).put n2 aj.dst FC) (by rw[xT];exact aF) (by rw[put_defers];exact aM) λ bY ar iQ zR kb aS b0=>?_
     obtain⟨e2,ez,bG,bH,cG,eZ⟩:=b0;exact eY bY ar iQ (he.trans zR) kb aS ⟨e2,ez,bG,lW.trans bH,hb.trans cG,eZ⟩
    ·cases bi
   ·rename_i aP;simp only[bj,bA]at bi;obtain⟨rfl,rfl,_⟩:=bi;simp only[Cb aK aP,fK,if_false];refine⟨λ _ _=>trivial,?_⟩;rw[hlen];refine Og cg (d0:=d0) (hn:=hn) (dI:=ju) zP vJ pI (c7++eS) _ ad ac _ _ _ w ju FD FE zl FF FB aq (aK.put (My _ _ _) aj.dst FC) (by rw[xT];exact aF) (by rw[put_defers];exact aM) λ bY ar iQ zR kb aS b0=>?_
    exact eY bY ar iQ (he.trans zR) kb aS b0
   ·cases bi
 termination_by aW=>aW.length
 decreasing_by all_goals (have:=congrArg Ci rn;simp at this⊢;omega)
end
section
variable{E:Env}{ad:cb}{ac:b9}{H:aa}{w:World}
def n'(ac:b9)(N c:Nat):b9:=λ d=>if d.c=c then ac ⟨N,d.r⟩else if d.c=N then none else ac d
inductive xW (H:aa) (c:Nat):Chunk→Chunk→U→U→Prop
 |box (cells:List U) (h:∀d∈bz cells,d<H.length):xW H c (.box cells) (.box cells) (.ptr H.length 0 0 0) (.ptr c 0 0 0)
 |ae (z n:Nat) (rows:List (List aD)) (ex:Bool):xW H c (.ae z 0 rows ex) (.ae z 1 rows ex) (.ref H.length 0 0 n) (.ref c 1 0 n)
 |map:xW H c (.map []) (.map []) (.dA H.length) (.dA c)
def al0{b7 j_:Chunk}{v0 v1:U}{c:Nat}(aO:H[c]?=some mR)(cf:ac c=none)(az:xW H c b7 j_ v0 v1){a:U}{v:Value}(r:a7 ad ac (H++[b7]) a v):
  (∀d∈bd a,d<H.length)→a7 ad (n' ac H.length c) (H.set c j_) a v:=by
 have cg:c<H.length:=(bF.1 aO).1;have e9:(H++[b7])[c]?=some (.ae 0 0 [] true):=by rw[en cg];exact aO
 have Jb:∀d,d<H.length→d≠c→(H.set c j_)[d]?=(H++[b7])[d]?∧∀r,n' ac H.length c ⟨d,r⟩=ac ⟨d,r⟩:=by intro d aM eM;refine⟨by rw[dC (ba eM),en aM],λ r=>?_⟩;simp[n',eM,show d≠H.length by omega]
 have xL:∀d,d<H.length→d≠c→(H.set c j_)[d]?=(H++[b7])[d]?∧n' ac H.length c d=ac d:=λ d aM eM=>⟨(Jb d aM eM).1,(Jb d aM eM).2 0⟩
 have mA:(H.set c j_)[c]?=some j_:=ks cg;induction r with
 |dead v=>exact λ _=>.dead v
 |i x v h=>exact λ _=>.i x v h
 |agg cells cs an _ a8=>exact λ aM=>.agg cells cs an λ k a aB=>a8 k a aB λ d h=>aM d (by simp only[bd];exact l0.2 ⟨k,a,aB,h⟩)
 |aR fn first fy eP cs an hm _ _ nX nY=>exact λ aM=>.aR fn first fy eP cs an hm (λ k a aB=>nX k a aB λ d h=>aM d (by simp only[bd,fT];exact .inl (l0.2 ⟨k,a,aB,h⟩))) (λ k a aB=>nY k a aB λ d h=>aM d (by simp only[bd,fT];exact .inr (l0.2 ⟨k,a,aB,h⟩)))
 |be vs xs an _ a8=>exact λ aM=>.be vs xs an λ k a aB=>a8 k a aB λ d h=>aM d (by simp only[bd];exact l0.2 ⟨k,a,aB,h⟩)
 |ref d g off len v ah aS aK av aP=>
  intro aM;have ft:d<H.length:=aM d (by simp[bd]);by_cases eM:d=c
  ·subst eM;have Ol:=aP _ _ _ _ e9;obtain rfl:g=0:=R;cases az with
   |box cells _=>exact .ref _ _ _ _ _ (by simpa using ft) (λ _ _ _ h=>by rw[mA]at h;cases h) (λ _ _ _ h=>by rw[mA]at h;cases h) av (λ _ _ _ _ h=>by rw[mA]at h;cases h)
   |ae z n rows ex=>exact .ref _ _ _ _ _ (by simpa using ft) (λ _ _ _ h=>by rw[mA]at h;cases h) (λ _ _ _ h=>by rw[mA]at h;cases h) av (λ _ _ _ _ h=>R)
   |map=>exact .ref _ _ _ _ _ (by simpa using ft) (λ _ _ _ h=>by rw[mA]at h;cases h) (λ _ _ _ h=>by rw[mA]at h;cases h) av (λ _ _ _ _ h=>by rw[mA]at h;cases h)
  ·obtain⟨ao,aI⟩:=xL d ft eM;refine .ref _ _ _ _ _ (by simpa using ft) (λ ay rows ex h=>?_) (λ ay rows ex h=>aK ay rows ex (by rw[←ao];exact h)) av (λ ay aY rows ex h=>aP ay aY rows ex (by rw[←ao];exact h));exact(aS ay rows ex (by rw[←ao];exact h)).step aI rfl
 |dA d v ah hm bq hu av bg=>
  intro aM;have ft:d<H.length:=aM d (by simp[bd]);by_cases eM:d=c
  ·subst eM;exact absurd e9 (bg _ _ _ _)
  ·obtain⟨ao,aI⟩:=xL d ft eM;refine .dA _ _ (by simpa using ft) (λ es h=>?_) (λ t cells h=>?_) (λ t l h=>?_) av (λ ay g rows ex h=>bg _ _ _ _ (by rw[←ao];exact h))
   ·rw[aI];exact hm es (by rw[←ao];exact h)
   ·rw[aI];exact bq t cells (by rw[←ao];exact h)
   ·rw[aI];exact hu t l (by rw[←ao];exact h)
 |ptr d g r k v ah ak aS aK aA av aP=>
  intro aM;have ft:d<H.length:=aM d (by simp[bd]);by_cases eM:d=c
  ·subst eM;have Ol:=aP _ _ _ _ e9;obtain rfl:g=0:=R;obtain⟨b,n,j,_⟩:=aS _ _ _ e9;rw[cf]at j;cases j
  ·obtain⟨ao,aI⟩:=xL d ft eM;refine .ptr _ _ _ _ _ (by simpa using ft) (λ cells h=>?_) (λ ay rows ex h=>?_) (λ ay rows ex row h=>aK ay rows ex row (by rw[←ao];exact h)) (λ s p h=>?_) av (λ ay aY rows ex h=>aP ay aY rows ex (by rw[←ao];exact h))
   ·rw[aI];exact ak cells (by rw[←ao];exact h)
   ·rw[aI];exact aS ay rows ex (by rw[←ao];exact h)
   ·rw[aI];exact aA s p (by rw[←ao];exact h)
 |x k v h aK=>
  intro aM;have ft:k.c<H.length:=aM k.c (by simp[bd]);refine .x _ _ (h.Th (by simpa using ft) ?_) (aK.to (λ _ _ h=>h) λ g rows e=>?_);rotate_left
  ·by_cases eM:k.c=c
   ·rw[eM,mA]at e;cases az<;>cases e
   ·rw[←(Jb _ ft eM).1];exact e
  intro z g s rows aQ;by_cases eM:k.c=c
  ·rw[eM,mA]at aQ;cases az<;>cases aQ
  ·obtain⟨ao,aI⟩:=Jb _ ft eM;rw[ao]at aQ;exact .inl ⟨s,rows,aQ,aI 0,rfl,.inr ⟨rfl,λ r bR ai=>⟨bR,ai,rfl,aI _⟩⟩⟩
def al1(aq:b6 E ad ac H w){c:Nat}(aO:H[c]?=some mR){b7 j_:Chunk}{v0 v1:U}{x:Value}{ar:World}(az:xW H c b7 j_ v0 v1)
  (b0:cl E ad ac H w (H++[b7]) ar λ aN aC=>a7 aN aC (H++[b7]) v0 x):cl E ad ac H w (H.set c j_) ar λ aN aC=>a7 aN aC (H.set c j_) v1 x:=by
 obtain⟨aN,aC,nB,cW,Nn,s_⟩:=b0;have cg:c<H.length:=(bF.1 aO).1;have e9:(H++[b7])[c]?=some (.ae 0 0 [] true):=by rw[en cg];exact aO
 have cf:aC c=none:=(nB.b7 _ _ e9).1 rfl;have key:∀a v,a7 aN aC (H++[b7]) a v→(∀d∈bd a,d<H.length)→a7 aN (n' aC H.length c) (H.set c j_) a v:=λ a v r=>al0 aO cf az r
 have xX:n' aC H.length c c=aC H.length:=by simp[n']
 have inv:∀(d:fj) b n,n' aC H.length c d=some (b,n)→(d.c=c∧aC ⟨H.length,d.r⟩=some (b,n))∨(d.c≠c∧d.c≠H.length∧aC d=some (b,n)):=by
  intro d b n h;unfold n' at h;split at h
  ·exact .inl ⟨by assumption,h⟩
  ·split at h
   ·cases h
   ·exact .inr ⟨by assumption,by assumption,h⟩
 have Jc:(H++[b7])[H.length]?=some b7:=by simp
 refine⟨aN,n' aC H.length c,⟨nB.dT,λ d y aM=>?_,λ d hR b n dO j J=>?_,λ d b n h=>?_,nB.e_⟩,
  ⟨cW.os,cW.tape,cW.output,cW.size,cW.frame,cW.dT,cW.q2,λ d b n h=>?_⟩,λ a v r=>key a v (Nn a v r) (rb r),?_⟩
 ·rcases fB aM with⟨rfl,rfl⟩|⟨eM,vw⟩
  ·have h:=nB.b7 _ _ Jc;cases az with
   |box cells ai=>obtain⟨b,cs,elem,bl,j,J,aw,bb,bu⟩:=h;exact⟨b,cs,elem,bl,by rw[xX];exact j,J,aw,bb,λ k a aB=>key _ _ (bu k a aB) λ e he=>ai e (l0.2 ⟨k,a,aB,he⟩)⟩
   |ae z n rows ex=>
    obtain⟨j,J,aw⟩:=h;refine⟨λ e=>by rw[xX];exact j e,J,?_⟩;rcases aw with⟨bb,bu⟩|⟨b,cs,elem,bl,bb,bu⟩
    ·exact .inl ⟨by rw[xX];exact bb,bu⟩
    ·exact .inr ⟨b,cs,elem,bl,by rw[xX];exact bb,bu⟩
   |map=>obtain⟨b,hv,aL,j,J,aw⟩:=h;exact⟨b,hv,aL,by rw[xX];exact j,J,aw.of λ a v aB=>by simp at aB⟩
  ·have ft:d<H.length:=(bF.1 vw).1;have aI:n' aC H.length c d=aC d:=by simp[n',eM,show d≠H.length by omega]
   have bE:∀r,n' aC H.length c ⟨d,r⟩=aC ⟨d,r⟩:=λ r=>by simp[n',eM,show d≠H.length by omega]
   have h:=nB.b7 d y (by rw[en ft];exact vw);have aV:=aq.b7 d y vw;cases y with
   |box cells=>obtain⟨b,cs,elem,bl,j,J,aw,bb,bu⟩:=h;obtain⟨_,xA,_,_,_,_,_,_,l1⟩:=aV;exact⟨b,cs,elem,bl,by rw[aI];exact j,J,aw,bb,λ k a aB=>key _ _ (bu k a aB) (rb (l1 k a aB))⟩
   |ae z g rows ex=>
    obtain⟨j,J,aw⟩:=h;refine⟨λ e=>by rw[aI];exact j e,J,?_⟩;rcases aw with⟨bb,bu⟩|⟨b,cs,elem,bl,bb,bu⟩
    ·exact .inl ⟨by rw[aI];exact bb,bu⟩
    ·exact .inr ⟨b,cs,elem,bl,by rw[aI];exact bb,bu⟩
   |bl z g rows ex=>exact(aI.trans h:n' aC H.length c d=none)
   |iter s p=>obtain⟨b,j,J⟩:=h;exact⟨b,by rw[aI];exact j,J⟩
   |map es=>obtain⟨b,hv,aL,j,J,aw⟩:=h;obtain⟨_,aRq,_,_,bH,cG⟩:=aV;exact⟨b,hv,aL,by rw[aI];exact j,J,aw.of λ a v aB r=>key _ _ r (rb (cG.ex aB).choose_spec)⟩
   |cZ t cells=>obtain⟨b,cs,j,J,bb,bu⟩:=h;obtain⟨_,xA,_,_,_,l1⟩:=aV;exact⟨b,cs,by rw[aI];exact j,J,bb,λ k a aB=>key _ _ (bu k a aB) (rb (l1 k a aB))⟩
   |jA t l=>obtain⟨b,cs,j,J,aw⟩:=h;exact⟨b,cs,by rw[aI];exact j,J,aw⟩
   |gone=>exact(aI.trans h:n' aC H.length c d=none)
   |fd=>exact(aI.trans h:n' aC H.length c d=none)
   |ax z g s rows=>
    rcases h with⟨j,J⟩|⟨b,cs,elem,bl,j,J,aw,bb,bu⟩
    ·exact .inl ⟨by rw[aI];exact j,J⟩
    ·exact .inr ⟨b,cs,elem,bl,by rw[aI];exact j,J,aw,bb,λ r q bn=>(bu r q bn).mono (bE _) (λ _ _ h=>h) (λ _ _ _=>rfl)⟩
 ·rcases inv _ _ _ j with⟨ch,ao⟩|⟨hC,a2,ao⟩<;>rcases inv _ _ _ J with⟨cw,bE⟩|⟨fo,dE,bE⟩
  ·have:=nB.inj _ _ _ _ _ ao bE;simp only[fj.mk.injEq,true_and]at this;exact fj.ext' (ch.trans cw.symm) this
  ·exact absurd (congrArg fj.c (nB.inj _ _ _ _ _ ao bE)).symm dE
  ·exact absurd (congrArg fj.c (nB.inj _ _ _ _ _ ao bE)) a2
  ·exact nB.inj _ _ _ _ _ ao bE
 ·rcases inv _ _ _ h with⟨ch,ao⟩|⟨hC,a2,ao⟩
  ·have:=nB.sep _ _ _ ao;exact⟨this.1,this.2.1,by rw[ch];simpa using cg⟩
  ·have:=nB.sep _ _ _ ao;refine⟨this.1,this.2.1,?_⟩;have aw:=this.2.2;simp at aw⊢;omega
 ·rcases inv _ _ _ h with⟨_,ao⟩|⟨hC,a2,ao⟩
  ·exact cW.own _ _ _ ao
  ·exact cW.own _ _ _ ao
 ·have mA:(H.set c j_)[c]?=some j_:=ks cg;cases az with
  |box cells ai=>
   cases s_ with
   |ptr _ _ _ _ _ ah ak aS aK aA av aP=>obtain⟨b,n,j,J⟩:=ak _ Jc;exact .ptr _ _ _ _ _ (by simpa using cg) (λ cells h=>⟨b,n,by rw[xX];exact j,J⟩) (λ _ _ _ h=>by rw[mA]at h;cases h) (λ _ _ _ _ h=>by rw[mA]at h;cases h) (λ _ _ h=>by rw[mA]at h;cases h) av (λ _ _ _ _ h=>R)
  |ae z n rows ex=>
   cases s_ with
   |ref _ _ _ _ _ ah aS aK av aP=>have j:=aS _ _ _ Jc;refine .ref _ _ _ _ _ (by simpa using cg) (λ ay c9 hK h=>?_) (λ _ _ _ h=>by rw[mA]at h;cases h) av (λ _ _ _ _ h=>by rw[mA]at h;cases h;omega);rw[mA]at h;cases h;unfold sX at j⊢;rw[xX];exact j
  |map=>
   cases s_ with
   |dA _ _ ah hm bq hu av bg=>obtain⟨b,n,j,J⟩:=hm _ Jc;exact .dA _ _ (by simpa using cg) (λ es h=>⟨b,n,by rw[xX];exact j,J⟩) (λ _ _ h=>by rw[mA]at h;cases h) (λ _ _ h=>by rw[mA]at h;cases h) av (λ _ _ _ _ h=>by rw[mA]at h;cases h)
def Vp:∀{l:List U} {xs:List aD} {H1:aa},fI [] l=some (xs,H1)→H1=[]∧∀H,fI H l=some (xs,H)
 |[],xs,H1,h=>by simp only[fI,bj,bA]at h;obtain⟨rfl,rfl⟩:=h;exact⟨rfl,λ H=>rfl⟩
 |a::l,xs,H1,h=>by
  simp only[fI]at h;split at h
  ·rename_i x bx j;split at h
   ·rename_i cS oN J;simp only[bj,bA]at h;obtain⟨rfl,rfl⟩:=h;cases a with
    |i z=>simp only[freeze,bj,bA]at j;obtain⟨rfl,rfl⟩:=j;obtain⟨rfl,e⟩:=Vp J;exact⟨rfl,λ H=>by simp only[fI,freeze,e H]⟩
    |x k=>cases k<;>simp[freeze,pj,u6,u7]at j
    |_=>simp[freeze]at j
   ·cases h
  ·cases h
def al2{t:TypeId}{n:Nat}{bm:List (Nat×U)}{k:Option (Option Nat)}{j_:Chunk}(h:h8 (kT E [] t n bm)=some (k,j_))(H:aa)(c:Nat):
  ∃v0 b7,kT E H t n bm=some (v0,H++[b7])∧xW H c b7 j_ v0 (tM c k):=by
 unfold kT at h⊢;split at h;rotate_left
 ·simp[h8]at h
 rename_i e he;split at h;rotate_left
 ·simp[h8]at h
 rename_i z zero bg hzero;split at h;rotate_left
 ·simp[h8]at h
 rename_i ah;split at h;rotate_left
 ·simp[h8]at h
 rename_i cells Ix;split at h;rotate_left
 ·simp[h8]at h
 rename_i xs H1 gN;obtain⟨rfl,ao⟩:=Vp gN;simp only[h8,gM,bj,bA]at h;obtain⟨rfl,rfl⟩:=h;simp only[ah,and_self,if_true,Ix,ao H];exact⟨_,_,rfl,.ae _ _ _ _⟩
def al3{t:TypeId}{l m:U}{k:Option (Option Nat)}{j_:Chunk}(h:h8 (i' E [] t l m)=some (k,j_))(H:aa)(c:Nat):
  ∃v0 b7,i' E H t l m=some (v0,H++[b7])∧xW H c b7 j_ v0 (tM c k):=by
 unfold i' at h⊢;split at h;rotate_left
 ·simp[h8]at h
 rename_i e bG gh bH gr he;split at h;rotate_left
 ·simp[h8]at h
 rename_i z row b bg bZ ak;split at h;rotate_left
 ·rename_i gL;split at h
  ·rename_i ah;simp only[h8,gM,bj,bA]at h;obtain⟨rfl,rfl⟩:=h;rw[if_neg gL,if_pos ah];exact⟨_,_,rfl,.ae _ _ _ _⟩
  ·simp[h8]at h
 rename_i ah;simp only[h8,gM,bj,bA]at h;obtain⟨rfl,rfl⟩:=h;rw[if_pos ah];exact⟨_,_,rfl,.ae _ _ _ _⟩
def al4(v:Value):∀d,d∉bz (cA (jZ v)):=by
 intro d aM;have r:a7 (λ _=>none) (λ _=>none) [] (jZ v) v:=sY v;have h:=rb r d;have:d∈bd (jZ v):=by generalize jZ v=a at aM;cases a<;>simp only[cA,bz,c_]at aM<;>exact aM
 exact absurd (h this) (by simp)
def Vq{a:U}{d:Nat}(h:d∈bz (cA a)):d∈bd a:=by cases a<;>simp only[cA,bz,c_]at h<;>exact h
def al5{t:TypeId}{z n:Nat}{bm:List (Nat×U)}:h8 (tJ E [] t z n bm)=none:=by
 unfold tJ;split
 ·split
  ·unfold Bq;split<;>rfl
  ·rfl
 ·rfl
def al6{z:Nat}{q:Option (U×aa)}:h8 (tL z q)=none:=by
 unfold tL;split
 ·unfold Bt;split<;>rfl
 ·rfl
def Vr{bs:List (Option Nat)}:∀{hB:List Nat} {H1:aa} {cs eG:List U},jp bs hB [] cs=some (eG,H1)→H1=[]∧∀H,jp bs hB H cs=some (eG,H)
 |[],H1,cs,eG,h=>by simp only[jp,bj,bA]at h;obtain⟨rfl,rfl⟩:=h;exact⟨rfl,λ _=>rfl⟩
 |ab::hB,H1,cs,eG,h=>by
  simp only[jp]at h;split at h
  ·rename_i a aB;split at h
   ·rename_i x bx aK;cases a with
    |i z=>simp only[freeze,bj,bA]at aK;obtain⟨rfl,rfl⟩:=aK;obtain⟨rfl,e⟩:=Vr h;exact⟨rfl,λ H=>by simp only[jp,aB,freeze,e H]⟩
    |x k=>cases k<;>simp[freeze,pj,u6,u7]at aK
    |_=>simp[freeze]at aK
   ·cases h
  ·cases h
def al7{t:TypeId}{H1:aa}{v v1:U}{hB:List Nat}(h:kq E t [] v hB=some (v1,H1)):H1=[]∧(∀H,kq E t H v hB=some (v1,H))∧∀d∈bd v1,d∈bd v:=by
 have an:=(I9 h).2;cases hB with
 |nil=>simp only[kq,bj,bA]at h;obtain⟨rfl,rfl⟩:=h;exact⟨rfl,λ _=>rfl,an⟩
 |cons ab hB=>
  simp only[kq,vb]at h;split at h
  ·rename_i cs bx aK;simp only[bj,bA]at h;obtain⟨rfl,rfl⟩:=h;obtain⟨rfl,e⟩:=Vr aK;exact⟨rfl,λ H=>by simp only[kq,vb,e H],an⟩
  ·cases h
def al8{I:Fr}{a:Act}(aq:b6 E ad ac H w)(aK:e1 ad ac H I a.tmps){aj:Op}(b':dS aj=true){k:Option (Option Nat)}{j_:Chunk}(h:h8 (dh E I [] aj)=some (k,j_))(c:Nat):
  ∃v0 b7,dh E I H aj=some (v0,H++[b7])∧xW H c b7 j_ v0 (tM c k):=by
 cases aj with
 |alloc e=>
  simp only[dh]at h⊢;split at h
  ·rename_i v bi;split at h
   ·rename_i j;split at h
    ·split at h<;>simp[h8]at h
    rename_i bq;simp only[h8,gM,bj,bA]at h;obtain⟨rfl,rfl⟩:=h;simp only[j,if_true,bq];refine⟨_,_,rfl,.box _ λ d aM=>?_⟩;obtain⟨dZ,_,sZ⟩:=xx bi w;rw[sZ]at aM;exact absurd aM (al4 dZ d)
   ·simp[h8]at h
  ·simp[h8]at h
 |box t x=>
  simp only[dh]at h⊢;unfold y9 at h;split at h
  ·rename_i v1 H1 bg;obtain⟨rfl,ao,aI⟩:=al7 bg;split at h
   ·rename_i j;simp only[h8,gM,bj,bA]at h;obtain⟨rfl,rfl⟩:=h;simp only[ao,y9,j,if_true];exact⟨_,_,rfl,.box _ λ d aM=>rb (eK aq aK x) d (aI d (Vq aM))⟩
   ·simp[h8]at h
  ·simp[h8]at h
 |buildSlice t n bm=>
  simp only[dh]at h⊢;split at h
  ·exact al2 h H c
  ·rw[al5]at h;cases h
 |makeSlice t l m=>
  simp only[dh]at h⊢;split at h
  ·exact al3 h H c
  ·rw[al6]at h;cases h
 |makeMap t r=>
  cases r with
  |some r=>simp[dS]at b'
  |none=>
   simp only[dh]at h⊢;split at h
   ·rename_i p av;simp only[h8,gM,bj,bA]at h;obtain⟨rfl,rfl⟩:=h;exact⟨_,_,rfl,.map⟩
   ·simp[h8]at h
 |_=>simp[dS]at b'
end
section
variable{E:Env}{aL:dD}{H:aa}
def al9{I:Fr}(t:TypeId)(a x:Operand):ci E aL (.store t a x) I H=w8 E t (bo E I a) (kq E t H (bo E I x) (E.sO t)):=rfl
def Cj{a:U}{x:aD}{H1:aa}{c:Nat}(y:Chunk)(h:freeze H a=some (x,H1))(ah:c∉bd a):freeze (H.set c y) a=some (x,H1.set c y):=by
 cases a with
 |i z=>simp only[freeze,bj,bA]at h;obtain⟨rfl,rfl⟩:=h;rfl
 |ref d g off len=>
  have aM:c≠d:=by simpa[bd]using ah
  simp only[freeze,dC aM]at h⊢;split at h
  ·rename_i he;rw[he];split at h
   ·rename_i aP;simp only[bj,bA]at h;obtain⟨rfl,rfl⟩:=h;simp only[aP,if_true];rw[oa _ _ aM]
   ·cases h
  ·rename_i he;rw[he];split at h
   ·rename_i aP;simp only[bj,bA]at h;obtain⟨rfl,rfl⟩:=h;simp only[aP,if_true]
   ·cases h
  ·cases h
 |x k=>
  have aM:c≠k.c:=by simpa[bd]using ah
  cases k with
  |e=>cases h
  |p=>cases h
  |d d g off len=>
   simp only[cP.c]at aM;simp only[freeze,pj,dC aM]at h⊢;unfold u6 Bn at h⊢;split at h
   ·rename_i he;rw[he];split at h
    ·rename_i aP;split at h
     ·rename_i al;simp only[bj,bA]at h;obtain⟨rfl,rfl⟩:=h;simp only[aP,if_true,al];rw[oa _ _ aM]
     ·cases h
    ·cases h
   ·rename_i he;rw[he];split at h
    ·rename_i aP;simp only[bj,bA]at h;obtain⟨rfl,rfl⟩:=h;simp only[aP,if_true]
    ·cases h
   ·cases h
  |h d g s r=>
   simp only[cP.c]at aM;simp only[freeze,pj,dC aM]at h⊢;unfold u7 at h⊢;split at h
   ·rename_i he;rw[he];split at h
    ·rename_i aP;split at h
     ·rename_i al;simp only[bj,bA]at h;obtain⟨rfl,rfl⟩:=h;simp only[aP,and_self,if_true,al];rw[oa _ _ aM]
     ·cases h
    ·cases h
   ·cases h
 |_=>simp[freeze]at h
def al_{z c:Nat}{v:U}{q:bS}{H1:aa}(y:Chunk)(h:p8 H z v=some (q,H1))(ah:c∉bd v):p8 (H.set c y) z v=some (q,H1.set c y):=by
 have Vs:∀v,tI z (freeze H v)=some (q,H1)→c∉bd v→tI z (freeze (H.set c y) v)=some (q,H1.set c y):=by
  intro v h ah;unfold tI at h⊢;split at h
  ·rename_i x bx aK;simp only[bj,bA]at h;obtain⟨rfl,rfl⟩:=h;rw[Cj y aK ah]
  ·cases h
 unfold p8 at h⊢;split at h
 ·rename_i d g len;have aM:c≠d:=by simpa[bd]using ah
  simp only[dC aM];unfold Bp at h⊢;split at h
  ·rename_i he;rw[he];simp only;split at h
   ·rename_i j;simp only[bj,bA]at h;obtain⟨rfl,rfl⟩:=h;rw[if_pos j,oa _ _ aM]
   ·cases h
  ·exact Vs _ h ah
 ·exact Vs _ h ah
def al'{t:TypeId}{n c:Nat}{v:U}{k:cP}{ap:aa}(y:Chunk)(h:p9 E H t n v k=some ap)(az:c≠k.c)(bi:c∉bd v):p9 E (H.set c y) t n v k=some (ap.set c y):=by
 cases k with
 |d=>cases h
 |h=>cases h
 |e d g r=>
  simp only[cP.c]at az;simp only[p9,dC az]at h⊢;split at h
  ·rename_i j;rw[if_pos j];unfold w5 at h⊢;split at h
   ·rename_i he;rw[he];simp only;unfold w4 at h⊢;split at h
    ·rename_i q H1 ai;rw[al_ y ai bi];simp only[dC az];split at h
     ·rename_i pw;rw[pw];simp only;split at h
      ·rename_i J;simp only[bj]at h;subst h;rw[if_pos J,oa _ _ az]
      ·cases h
     ·cases h
    ·cases h
   ·cases h
  ·cases h
 |p d g s r i k=>
  simp only[cP.c]at az;simp only[p9,dC az]at h⊢;unfold w6 at h⊢;split at h
  ·rename_i he;rw[he];simp only;split at h
   ·rename_i j;rw[if_pos j];split at h
    ·rename_i ai
     try simp only[ai]
     split at h
     ·rename_i aw bb;simp only[bj]at h;subst h
      try simp only[aw,bb]
      rw[oa _ _ az]
     ·cases h
    ·cases h
   ·cases h
  ·cases h
def Vt{z d c:Nat}{x:U}{new:List bS}{H1:aa}(y:Chunk)(h:lK z H x=some (d,new,H1))(ah:c∉bd x):lK z (H.set c y) x=some (d,new,H1.set c y):=by
 unfold lK at h⊢;split at h
 ·rename_i hR g off len;have aM:c≠hR:=by simpa[bd,cP.c]using ah
  simp only[dC aM];unfold u' at h⊢;split at h
  ·rename_i he;rw[he];simp only;split at h
   ·rename_i j;simp only[bj,bA]at h;obtain⟨rfl,rfl,rfl⟩:=h;rw[if_pos j,oa _ _ aM]
   ·cases h
  ·cases h
 ·cases h
def ama{z d:Nat}{x:U}{new:List bS}{H1:aa}(h:lK z H x=some (d,new,H1)):H1.length=H.length:=by
 unfold lK u' at h
 repeat' split at h
 all_goals first|(simp only[bj,bA]at h;obtain⟨_,_,rfl⟩:=h;simp)|cases h
def amb{t t2:TypeId}{z:Nat}{s x v:U}{ap:aa}{c:Nat}(y:Chunk)(h:tK E H t t2 z s x=some (v,ap))(aS:c∉bd s)(al:c∉bd x)(an:c<H.length):tK E (H.set c y) t t2 z s x=some (v,ap.set c y):=by
 unfold tK at h⊢;split at h;rotate_left
 ·cases h
 rename_i j;rw[if_pos j];unfold va at h⊢;split at h;rotate_left
 ·cases h
 rename_i d new H1 xN;rw[Vt y xN al];have hY:=ama xN;simp only;split at h
 ·split at h
  ·rename_i J;simp only[bj,bA]at h;obtain⟨rfl,rfl⟩:=h;rw[if_pos J,jI,vK _ _ R]
  ·cases h
 ·rename_i hR g len;have aM:c≠hR:=by simpa[bd,cP.c]using aS
  simp only[dC aM];unfold Br at h⊢;split at h
  ·rename_i he;rw[he];simp only;split at h
   ·rename_i J;simp only[bj,bA]at h;obtain⟨rfl,rfl⟩:=h;rw[if_pos J,oa _ _ aM]
   ·cases h
  ·cases h
 ·cases h
def amc{t:TypeId}{z:Nat}{x u v:U}{ap:aa}{c:Nat}(y:Chunk)(h:qT E H t z x u=some (v,ap))(aS:c∉bd x)(al:c∉bd u):qT E (H.set c y) t z x u=some (v,ap.set c y):=by
 unfold qT at h⊢;split at h;rotate_left
 ·cases h
 rename_i j;rw[if_pos j];unfold y5 at h⊢;split at h;rotate_left
 ·cases h
 rename_i d new H1 xN;rw[Vt y xN al];simp only;split at h
 ·rename_i hR g off len;have aM:c≠hR:=by simpa[bd,cP.c]using aS
  simp only[dC aM];unfold Bs at h⊢;split at h
  ·rename_i he;rw[he];simp only;split at h
   ·rename_i J;simp only[bj,bA]at h;obtain⟨rfl,rfl⟩:=h;rw[if_pos J,oa _ _ aM]
   ·cases h
  ·cases h
 ·cases h
def Jd{c:Nat}(y:Chunk):∀{l:List U} {H H1:aa} {xs:List aD},fI H l=some (xs,H1)→c∉bz l→fI (H.set c y) l=some (xs,H1.set c y)
 |[],H,H1,xs,h,_=>by simp only[fI,bj,bA]at h;obtain⟨rfl,rfl⟩:=h;rfl
 |a::l,H,H1,xs,h,ah=>by
  simp only[bz,fT,not_or]at ah;simp only[fI]at h⊢;split at h
  ·rename_i x bx j;split at h
   ·rename_i cS oN J;simp only[bj,bA]at h;obtain⟨rfl,rfl⟩:=h;rw[Cj y j ah.1];simp only[Jd y J ah.2]
   ·cases h
  ·cases h
def amd{c:Nat}(y:Chunk){l:List U}{H:aa}(h:fI H l=none)(ah:c∉bz l):fI (H.set c y) l=none:=by
 cases J:fI (H.set c y) l with
 |none=>rfl
 |some p=>
  exfalso;by_cases an:c<H.length
  ·have:=Jd (c:=c) H[c] J ah;rw[vn]at this;simp[h]at this
  ·rw[List.set_eq_of_length_le R,h]at J;cases J
def Ck{c:Nat}(y:Chunk):∀{l bI:List U} {H H1:aa},dr H l=some (bI,H1)→c∉bz l→dr (H.set c y) l=some (bI,H1.set c y)
 |[],bI,H,H1,h,_=>by simp only[dr,bj,bA]at h;obtain⟨rfl,rfl⟩:=h;rfl
 |a::l,bI,H,H1,h,ah=>by
  simp only[bz,fT,not_or]at ah;cases a with
  |ref d g off len=>
   simp only[dr]at h⊢;split at h
   ·rename_i x bx j;split at h
    ·rename_i tc oN J;simp only[bj,bA]at h;obtain⟨rfl,rfl⟩:=h;rw[Cj y j ah.1];simp only[Ck y J ah.2]
    ·cases h
   ·cases h
  |agg cells=>
   have e9:c∉bz cells:=by simpa[bd]using ah.1
   simp only[dr]at h⊢;cases aK:fI H cells with
   |none=>
    rw[aK]at h;rw[amd y aK e9];simp only at h⊢;split at h
    ·rename_i tc oN J;simp only[bj,bA]at h;obtain⟨rfl,rfl⟩:=h;rw[Ck y J ah.2]
    ·cases h
   |some p=>
    obtain⟨xs,bx⟩:=p;rw[aK]at h;rw[Jd y aK e9];simp only at h⊢;split at h
    ·rename_i tc oN J;simp only[bj,bA]at h;obtain⟨rfl,rfl⟩:=h;rw[Ck y J ah.2]
    ·cases h
  |x q=>
   simp only[dr]at h⊢;split at h
   ·rename_i x bx j;split at h
    ·rename_i tc oN J;simp only[bj,bA]at h;obtain⟨rfl,rfl⟩:=h;rw[Cj y j ah.1];simp only[Ck y J ah.2]
    ·cases h
   ·cases h
  |dead|i|ptr|dA|aR|be=>
   simp only[dr]at h⊢;split at h
   ·rename_i tc oN J;simp only[bj,bA]at h;obtain⟨rfl,rfl⟩:=h;rw[Ck y J ah.2]
   ·cases h
def ame{c:Nat}(y:Chunk)(z:Nat)(H:aa)(an:c<H.length)(a:U):i_ z (H.set c y) a=((i_ z H a).1,(i_ z H a).2.set c y):=by
 unfold i_;split
 ·cases decide (z<1000)
  ·simp only[y1,jI];rw[vK _ _ an]
  ·simp only[y1,jI];rw[vK _ _ an]
 ·rfl
def amf{c:Nat}(y:Chunk)(k:List (Option Nat))(H:aa)(an:c<H.length)(a:U):lf k (H.set c y) a=((lf k H a).1,(lf k H a).2.set c y):=by
 unfold lf;split
 ·exact ame y _ H an _
 ·rfl
def amg(k:List (Option Nat))(H:aa)(a:U):H.length≤(lf k H a).2.length:=by obtain⟨x,al⟩:=Vc k H a;rw[al];simp
def Vu{c:Nat}(y:Chunk):∀(bs:List (List (Option Nat))) (l:List U) (H:aa),c<H.length→eW bs l (H.set c y)=((eW bs l H).1,(eW bs l H).2.set c y)
 |[],l,H,_=>by simp[eW]
 |k::bs,[],H,_=>by simp[eW]
 |k::bs,a::l,H,an=>by simp only[eW,amf y k H an a];rw[Vu y bs l _ (xf an (amg _ _ _))]
def amh{f:FuncId}{c:Nat}(y:Chunk){l bI:List U}{H H1:aa}(h:ja E f H l=some (bI,H1))(ah:c∉bz l)(an:c<H.length):ja E f (H.set c y) l=some (bI,H1.set c y):=by
 unfold ja at h⊢;split at h
 ·simp only[bj]at h;simp only[Vu y _ l H an,h]
 ·split at h
  ·rename_i tc bx J;simp only[bj,bA]at h;obtain⟨rfl,rfl⟩:=h;rw[Ck y J ah]
  ·cases h
def Om(H:aa):∀(n:Nat) (l seen:List Nat) (c:Nat),c∈seen→c∈reach H n l seen
 |0,l,seen,c,h=>by cases l<;>exact h
 |n+1,[],seen,c,h=>h
 |n+1,d::l,seen,c,h=>by
  unfold reach;split
  ·exact Om H n l seen c h
  ·exact Om H n _ _ c (by simp[h])
def On(H:aa){c:Nat}(y:Chunk):∀(n:Nat) (l seen:List Nat),c∉reach H n l seen→reach (H.set c y) n l seen=reach H n l seen
 |0,l,seen,_=>by cases l<;>rfl
 |n+1,[],seen,_=>rfl
 |n+1,d::l,seen,h=>by
  unfold reach at h⊢;simp only[jI];split at h
  ·rename_i j;rw[if_pos j,if_pos j];exact On H y n l seen h
  ·rename_i j;rw[if_neg j,if_neg j];have aM:c≠d:=by rintro rfl;exact h (Om H n _ _ c (by simp))
   rw[dC aM];exact On H y n _ _ h
def Vv{c:Nat}(y:Chunk):∀(aW:List Nat) (xs:List Chunk) (H:aa),c∉aW→ef (H.set c y) aW xs=(ef H aW xs).set c y
 |[],xs,H,_=>by cases xs<;>rfl
 |d::aW,[],H,_=>rfl
 |d::aW,x::xs,H,h=>by simp only[mU,not_or]at h;simp only[ef];rw[oa _ _ h.1,Vv y aW xs _ h.2]
def Vw{f:FuncId}{args:List U}{ap:aa}{r:U}{c:Nat}(y:Chunk)(h:lg E aL f args H=some (r,ap))(ah:c∉qY E f args H)(an:c<H.length):
  lg E aL f args (H.set c y)=some (r,ap.set c y)∧qY E f args (H.set c y)=qY E f args H:=by
 unfold lg at h;unfold qY at ah⊢;unfold lg;split at h
 ·cases h
 ·rename_i bI H1 av;rw[av]at ah⊢;simp only[fT,not_or]at ah;have hlen:=(Ve av).1;have mz:=amh y av ah.1 an;rw[mz];simp only;rw[On H1 y 64 _ _ ah.2];refine⟨?_,rfl⟩;simp only at h;have dc:∀d∈reach H1 64 (bz bI) [],c≠d:=λ d aM e=>ah.2 (e▸aM)
  generalize reach H1 64 (bz bI) []=aW at h dc ah⊢;have ao:(aW.map λ d=>(((H1.set c y)[d]?).map (Chunk.cL (bt aW))).getD (.iter [] 0))=aW.map λ d=>((H1[d]?).map (Chunk.cL (bt aW))).getD (.iter [] 0):=
   zM λ d aM=>by rw[dC (dc d aM)]
  rw[ao];split at h
  ·cases h
  ·rename_i ix L fh;split at h
   ·cases h
   ·rename_i xY;simp only[bj,bA]at h;obtain⟨rfl,rfl⟩:=h;simp only[fh,xY,if_false,jI];rw[Vv y _ _ _ ah.2,vK _ _ (by rw[xP];omega)]
def ami{f:FuncId}{args:List U}{ap:aa}{r:U}{c:Nat}(y:Chunk)(h:gn E aL f args H=some (r,ap))(ah:c∉jq E f args H)(fq:c+kV∉jq E f args H)(an:c<H.length):
  gn E aL f args (H.set c y)=some (r,ap.set c y)∧jq E f args (H.set c y)=jq E f args H:=by
 unfold gn at h⊢;unfold jq at ah fq⊢;cases hm:E.oy f with
 |none=>
  rw[hm]at h ah fq;simp only at h ah fq⊢;cases ai:E.sN f with
  |false=>rw[ai]at h ah;exact Vw y h ah an
  |true=>
   rw[ai]at h fq;simp only at h fq⊢;obtain⟨rfl,aw⟩:=Fp h;have xq:c∉qY E f args ap:=λ gq=>fq (FG.2 ⟨c,gq,rfl⟩)
   obtain⟨ao,aI⟩:=Vw y aw xq an;exact⟨by rw[ao];exact I7 _,by rw[aI]⟩
 |some fn=>
  rw[hm]at h;simp only at h⊢;refine⟨?_,trivial⟩;unfold xd at h⊢;split at h
  ·split at h
   ·rename_i b';cases h;rw[if_pos b',jI,vK _ _ an]
   ·cases h
  ·cases h
def Vx{x:U}{c:Nat}(y:Chunk)(ah:c∉bd x):hP (H.set c y) x=hP H x:=by
 cases x with
 |ref d g off len=>
  have aM:c≠d:=by simpa[bd]using ah
  simp only[hP,dC aM]
 |i z=>cases z<;>rfl
 |_=>rfl
def amj{x:U}{c:Nat}(y:Chunk)(ah:c∉bd x):kU (H.set c y) x=kU H x:=by
 cases x with
 |i z=>cases z<;>rfl
 |ref d g off len=>exact Vx (H:=H) y ah
 |_=>rfl
def amk{t:TypeId}{p v:U}{ap:aa}{c:Nat}(y:Chunk)(h:nU E H t p v=some ap)(av:c∉bd p)(bi:c∉bd v):nU E (H.set c y) t p v=some (ap.set c y):=by
 unfold nU at h⊢;split at h
 ·rename_i n aF;split at h
  ·rename_i j;simp only[j,and_self,if_true];cases p with
   |x q=>exact al' y h (by simpa[bd]using av) bi
   |ptr d g r k=>
    have aM:c≠d:=by simpa[bd]using av
    have qm:c∉bz (cA v):=λ h=>bi (Vq h)
    simp only[dC aM]at h⊢;split at h
    ·rename_i he;rw[he];split at h
     ·rename_i J;simp only[bj]at h;subst h;simp only[J,if_true];rw[oa _ _ aM]
     ·cases h
    ·rename_i he;rw[he];split at h
     ·rename_i xs H1 gN;rw[Jd y gN qm];simp only[dC aM]at h⊢;split at h
      ·rename_i pw;rw[pw];split at h
       ·rename_i aw;split at h
        ·rename_i row bZ;simp only[bj]at h;subst h;simp only;rw[if_pos aw,bZ];simp only;rw[oa _ _ aM]
        ·cases h
       ·cases h
      ·cases h
     ·cases h
    ·cases h
   |_=>cases h
  ·cases h
 ·cases h
def Vy{t t2:TypeId}{s x v:U}{ap:aa}{c:Nat}(y:Chunk)(h:hI E H t t2 s x=some (v,ap))(aS:c∉bd s)(al:c∉bd x)(an:c<H.length):hI E (H.set c y) t t2 s x=some (v,ap.set c y):=by
 unfold hI at h⊢;rw[amj y al];split at h;rotate_left
 ·cases h
 rename_i e he;split at h;rotate_left
 ·cases h
 rename_i z b dZ db new ND bg ak hzero pz;split at h;rotate_left
 ·cases h
 rename_i ah;rw[if_pos ah];cases s with
 |i u=>
  cases u with
  |ae ay rows ex=>
   simp only at h⊢;split at h
   ·rename_i j;simp only[bj,bA]at h;obtain⟨rfl,rfl⟩:=h;rw[if_pos j,jI,vK _ _ an]
   ·cases h
  |_=>cases h
 |ref d g off len=>
  have aM:c≠d:=by simpa[bd]using aS
  simp only[dC aM]at h⊢;split at h
  ·rename_i pw;rw[pw];split at h
   ·rename_i j;simp only[bj,bA]at h;obtain⟨rfl,rfl⟩:=h;simp only;rw[if_pos j,oa _ _ aM]
   ·cases h
  ·rename_i pw;rw[pw];split at h
   ·rename_i j;simp only[bj,bA]at h;obtain⟨rfl,rfl⟩:=h;simp only;rw[if_pos j,jI,vK _ _ an]
   ·cases h
  ·cases h
 |_=>cases h
def aml{t t2:TypeId}{z:Nat}{s x v:U}{ap:aa}{c:Nat}(y:Chunk)(h:qU E H t t2 z s x=some (v,ap))(aS:c∉bd s)(al:c∉bd x)(an:c<H.length):qU E (H.set c y) t t2 z s x=some (v,ap.set c y):=by
 unfold qU at h⊢;split at h
 ·exact Vy y h aS al an
 ·exact amb y h aS al an
def amm{t:TypeId}{d x v:U}{ap:aa}{c:Nat}(y:Chunk)(h:ns E H t d x=some (v,ap))(aS:c∉bd d)(al:c∉bd x):ns E (H.set c y) t d x=some (v,ap.set c y):=by
 unfold ns at h⊢;rw[Vx y al];split at h;rotate_left
 ·cases h
 rename_i e he;split at h;rotate_left
 ·cases h
 rename_i z hR g off len db new ND bg Fc;split at h;rotate_left
 ·cases h
 rename_i ah;rw[if_pos ah];have aM:c≠hR:=by simpa[bd]using aS
 simp only[dC aM]at h⊢;unfold y7 at h⊢;split at h
 ·rename_i pw;rw[pw];split at h
  ·rename_i j;simp only[bj,bA]at h;obtain⟨rfl,rfl⟩:=h;simp only;rw[if_pos j,oa _ _ aM]
  ·cases h
 ·cases h
def Vz{t:TypeId}{m k x v:U}{ap:aa}{c:Nat}(y:Chunk)(h:mQ E H t m k x=some (v,ap))(ah:c∉bd m):mQ E (H.set c y) t m k x=some (v,ap.set c y):=by
 unfold mQ at h⊢;split at h
 ·rename_i d;have aM:c≠d:=by simpa[bd]using ah
  simp only[dC aM];unfold sS at h⊢;split at h
  ·rename_i es he;rw[he];simp only;split at h
   ·rename_i i7 e cu j;split at h
    ·rename_i J;simp only[c0,bA]at h;obtain⟨hQ,aw,rfl,rfl⟩:=h;simp only[j,J,and_self,if_true,aw,d',oa _ _ aM]
    ·cases h
   ·cases h
  ·cases h
 ·cases h
def VA{c:Nat}(y:Chunk){bs:List (Option Nat)}:∀{hB:List Nat} {H H1:aa} {cs eG:List U},jp bs hB H cs=some (eG,H1)→c∉bz cs→jp bs hB (H.set c y) cs=some (eG,H1.set c y)
 |[],H,H1,cs,eG,h,ah=>by simp only[jp,bj,bA]at h⊢;obtain⟨rfl,rfl⟩:=h;exact⟨rfl,rfl⟩
 |ab::hB,H,H1,cs,eG,h,ah=>by
  simp only[jp]at h⊢;split at h
  ·rename_i a aB;split at h
   ·rename_i x bx aK;rw[Cj y aK λ h=>ah (l0.2 ⟨ab,a,aB,h⟩)];exact VA y h λ h=>ah (N' h)
   ·cases h
  ·cases h
def amn{c:Nat}(y:Chunk){t:TypeId}{H H1:aa}{v v1:U}{hB:List Nat}(h:kq E t H v hB=some (v1,H1))(ah:c∉bd v):kq E t (H.set c y) v hB=some (v1,H1.set c y):=by
 cases hB with
 |nil=>simp only[kq,bj,bA]at h⊢;obtain⟨rfl,rfl⟩:=h;exact⟨rfl,rfl⟩
 |cons ab hB=>
  simp only[kq,vb]at h;split at h
  ·rename_i cs bx aK;simp only[bj,bA]at h;obtain⟨rfl,rfl⟩:=h;simp only[kq,vb,VA y aK (by rw[Vf];exact ah)]
  ·cases h
def Je{I:Fr}{aj:Op}{v:U}{ap:aa}{c:Nat}(y:Chunk)(h:ci E aL aj I H=some (v,ap))(aO:eC E aj=true)(gN:dS aj=false)(ah:c∉cR E I H aj)(fq:c+kV∉cR E I H aj)(an:c<H.length):
  ci E aL aj I (H.set c y)=some (v,ap.set c y)∧cR E I (H.set c y) aj=cR E I H aj:=by
 cases aj with
 |store t a x=>
  simp only[cR,fT,not_or]at ah;rw[al9]at h⊢;unfold w8 at h;split at h
  ·rename_i v1 H1 bg;rw[amn y bg ah.2];simp only[w8,c0,bA]at h⊢;obtain⟨bx,j,rfl,rfl⟩:=h;exact⟨⟨_,amk y j ah.1 (λ h=>ah.2 ((I9 bg).2 _ h)),rfl,rfl⟩,rfl⟩
  ·cases h
 |convert s d x=>
  have c8:∀H,ci E aL (.convert s d x) I H=dh E I H (.convert s d x):=λ H=>by simp only[ci,aO,if_true]
  rw[c8]at h⊢;simp only[dh]at h⊢;split at h
  ·rename_i l al;split at h
   ·rename_i j;rw[if_pos j];unfold y8 at h⊢;split at h
    ·simp only[bj,bA]at h;obtain⟨rfl,rfl⟩:=h;rw[jI,vK _ _ an];exact⟨rfl,rfl⟩
    ·simp only[bj,bA]at h;obtain⟨rfl,rfl⟩:=h;rw[jI,vK _ _ an];exact⟨rfl,rfl⟩
    ·cases h
   ·cases h
  ·cases h
 |slice t x bU aA kQ=>
  cases kQ with
  |none=>simp[eC]at aO
  |some m=>
   have c8:∀H,ci E aL (.slice t x bU aA (some m)) I H=dh E I H (.slice t x bU aA (some m)):=λ H=>by simp only[ci,aO,if_true]
   rw[c8]at h⊢;simp only[dh]at h⊢;simp only[cR]at ah;split at h
   ·rename_i z H1 bg;simp only[c0,bA]at h;obtain⟨v1,j,rfl,rfl⟩:=h;rw[Cj y bg ah];simp only[c0,bA];have aS:j2 E (H1.set c y) t (.i z) (bU.map (bo E I)) (aA.map (bo E I)) (some (bo E I m))=j2 E H1 t (.i z) (bU.map (bo E I)) (aA.map (bo E I)) (some (bo E I m)):=by unfold j2;cases z<;>rfl
    exact⟨⟨v1,by rw[aS];exact j,by simp⟩,by first|rfl|trivial⟩
   ·cases h
 |range t x=>
  have c8:∀H,ci E aL (.range t x) I H=dh E I H (.range t x):=λ H=>by simp only[ci,aO,if_true]
  rw[c8]at h⊢;simp only[dh]at h⊢;split at h
  ·rename_i l al;split at h
   ·rename_i j;simp only[bj,bA]at h;obtain⟨rfl,rfl⟩:=h;rw[if_pos j,jI,vK _ _ an];exact⟨rfl,rfl⟩
   ·cases h
  ·cases h
 |makeMap t r=>
  cases r with
  |some r=>simp only[ci,aO,if_true,dh]at h;cases h
  |none=>simp[dS]at gN
 |mapUpdate t m k x=>
  have c8:∀H,ci E aL (.mapUpdate t m k x) I H=dh E I H (.mapUpdate t m k x):=λ H=>by simp only[ci,aO,if_true]
  rw[c8]at h⊢;simp only[dh]at h⊢;simp only[cR,fT,not_or]at ah;exact⟨Vz y h ah.1,rfl⟩
 |insert t m k x=>
  have c8:∀H,ci E aL (.insert t m k x) I H=dh E I H (.insert t m k x):=λ H=>by simp only[ci,aO,if_true]
  rw[c8]at h⊢;simp only[dh]at h⊢;simp only[cR,fT,not_or]at ah;exact⟨Vz y h ah.1,rfl⟩
 |next it b=>
  have c8:∀H,ci E aL (.next it b) I H=dh E I H (.next it b):=λ H=>by simp only[ci,aO,if_true]
  rw[c8]at h⊢;simp only[dh]at h⊢;simp only[cR]at ah;split at h
  ·rename_i d g r al;rw[al]at ah;have aM:c≠d:=by simpa[bd]using ah
   simp only[dC aM];split at h
   ·rename_i s pos he;rw[he];simp only;split at h
    ·rename_i j;simp only[bj,bA]at h;obtain⟨rfl,rfl⟩:=h;rw[if_pos j,oa _ _ aM];exact⟨rfl,rfl⟩
    ·rename_i j;simp only[bj,bA]at h;obtain⟨rfl,rfl⟩:=h;rw[if_neg j];exact⟨rfl,rfl⟩
   ·cases h
  ·cases h
 |call td=>
  obtain⟨callee,args,e6⟩:=td;cases callee with
  |value f=>
   simp only[ci]at h⊢;simp only[cR]at ah fq⊢;split at h
   ·rename_i g bI aP;rw[aP]at ah fq;simp only at ah fq⊢;split at h
    ·rename_i pG;simp only[pG,if_true];exact ami y h ah fq an
    ·cases h
   ·cases h
  |builtin b=>
   cases b with
   |append=>
    have c8:∀H,ci E aL (.call ⟨.builtin .append,args,e6⟩) I H=dh E I H (.call ⟨.builtin .append,args,e6⟩):=λ H=>rfl
    rw[c8]at h⊢;simp only[dh]at h⊢;simp only[cR]at ah;split at h
    ·rename_i s x t t2 j J;rw[j]at ah;simp only[fk,fp,bz,c_,fT,not_or]at ah;split at h
     ·exact⟨Vy y h ah.1 ah.2 an,rfl⟩
     ·exact⟨aml y h ah.1 ah.2 an,rfl⟩
    ·rename_i ak _ _;cases ak
    ·cases h
   |copy=>
    have c8:∀H,ci E aL (.call ⟨.builtin .copy,args,e6⟩) I H=dh E I H (.call ⟨.builtin .copy,args,e6⟩):=λ H=>rfl
    rw[c8]at h⊢;simp only[dh]at h⊢;simp only[cR]at ah;split at h
    ·rename_i ak _ _;cases ak
    ·rename_i d x t t2 j J;rw[j]at ah;simp only[fk,fp,bz,c_,fT,not_or]at ah;split at h
     ·exact⟨amm y h ah.1 ah.2,rfl⟩
     ·exact⟨amc y h ah.1 ah.2,rfl⟩
    ·cases h
   |_=>simp[eC]at aO
  |_=>simp[eC]at aO
 |alloc|box|buildSlice|makeSlice=>simp[dS]at gN
 |_=>simp[eC]at aO
def VB:∀{a b:List UInt8},a≠b→qQ b a=!qQ a b
 |[],[],h=>absurd rfl h
 |[],_::_,_=>rfl
 |_::_,[],_=>rfl
 |a::r,b::t,h=>by
  simp only[qQ];by_cases j:a.toNat<b.toNat
  ·rw[if_pos j,if_neg (show¬b.toNat<a.toNat by omega),if_neg (show¬b.toNat=a.toNat by omega)];rfl
  ·by_cases J:b.toNat<a.toNat
   ·rw[if_pos J,if_neg j,if_neg (show¬a.toNat=b.toNat by omega)];rfl
   ·have aw:a.toNat=b.toNat:=R;rw[if_neg j,if_neg J,if_pos aw,if_pos aw.symm];have cU:a=b:=UInt8.toNat_inj.1 aw;subst cU;exact VB λ e=>h (by rw[e])
def VC:∀{a b c:List UInt8},qQ a b=true→qQ b c=true→qQ a c=true
 |[],[],_,h,_=>by cases h
 |[],_::_,[],_,h=>by simp[qQ]at h
 |[],_::_,_::_,_,_=>rfl
 |_::_,[],_,h,_=>by simp[qQ]at h
 |_::_,_::_,[],_,h=>by simp[qQ]at h
 |a::r,b::t,c::u,h,k=>by
  simp only[qQ]at h k⊢;by_cases j:a.toNat<b.toNat
  ·by_cases bG:b.toNat<c.toNat
   ·rw[if_pos R]
   ·rw[if_neg bG]at k;by_cases bH:b.toNat=c.toNat
    ·rw[if_pos R]
    ·rw[if_neg bH]at k;cases k
  ·rw[if_neg j]at h;by_cases J:a.toNat=b.toNat
   ·rw[if_pos J]at h;by_cases bG:b.toNat<c.toNat
    ·rw[if_pos R]
    ·rw[if_neg bG]at k;by_cases bH:b.toNat=c.toNat
     ·rw[if_pos bH]at k;rw[if_neg R,if_pos R];exact VC h k
     ·rw[if_neg bH]at k;cases k
   ·rw[if_neg J]at h;cases h
def amo{a b:aD}(h:gm a b=some false):(∃k x y,a=.v (.int k x)∧b=.v (.int k y)∧x≠y)∨∃s t,a=.str s∧b=.str t∧s≠t:=by
 unfold gm at h;split at h
 ·split at h
  ·rename_i az;subst az;exact .inl ⟨_,_,_,rfl,rfl,of_decide_eq_false (qf h)⟩
  ·cases h
 ·exact .inr ⟨_,_,rfl,rfl,of_decide_eq_false (qf h)⟩
 ·cases h
def Oo{a b:aD}(h:nr a b=true):(∃k dv x y,a=.v (.int k x)∧b=.v (.int dv y)∧x<y)∨∃s t,a=.str s∧b=.str t∧qQ s t=true:=by
 unfold nr at h;split at h
 ·exact .inl ⟨_,_,_,_,rfl,rfl,of_decide_eq_true h⟩
 ·exact .inr ⟨_,_,rfl,rfl,h⟩
 ·cases h
def VD{a b:aD}(h:gm a b=some false):nr b a=!nr a b:=by
 rcases amo h with⟨k,x,y,rfl,rfl,aF⟩|⟨s,t,rfl,rfl,aF⟩
 ·simp only[nr];by_cases j:x<y
  ·rw[decide_eq_true j,decide_eq_false R];rfl
  ·rw[decide_eq_false j,decide_eq_true R];rfl
 ·exact VB aF
def VE{a b c:aD}(h:nr a b=true)(k:nr b c=true):nr a c=true:=by
 rcases Oo h with⟨bG,bH,x,y,rfl,rfl,aF⟩|⟨s,t,rfl,rfl,aF⟩
 ·rcases Oo k with⟨cG,eZ,z,u,e,rfl,hm⟩|⟨s,t,e,_,_⟩
  ·cases e;exact decide_eq_true R
  ·cases e
 ·rcases Oo k with⟨cG,eZ,z,u,e,_,_⟩|⟨s2,t2,e,rfl,hm⟩
  ·cases e
  ·cases e;exact VC aF hm
def VF{bG bH:aD}(v1 v2:U)(az:gm bG bH=some false):∀es:List (aD×U),kR bH v2 (kR bG v1 es)=kR bG v1 (kR bH v2 es)
 |[]=>by simp only[kR,VD az];cases nr bG bH<;>rfl
 |p::r=>by
  have bq:=VD az;cases j:nr bG p.1<;>cases J:nr bH p.1
  ·simp only[kR,j,J,fK,if_false,VF v1 v2 az r]
  ·have aw:nr bG bH=false:=by
    cases h:nr bG bH with
    |false=>rfl
    |true=>rw[VE h J]at j;cases j
   simp only[kR,j,J,aw,fK,if_false,if_true]
  ·have aw:nr bH bG=false:=by
    cases h:nr bH bG with
    |false=>rfl
    |true=>rw[VE h j]at J;cases J
   simp only[kR,j,J,aw,fK,if_false,if_true]
  ·simp only[kR,j,J,if_true];rw[bq];cases nr bG bH<;>simp[j,J]
def Oq{bG bH:aD}(v1 v2:U)(az:gm bH bG=some false):∀es:List (aD×U),kR bG v1 (j3 bH v2 es)=j3 bH v2 (kR bG v1 es)
 |[]=>by simp[kR,j3,az]
 |p::r=>by
  simp only[kR,j3,Mx];split
  ·simp[j3,az]
  ·simp only[j3,Oq v1 v2 az r]
def VG{bG bH:aD}(v1 v2:U)(az:gm bG bH=some false):∀es:List (aD×U),j3 bH v2 (j3 bG v1 es)=j3 bG v1 (j3 bH v2 es)
 |[]=>rfl
 |p::r=>by
  simp only[j3,VG v1 v2 az r]
  congr 1
  have tR:gm bH bG=some false:=by rw[ED];exact az
  obtain⟨ab,u⟩:=p;by_cases j:gm bG ab=some true
  ·have ao:=By j;subst ao;simp[j,tR]
  ·by_cases J:gm bH ab=some true
   ·simp[j,J,az]
   ·simp[j,J]
def Jf{k bG:aD}(v1:U)(az:gm k bG=some false):∀es:List (aD×U),hH k (kR bG v1 es)=hH k es
 |[]=>by simp[kR,hH,az]
 |(ab,u)::r=>by
  simp only[kR];split
  ·simp[hH,az]
  ·simp only[hH,Jf v1 az r]
def FH{k bG:aD}(v1:U)(az:gm k bG=some false):∀es:List (aD×U),hH k (j3 bG v1 es)=hH k es
 |[]=>rfl
 |(ab,u)::r=>by
  simp only[j3];by_cases j:gm bG ab=some true
  ·have ao:=By j;subst ao;simp only[j,if_true,hH,az,FH v1 az r]
  ·simp only[j,if_false,hH,FH v1 az r]
def amp{bG bH:aD}{v1 v2:U}{es A C:List (aD×U)}(az:gm bG bH=some false)(j:kp bG v1 es=some A)(J:kp bH v2 A=some C):∃B,kp bH v2 es=some B∧kp bG v1 B=some C:=by
 have tR:gm bH bG=some false:=by rw[ED];exact az
 unfold kp at j;split at j
 ·rename_i f1;cases j;unfold kp at J;rw[Jf v1 tR]at J;split at J
  ·rename_i f2;cases J;exact⟨kR bH v2 es,by unfold kp;rw[f2],by unfold kp;rw[Jf v2 az,f1,VF v1 v2 az]⟩
  ·rename_i f2;cases J;exact⟨j3 bH v2 es,by unfold kp;rw[f2],by unfold kp;rw[FH v2 az,f1,Oq v1 v2 tR]⟩
  ·cases J
 ·rename_i f1;cases j;unfold kp at J;rw[FH v1 tR]at J;split at J
  ·rename_i f2;cases J;exact⟨kR bH v2 es,by unfold kp;rw[f2],by unfold kp;rw[Jf v2 az,f1,Oq v2 v1 az]⟩
  ·rename_i f2;cases J;exact⟨j3 bH v2 es,by unfold kp;rw[f2],by unfold kp;rw[FH v2 az,f1,VG v1 v2 az]⟩
  ·cases J
 ·cases j
def Ot{t:TypeId}{m k x v:U}{ap:aa}(h:mQ E H t m k x=some (v,ap)):∃c cu es hQ,m=.dA c∧k=.i cu∧v=.dead∧c<H.length∧H[c]?=some (.map es)∧kp cu x es=some hQ∧ap=H.set c (.map hQ)∧
  ∀(bx:aa) (Ou Ov:List (aD×U)),bx[c]?=some (.map Ou)→kp cu x Ou=some Ov→mQ E bx t m k x=some (.dead,bx.set c (.map Ov)):=by
 unfold mQ at h;split at h
 ·rename_i c;unfold sS at h;split at h
  ·rename_i es aQ;split at h
   ·rename_i i7 e cu hm;split at h
    ·rename_i az;simp only[c0,bA]at h;obtain⟨hQ,av,rfl,rfl⟩:=h;refine⟨c,cu,es,hQ,rfl,rfl,rfl,(bF.1 aQ).1,aQ,av,rfl,λ bx Ou Ov j J=>?_⟩;simp only[mQ,sS,j,hm,az,and_self,if_true,J,d']
    ·cases h
   ·cases h
  ·cases h
 ·cases h
def VH{I:Fr}{aj:Op}{v:U}{ap:aa}(aA:Bv aj=true)(h:ci E aL aj I H=some (v,ap)):∃c oO,v=.dead∧ap=H.set c oO∧(c∈cR E I H aj∧c+kV∈cR E I H aj)∧c<H.length∧
  (∀bx:aa,bx[c]?=H[c]?→ci E aL aj I bx=some (.dead,bx.set c oO))∧∀bx:aa,cR E I bx aj=cR E I H aj:=by
 have main:∀(t:TypeId) (m k x:Operand),(∀H,ci E aL aj I H=mQ E H t (bo E I m) (bo E I k) (bo E I x))→(∀H:aa,cR E I H aj=bd (bo E I m)++(bd (bo E I m)).map (·+kV))→∃c oO,v=.dead∧ap=H.set c oO∧(c∈cR E I H aj∧c+kV∈cR E I H aj)∧c<H.length∧
   (∀bx:aa,bx[c]?=H[c]?→ci E aL aj I bx=some (.dead,bx.set c oO))∧∀bx:aa,cR E I bx aj=cR E I H aj:=by
  intro t m k x he bq;rw[he]at h;obtain⟨c,cu,es,hQ,ao,aI,rfl,bE,c6,lq,rfl,Cl⟩:=Ot h;exact⟨c,_,rfl,rfl,⟨by rw[bq,ao];simp[bd],by rw[bq,ao];simp[bd]⟩,bE,λ bx J=>by rw[he];exact Cl bx es hQ (by rw[J];exact c6) lq,λ bx=>by rw[bq,bq]⟩
 cases aj with
 |insert t m k x=>exact main t m k x (λ H=>rfl) λ H=>rfl
 |mapUpdate t m k x=>exact main t m k x (λ H=>rfl) λ H=>rfl
 |_=>simp[Bv]at aA
def VJ{c:Nat}{b7:Chunk}{L:aa}(h:L[c]?=some b7):L.set c b7=L:=by obtain⟨j,J⟩:=bF.1 h;rw[←J];exact BN j
end
section
variable{E:Env}{aL:dD}{ops:Array Oper}
noncomputable def jv(E:Env)(aL:dD)(ops:Array Oper)(c:Nat)(aj:Oper)(I:Fr)(H:aa):Option (U×aa×List Nat):=
 match gw ops.toList I aj with
 |some true=>match jE E aL c aj.op I H with
  |some (v,ap)=>some (v,ap,sV E c I H aj.op++lN H.length (ap.length-H.length))
  |none=>none
 |some false=>some (.be [],H,[])
 |none=>none
def amq{c:Nat}{aj:Oper}{r:List Oper}{I:Fr}{H:aa}:iG E aL ops.toList c (aj::r) I H=match jv E aL ops c aj I H with
  |some (v,ap,T)=>match iG E aL ops.toList (nu c aj.op) r (dL aj.dst v I) ap with
   |some (dI,bx,fa)=>some (dI,bx,T::fa)
   |none=>none
  |none=>none:=by
 simp only[iG,jv];cases gw ops.toList I aj with
 |none=>rfl
 |some b=>
  cases b with
  |false=>rfl
  |true=>cases jE E aL c aj.op I H<;>rfl
def VK{c:Nat}{I bN:Fr}{H:aa}{op:Op}(h:qs E I bN op):jE E aL c op I H=jE E aL c op bN H:=by unfold jE;rw[U7 h,N9 h]
def VL{c:Nat}{I bN:Fr}{H:aa}{op:Op}(h:qs E I bN op):sV E c I H op=sV E c bN H op:=by unfold sV;rw[N_ h]
def amr{c:Nat}{I bN:Fr}(h:hZ I bN)(aj:Oper)(H:aa):jv E aL ops c aj I H=jv E aL ops c aj bN H:=by
 unfold jv;have aB:qs E I bN aj.op:=λ x _=>Vh h x
 rw[Vi h,VK aB,VL aB]
def te{c:Nat}{I:Fr}{aj:Oper}{d:Option Nat}{v:U}{H:aa}(h:∀k,d=some k→k∉aj.looksAt ops):jv E aL ops c aj (dL d v I) H=jv E aL ops c aj I H:=by unfold jv;rw[Vj h,VK (I_ h),VL (I_ h)]
def xZ{c:Nat}{aj:Oper}{I:Fr}{ap:aa}(aP:gw ops.toList I aj=some false):jv E aL ops c aj I ap=some (.be [],ap,[]):=by unfold jv;rw[aP]
def oP{c:Nat}{aj:Oper}(h:dS aj.op=false)(I:Fr)(H:aa):jv E aL ops c aj I H=gF E aL ops aj I H:=by unfold jv gF jE sV;simp only[h]<;>rfl
def Ow{c:Nat}{aj:Oper}(h:dS aj.op=true){I:Fr}{H:aa}(aP:gw ops.toList I aj=some true){v:U}{H1:aa}{T:List Nat}(bi:jv E aL ops c aj I H=some (v,H1,T)):
  ∃k b7,h8 (dh E I [] aj.op)=some (k,b7)∧H[c]?=some mR∧v=tM c k∧H1=H.set c b7∧T=[c,c+kV]:=by
 unfold jv jE sV at bi;rw[aP,h]at bi;simp only at bi;split at bi
 ·rename_i hi ap he;simp only[bj,bA]at bi;obtain⟨rfl,rfl,rfl⟩:=bi;unfold Ey at he;split at he
  ·rename_i aO;split at he
   ·rename_i k b7 aK;simp only[bj,bA]at he;obtain⟨rfl,rfl⟩:=he;exact⟨k,b7,aK,aO,rfl,rfl,by simp⟩
   ·cases he
  ·cases he
 ·cases bi
def Cm{c:Nat}{aj:Oper}(h:dS aj.op=true){I:Fr}{H:aa}(aP:gw ops.toList I aj=some true){k:Option (Option Nat)}{b7:Chunk}(aK:h8 (dh E I [] aj.op)=some (k,b7))(aO:H[c]?=some mR):
  jv E aL ops c aj I H=some (tM c k,H.set c b7,[c,c+kV]):=by
 unfold jv jE sV;rw[aP,h,aO,aK];simp[Ey,mR]
def Cn{aj:Op}(h:dS aj=true):eC E aj=true:=by cases aj<;>first|rfl|simp[dS]at h
structure VM (E:Env) (ops:Array Oper) (x y:Oper) (mx my:List Nat):Prop where
 apart:x.apart ops y=true
 two:eC E x.op=true→eC E y.op=true→dS x.op=true∨dS y.op=true∨Ez x.op y.op=true
 float:r' x.op y.op=false→(eC E x.op=true∧(kW y.op=true∨eC E y.op=true))∨(eC E y.op=true∧(kW x.op=true∨eC E x.op=true))→qZ mx my=true∧qZ my mx=true
def VN{aj:Oper}{I:Fr}{H ap:aa}{v:U}{T:List Nat}(aP:gw ops.toList I aj=some true)(h:gF E aL ops aj I H=some (v,ap,T)):ci E aL aj.op I H=some (v,ap)∧T=cR E I H aj.op++lN H.length (ap.length-H.length):=by
 unfold gF at h;rw[aP]at h;simp only at h;split at h
 ·rename_i hi nw l2;simp only[bj,bA]at h;obtain⟨rfl,rfl,rfl⟩:=h;exact⟨l2,rfl⟩
 ·cases h
def x0{aj:Oper}{I:Fr}{H ap:aa}{v:U}(aP:gw ops.toList I aj=some true)(h:ci E aL aj.op I H=some (v,ap)):gF E aL ops aj I H=some (v,ap,cR E I H aj.op++lN H.length (ap.length-H.length)):=by unfold gF;rw[aP,h]
def Ox{x y:Op}(h:r' x y=true):∃t m k a z iR b1 b db,x=.insert t m (.const (.int k a)) z∧y=.insert iR b1 (.const (.int k b)) db∧a≠b:=by
 unfold r' at h;split at h
 ·simp only[cO,decide_eq_true_eq,rj,decide_eq_false_iff_not]at h;obtain⟨rfl,J⟩:=h;exact⟨_,_,_,_,_,_,_,_,_,rfl,rfl,J⟩
 ·cases h
def FI{x y:Op}(h:dS x=true∨dS y=true):r' x y=false:=by
 cases az:r' x y with
 |false=>rfl
 |true=>obtain⟨_,_,_,_,_,_,_,_,_,rfl,rfl,_⟩:=Ox az;rcases h with h|h<;>simp[dS]at h
def ams{x y:Oper}{I:Fr}{H H1 bx:aa}{jr kY:U}{mx my:List Nat}(rk:gw ops.toList I x=some true)(rl:gw ops.toList I y=some true)(al:gF E aL ops x I H=some (jr,H1,mx))(aZ:gF E aL ops y I H1=some (kY,bx,my))
  (vH:eC E x.op=true)(so:eC E y.op=true)(k2:dS x.op=false)(kz:dS y.op=false)(av:Ez x.op y.op=true)(du:r' x.op y.op=false→qZ mx my=true∧qZ my mx=true):
  ∃qu,gF E aL ops y I H=some (kY,qu,my)∧gF E aL ops x I qu=some (jr,bx,mx):=by
 have Oa:=Cf al;have Ob:=Cf aZ;obtain⟨ex,rfl⟩:=VN rk al;obtain⟨Jg,rfl⟩:=VN rl aZ;by_cases az:r' x.op y.op=true
 ·obtain⟨t,m,k,a,z,iR,b1,b,db,ao,aI,cU⟩:=Ox az;rw[ao]at ex;rw[aI]at Jg;have gd:mQ E H t (bo E I m) (.i (.v (.int k a))) (bo E I z)=some (jr,H1):=ex;have amt:mQ E H1 iR (bo E I b1) (.i (.v (.int k b))) (bo E I db)=some (kY,bx):=Jg;obtain⟨c,cu,es,hQ,hC,a2,rfl,a3,a4,a5,rfl,VO⟩:=Ot gd;obtain⟨d,aRr,eP,zS,fo,dE,rfl,I3,B8,VP,rfl,VQ⟩:=Ot amt;cases a2;cases dE;have aS:gm (.v (.int k a)) (.v (.int k b))=some false:=by simp[gm,cU]
  by_cases e7:c=d
  ·subst e7;rw[ks a3]at B8;cases B8;obtain⟨B,nC,ri⟩:=amp aS a5 VP;have an:(H.set c (.map B)).length=H.length:=by simp
   refine⟨H.set c (.map B),?_,?_⟩
   ·have:=x0 (aL:=aL) rl (show ci E aL y.op I H=some (.dead,H.set c (.map B))from by rw[aI];exact VQ H es B a4 nC);rw[this,aI];simp[cR]
   ·have:=x0 (aL:=aL) rk (show ci E aL x.op I (H.set c (.map B))=some (.dead,(H.set c (.map B)).set c (.map zS))from by rw[ao];exact VO _ B zS (ks a3) ri);rw[this,ao,vn,vn];simp[cR]
  ·rw[dC e7]at B8;refine⟨H.set d (.map zS),?_,?_⟩
   ·have:=x0 (aL:=aL) rl (show ci E aL y.op I H=some (.dead,H.set d (.map zS))from by rw[aI];exact VQ H eP zS B8 VP);rw[this,aI];simp[cR]
   ·have:=x0 (aL:=aL) rk (show ci E aL x.op I (H.set d (.map zS))=some (.dead,(H.set d (.map zS)).set c (.map hQ))from by rw[ao];exact VO _ es hQ (by rw[dC (ba e7)];exact a4) a5);rw[this,ao,oa _ _ e7];simp[cR]
 ·have tR:r' x.op y.op=false:=by simpa using az
  obtain⟨t1,t2⟩:=du tR;unfold Ez at av;simp only[tR,x1,xv,cO,rj]at av;rcases av with⟨jB,VR⟩|⟨VR,jB⟩
  ·obtain⟨c,oO,rfl,rfl,⟨ca,Oy⟩,cc,c3,fD⟩:=VH jB ex;have hold:H[c]?=some H[c]:=eT cc;have ah:c∉cR E I (H.set c oO) y.op++lN (H.set c oO).length (bx.length-(H.set c oO).length):=qt t1 (fT.2 (.inl ca));have gL:c∉cR E I (H.set c oO) y.op:=λ h=>ah (fT.2 (.inl h))
   have fq:c+kV∉cR E I (H.set c oO) y.op:=λ h=>qt t1 (fT.2 (.inl Oy)) (fT.2 (.inl h))
   obtain⟨s1,s2⟩:=Je H[c] Jg so kz gL fq (by simpa using cc);have vJ:(H.set c oO).set c H[c]=H:=by rw[vn];exact VJ hold
   rw[vJ]at s1 s2;have VS:bx[c]?=some oO:=by rw[Ob.2 c ah,ks cc]
   have hx:c<bx.length:=(bF.1 VS).1;refine⟨bx.set c H[c],?_,?_⟩
   ·rw[x0 rl s1,s2];simp
   ·rw[x0 rk (c3 (bx.set c H[c]) (by rw[ks hx,hold])),fD (bx.set c H[c]),vn,VJ VS];simp
  ·obtain⟨c,oO,rfl,rfl,⟨ca,Oy⟩,cc,c3,fD⟩:=VH VR Jg;have ah:c∉cR E I H x.op++lN H.length (H1.length-H.length):=qt t2 (fT.2 (.inl ca));have gL:c∉cR E I H x.op:=λ h=>ah (fT.2 (.inl h))
   have oL:=Oa.2 c ah;have bf:c<H.length:=by have j:H1[c]?=some H1[c]:=eT cc;rw[oL]at j;exact(bF.1 j).1
   have fq:c+kV∉cR E I H x.op:=λ h=>qt t2 (fT.2 (.inl Oy)) (fT.2 (.inl h))
   obtain⟨s1,s2⟩:=Je oO ex vH k2 gL fq bf;refine⟨H.set c oO,?_,?_⟩
   ·rw[x0 rl (c3 H oL.symm),fD H];simp
   ·rw[x0 rk s1,s2];simp
def amu{x y:Oper}{pJ oQ:Nat}{I:Fr}{H H1 bx:aa}{jr kY:U}{mx my:List Nat}(al:jv E aL ops pJ x I H=some (jr,H1,mx))(aZ:jv E aL ops oQ y (dL x.dst jr I) H1=some (kY,bx,my))
  (ah:VM E ops x y mx my):∃qu,jv E aL ops oQ y I H=some (kY,qu,my)∧jv E aL ops pJ x (dL y.dst kY I) qu=some (jr,bx,mx)∧hZ (dL y.dst kY (dL x.dst jr I)) (dL x.dst jr (dL y.dst kY I)):=by
 obtain⟨hC,a2,a3⟩:=Oper.apart_spec ah.apart;have gN:hZ (dL y.dst kY (dL x.dst jr I)) (dL x.dst jr (dL y.dst kY I)):=hZ.swap I (λ k az e=>a2 k e az) _ _;cases k2:dS x.op with
 |false=>
  cases kz:dS y.op with
  |false=>
   rw[oP k2]at al;rw[oP kz]at aZ;by_cases x2:eC E x.op=true∧eC E y.op=true
   ·have amv:Ez x.op y.op=true:=by
     rcases ah.two x2.1 x2.2 with e|e|e
     ·rw[k2]at e;cases e
     ·rw[kz]at e;cases e
     ·exact e
    rw[ug hC]at aZ;cases k1:gw ops.toList I x with
    |none=>unfold gF at al;rw[k1]at al;cases al
    |some rk=>
    cases ky:gw ops.toList I y with
    |none=>unfold gF at aZ;rw[ky]at aZ;cases aZ
    |some rl=>
    cases rk with
    |false=>rw[xU (H:=H) k1]at al;simp only[bj,bA]at al;obtain⟨rfl,rfl,rfl⟩:=al;exact⟨bx,by rw[oP kz];exact aZ,by rw[oP k2,ug a3];exact xU (H:=H) k1,gN⟩
    |true=>
    cases rl with
    |false=>rw[xU (H:=H) ky]at aZ;simp only[bj,bA]at aZ;obtain⟨rfl,rfl,rfl⟩:=aZ;exact⟨H,by rw[oP kz];exact xU (H:=H) ky,by rw[oP k2,ug a3];exact al,gN⟩
    |true=>
     obtain⟨qu,j,J⟩:=ams k1 ky al aZ x2.1 x2.2 k2 kz amv λ az=>ah.float az (.inl ⟨x2.1,.inr x2.2⟩)
     exact⟨qu,by rw[oP kz];exact j,by rw[oP k2,ug a3];exact J,gN⟩
   ·have ui:r' x.op y.op=false:=by
     cases az:r' x.op y.op with
     |false=>rfl
     |true=>obtain⟨_,_,_,_,_,_,_,_,_,ao,aI,_⟩:=Ox az;exact absurd ⟨by rw[ao];rfl,by rw[aI];rfl⟩ x2
    obtain⟨qu,j,J,aw⟩:=swap al aZ ⟨ah.apart,x2,λ aK=>ah.float ui (by rcases aK with⟨p,q⟩|⟨p,q⟩<;>simp[p,q])⟩;exact⟨qu,by rw[oP kz];exact j,by rw[oP k2];exact J,aw⟩
  |true=>
   rw[te hC]at aZ;cases k1:gw ops.toList I x with
   |none=>unfold jv at al;rw[k1]at al;cases al
   |some rk=>
   cases ky:gw ops.toList I y with
   |none=>unfold jv at aZ;rw[ky]at aZ;cases aZ
   |some rl=>
   cases rk with
   |false=>rw[xZ k1]at al;simp only[bj,bA]at al;obtain⟨rfl,rfl,rfl⟩:=al;exact⟨bx,aZ,by rw[te a3];exact xZ k1,gN⟩
   |true=>
   cases rl with
   |false=>rw[xZ ky]at aZ;simp only[bj,bA]at aZ;obtain⟨rfl,rfl,rfl⟩:=aZ;exact⟨H,xZ ky,by rw[te a3];exact al,gN⟩
   |true=>
   obtain⟨k,b7,f1,f2,rfl,rfl,rfl⟩:=Ow kz ky aZ;rw[oP k2]at al;by_cases vH:eC E x.op=true
   ·have du:=(ah.float (FI (.inr kz)) (.inl ⟨vH,.inr (Cn kz)⟩)).2;have zT:oQ∉mx:=qt du (by simp);have FJ:oQ+kV∉mx:=qt du (by simp);have an:=Cf al;have aQ:H[oQ]?=some mR:=by rw[←an.2 oQ zT];exact f2
    have bf:oQ<H.length:=(bF.1 aQ).1;refine⟨H.set oQ b7,Cm kz ky f1 aQ,?_,gN⟩;rw[te a3,oP k2];unfold gF at al⊢;rw[k1]at al⊢;simp only at al⊢;split at al
    ·rename_i hi ap l2;simp only[bj,bA]at al;obtain⟨rfl,rfl,rfl⟩:=al;simp only[fT,not_or]at zT FJ;obtain⟨ao,aI⟩:=Je b7 l2 vH k2 zT.1 FJ.1 bf;rw[ao];simp only[aI,jI]
    ·cases al
   ·have Ft:eC E x.op=false:=by simpa using vH
    obtain⟨rfl,_⟩:=zN (ap:=H) Ft (λ _ _ _=>rfl) al;refine⟨H1.set oQ b7,Cm kz ky f1 f2,?_,gN⟩;rw[te a3,oP k2];refine(zN (ap:=H1.set oQ b7) Ft (λ ai c e9=>?_) al).2;have du:=(ah.float (FI (.inr kz)) (.inr ⟨Cn kz,.inl ai⟩)).1;have:c∉[oQ,oQ+kV]:=qt du (I' al k1 c e9);rw[dC];rintro rfl;simp at this
 |true=>
  rw[te hC]at aZ;cases k1:gw ops.toList I x with
  |none=>unfold jv at al;rw[k1]at al;cases al
  |some rk=>
  cases ky:gw ops.toList I y with
  |none=>unfold jv at aZ;rw[ky]at aZ;cases aZ
  |some rl=>
  cases rk with
  |false=>rw[xZ k1]at al;simp only[bj,bA]at al;obtain⟨rfl,rfl,rfl⟩:=al;exact⟨bx,aZ,by rw[te a3];exact xZ k1,gN⟩
  |true=>
  cases rl with
  |false=>rw[xZ ky]at aZ;simp only[bj,bA]at aZ;obtain⟨rfl,rfl,rfl⟩:=aZ;exact⟨H,xZ ky,by rw[te a3];exact al,gN⟩
  |true=>
  obtain⟨aRs,Jh,f1,f2,rfl,rfl,rfl⟩:=Ow k2 k1 al;have VT:pJ<H.length:=(bF.1 f2).1;have back:(H.set pJ Jh).set pJ mR=H:=by rw[vn];obtain⟨j,J⟩:=bF.1 f2;rw[←J];exact BN j
  cases kz:dS y.op with
  |true=>
   obtain⟨aRt,amw,g1,g2,rfl,rfl,rfl⟩:=Ow kz ky aZ;have du:=(ah.float (FI (.inl k2)) (.inl ⟨Cn k2,.inr (Cn kz)⟩)).1;have gp:pJ∉[oQ,oQ+kV]:=qt du (by simp);have Oz:pJ≠oQ:=λ e=>gp (by simp[e])
   rw[dC Oz]at g2;refine⟨H.set oQ amw,Cm kz ky g1 g2,?_,gN⟩;rw[te a3,oa _ _ Oz];exact Cm k2 k1 f1 (by rw[dC (ba Oz)];exact f2)
  |false=>
   rw[oP kz]at aZ;by_cases so:eC E y.op=true
   ·have du:=(ah.float (FI (.inl k2)) (.inl ⟨Cn k2,.inr so⟩)).1;have zT:pJ∉my:=qt du (by simp);have FJ:pJ+kV∉my:=qt du (by simp);have an:=Cf aZ;have J:bx[pJ]?=some Jh:=by rw[an.2 pJ zT,ks VT]
    have Ji:pJ<bx.length:=(bF.1 J).1;refine⟨bx.set pJ mR,?_,?_,gN⟩
    ·rw[oP kz];unfold gF at aZ⊢;rw[ky]at aZ⊢;simp only at aZ⊢;split at aZ
     ·rename_i hi ap l2;simp only[bj,bA]at aZ;obtain⟨rfl,rfl,rfl⟩:=aZ;simp only[fT,not_or]at zT FJ;obtain⟨ao,aI⟩:=Je mR l2 so kz zT.1 FJ.1 (by simpa using VT);rw[back]at ao aI;rw[ao];simp only[aI,jI]
     ·cases aZ
    ·rw[te a3,Cm k2 k1 f1 (ks Ji),vn];obtain⟨aw,bb⟩:=bF.1 J;rw[←bb,BN aw]
   ·have Oc:eC E y.op=false:=by simpa using so
    have key:kW y.op=true→∀c∈cR E I (H.set pJ Jh) y.op,H[c]?=(H.set pJ Jh)[c]?:=by intro ai c e9;have du:=(ah.float (FI (.inl k2)) (.inl ⟨Cn k2,.inl ai⟩)).2;have:=qt du (I' aZ ky c e9);rw[dC];rintro rfl;simp at this
    obtain⟨rfl,E5⟩:=zN Oc key aZ;exact⟨H,by rw[oP kz];exact E5,by rw[te a3];exact Cm k2 k1 f1 f2,gN⟩
end
section
variable{E:Env}{aL:dD}{ops:Array Oper}{eE:Nat→List Nat}{az:Nat→Nat}
inductive uj (E:Env) (aL:dD) (ops:Array Oper) (eE:Nat→List Nat) (az:Nat→Nat):List Nat→Fr→aa→Fr→aa→Prop
 |nil (I:Fr) (H:aa):uj E aL ops eE az [] I H I H
 |cons (i:Nat) (l:List Nat) (I:Fr) (H:aa) (aj:Oper) (v:U) (H1:aa) (dI:Fr) (bx:aa) (b':ops[i]?=some aj) (bi:jv E aL ops (az i) aj I H=some (v,H1,eE i)) (h:uj E aL ops eE az l (dL aj.dst v I) H1 dI bx):uj E aL ops eE az (i::l) I H dI bx
def amx{l:List Nat}{I bN:Fr}{H:aa}{dI:Fr}{bx:aa}(h:uj E aL ops eE az l I H dI bx):hZ I bN→∃ju,hZ dI ju∧uj E aL ops eE az l bN H ju bx:=by
 induction h generalizing bN with
 |nil I H=>exact λ he=>⟨bN,he,.nil _ _⟩
 |cons i l I H aj v H1 dI bx b' bi _ a8=>intro he;obtain⟨ju,j,J⟩:=a8 (he.put aj.dst v);exact⟨ju,j,.cons i l bN H aj v H1 ju bx b' (by rw[←amr he];exact bi) J⟩
def Jj(E:Env)(ops:Array Oper)(eE:Nat→List Nat)(ab i:Nat):Prop:=∀x y,ops[ab]?=some x→ops[i]?=some y→VM E ops x y (eE ab) (eE i)
def VU:∀{c7 eS:List Nat} {i:Nat} {I:Fr} {H:aa} {dI:Fr} {bx:aa},uj E aL ops eE az (c7++i::eS) I H dI bx→(∀ab∈c7,Jj E ops eE ab i)→
  ∃aj v H1 ju,ops[i]?=some aj∧jv E aL ops (az i) aj I H=some (v,H1,eE i)∧hZ dI ju∧uj E aL ops eE az (c7++eS) (dL aj.dst v I) H1 ju bx
 |[],eS,i,I,H,dI,bx,h,_=>by
  cases h with
  |cons _ _ _ _ aj v H1 _ _ b' bi h=>exact⟨aj,v,H1,dI,b',bi,.refl _,h⟩
 |ab::c7,eS,i,I,H,dI,bx,h,ah=>by
  cases h with
  |cons _ _ _ _ x jr H1 _ _ al zg h=>obtain⟨aj,v,oN,iQ,b',bi,he,ai⟩:=VU h (λ k az=>ah k (by simp[az]));obtain⟨Od,s1,s2,ud⟩:=amu zg bi (ah ab (by simp) x aj al b');obtain⟨Fu,c6,Fv⟩:=amx ai ud;exact⟨aj,v,Od,Fu,b',s1,he.trans c6,.cons ab _ _ _ x jr oN Fu bx al s2 Fv⟩
def VV(c:Nat)(aj:Op):nu c aj=c+nu 0 aj:=by unfold nu;cases dS aj<;>simp
def amy(aj:Oper)(l:List Oper):pn (aj::l)=nu 0 aj.op+pn l:=by
 have key:∀(l:List Oper) (c:Nat),l.foldl (λ c aj=>nu c aj.op) c=c+pn l:=by
  intro l;induction l with
  |nil=>intro c;simp[pn]
  |cons aj l a8=>intro c;simp only[pn,zo]at a8⊢;rw[a8,a8 (nu 0 aj.op),VV c];omega
 show l.foldl _ _=_;exact key l _
def VW:∀(l:List Oper) (k c:Nat) (I:Fr) (H:aa) (dI:Fr) (bx:aa) (fa:List (List Nat)),iG E aL ops.toList c l I H=some (dI,bx,fa)→(∀ab,l[ab]?=ops[k+ab]?)→(∀ab,ab<l.length→eE (k+ab)=fa.getD ab [])→
  (∀ab,ab<l.length→az (k+ab)=c+pn (l.take ab))→uj E aL ops eE az (lN k l.length) I H dI bx
 |[],k,c,I,H,dI,bx,fa,h,_,_,_=>by simp only[iG,bj,bA]at h;obtain⟨rfl,rfl,rfl⟩:=h;exact .nil _ _
 |aj::l,k,c,I,H,dI,bx,fa,h,an,bq,aO=>by
  rw[amq]at h;split at h
  ·rename_i v H1 T bi;split at h
   ·rename_i iQ oN Oe ai;simp only[bj,bA]at h;obtain⟨rfl,rfl,rfl⟩:=h;have aV:=an 0;simp only[qn,fc]at aV;have Fw:=bq 0 (by simp);simp only[fc,Cg]at Fw;have vL:=aO 0 (by simp);simp only[fc,nc]at vL;rw[cT,List.range'_succ];refine .cons k _ I H aj v _ _ _ aV.symm (by rw[Fw,vL];exact bi) ?_;refine VW l (k+1) (nu c aj.op) _ _ _ _ Oe ai (λ ab=>by have:=an (ab+1);simpa[tT,qv 1 ab]using this) (λ ab a'=>?_) (λ ab a'=>?_)
    ·have:=bq (ab+1) (by simpa using a');rw[show k+1+ab=k+(ab+1)by omega,this];simp
    ·have:=aO (ab+1) (by simpa using a');rw[show k+1+ab=k+(ab+1)by omega,this,vM,amy,VV c];omega
   ·cases h
  ·cases h
end
section
variable{E:Env}{ad:cb}{ac:b9}{H:aa}{w:World}
def amz{aL:dD}(cg:n9 E (gn E aL)){c:Nat}{I:Fr}{a:Act}{aj:Oper}{v:U}{ap:aa}(h:jE E aL c aj.op I H=some (v,ap))(aq:b6 E ad ac H w)(aK:e1 ad ac H I a.tmps)
  {K:Act→World→Prop}{Q:Exit→Act→World→Prop}(jt:∀x ar,cl E ad ac H w ap ar (λ aN aC=>a7 aN aC ap v x)→K (a.put aj.dst x) ar):aj.wp E.P a w K Q:=by
 unfold jE at h;cases c1:dS aj.op with
 |false=>rw[c1]at h;exact N1 cg h aq aK jt
 |true=>
  rw[c1]at h;simp only at h;unfold Ey at h;split at h
  ·rename_i aO;split at h
   ·rename_i k b7 Fk;simp only[bj,bA]at h;obtain⟨rfl,rfl⟩:=h;obtain⟨v0,ET,ao,hm⟩:=al8 aq aK c1 Fk c;obtain⟨ue,x,ar,j,J,aw⟩:=UJ ao aq aK;have bb:=al1 aq aO hm aw;unfold Oper.wp;rw[j];cases ue<;>simp only[NO]at J<;>first|(cases J;done)|skip
    ·cases J;exact jt _ _ bb
    ·cases J;exact jt _ _ bb
   ·cases h
  ·cases h
def amA{aL:dD}{c:Nat}{aj:Op}{I:Fr}{H:aa}{r:U×aa}(h:jE E aL c aj I H=some r):∀c,aj≠.defer c:=by rintro c rfl;simp[jE,dS,ci,eC,ev]at h
def amB(aq:b6 E ad ac H w)(n:Nat):b6 E ad ac (H++cy n mR) w∧fb ad ac H ad ac (H++cy n mR):=by
 have hm:fb ad ac H ad ac (H++cy n mR):=mV (λ _ _ h=>h) (by simp) λ c ah=>jc.same (by rw[en ah]) (λ _=>rfl)
 refine⟨⟨aq.dT,λ c x al=>?_,aq.inj,λ c b m h=>by have:=aq.sep c b m h;exact⟨this.1,this.2.1,by simp;omega⟩,aq.e_⟩,hm⟩;by_cases ah:c<H.length
 ·rw[en ah]at al;exact(aq.b7 c x al).mono (λ _=>rfl) (λ _ _ h=>h) hm (λ _ _ _ _=>rfl)
 ·rw[ha R]at al;have amC:=List.eq_of_mem_replicate (jG al);subst amC;have fC:ac c=none:=by
   cases h:ac c with
   |none=>rfl
   |some p=>have:=aq.Bz (b:=p.1) (n:=p.2) h;omega
  exact⟨λ _=>fC,λ i r h=>by simp at h,.inl ⟨fC,rfl⟩⟩
end
section
variable{E:Env}{aL:dD}{ops:Array Oper}{eE:Nat→List Nat}{az:Nat→Nat}{Q:Exit→Act→World→Prop}{ro:Option Nat}{gV:Nat}
theorem OA(cg:n9 E (gn E aL)){dI:Fr}{bx:aa}(zP:∀ab i,ab<i→i<ops.size→p' (qa ops) ab i=false→Jj E ops eE ab i)
  (vJ:∀(i:Nat) (aj:Oper),ops[i]?=some aj→∀e∈aj.after,vI .any e=true→e.on<i){hn:Nat}{d0:List Deferred}(pI:Cc hn ops.toList):
  ∀(aW:List Nat) (listed:Array Bool) (ad:cb) (ac:b9) (I:Fr) (H:aa) (a:Act) (w:World) (dI:Fr),aW.Pairwise (·<·)→(∀i,i∈aW↔i<ops.size∧listed.getD i false=false)→listed.size=ops.size→Fx ops listed→
   uj E aL ops eE az aW I H dI bx→b6 E ad ac H w→e1 ad ac H I a.tmps→a.tmps.size=hn→a.defers=d0→
   (∀bY ar iQ,hZ dI iQ→bY.defers=d0→bY.tmps.size=hn→cl E ad ac H w bx ar (λ aN aC=>e1 aN aC bx iQ bY.tmps)→Q .normal bY ar)→wpAnyIn (pH ro) gV E.P .any ops Q aW.length listed a w
 |[],listed,ad,ac,I,H,a,w,dI,av,dc,ey,vB,lQ,aq,aK,aF,aM,eY=>by
  refine⟨?_,?_⟩
  ·cases h:Fz .any ops listed with
   |nil=>rfl
   |cons i l=>
    have aA:i∈Fz .any ops listed:=by rw[h];simp
    obtain⟨j,aj,b',_⟩:=mem_ready.1 aA;have bf:=(j6.1 b').1;have:i∈([]:List Nat):=(dc i).2 ⟨bf,by
     rw[dp]at j⊢;cases aO:listed[i]? with
     |none=>rfl
     |some b=>rw[aO]at j;simpa using j⟩
    simp at this
  ·cases lQ with
   |nil=>exact eY a w I (.refl _) aM aF (cl.refl aq aK)
 |r::aW,listed,ad,ac,I,H,a,w,dI,av,dc,ey,vB,lQ,aq,aK,aF,aM,eY=>by
  simp only[cT];refine⟨λ Oh=>?_,λ i aA=>?_⟩
  ·exfalso;have ai:=(dc r).1 (by simp);have je:ops[r]?=some ops[r]:=q9 ai.1;have:r∈Fz .any ops listed:=by
    refine mem_ready.2 ⟨?_,_,je,λ e he ak=>?_⟩
    ·have:=ai.2;rw[dp]at this⊢;rw[q9 R]at this⊢;simpa using this
    ·have bf:=vJ r _ je e he ak;cases an:listed.getD e.on false with
     |true=>rfl
     |false=>
      have hm:e.on∈r::aW:=(dc e.on).2 ⟨R,an⟩;rcases mU.1 hm with j|j
      ·omega
      ·have:=(vg.1 av).1 _ j;omega
   rw[Oh]at this;simp at this
  ·obtain⟨j,aj,b',zQ⟩:=mem_ready.1 aA;have bf:=(j6.1 b').1;have Oi:i∈r::aW:=(dc i).2 ⟨bf,by
    rw[dp]at j⊢;rw[q9 R]at j⊢;simpa using j⟩
   obtain⟨c7,eS,rn⟩:=List.append_of_mem Oi;rw[rn]at lQ av;have rp:=Oj.1 av;have Ch:∀ab∈c7,Jj E ops eE ab i:=by
    intro ab a';have q_:ab<i:=rp.2.2 ab a' i (by simp);refine zP ab i q_ bf ?_;cases ak:p' (qa ops) ab i with
    |false=>rfl
    |true=>have:=Vo vB i aj b' zQ ab ak;have jO:=((dc ab).1 (by rw[rn];simp[a'])).2;rw[this]at jO;cases jO
   obtain⟨r_,v,H1,ju,FA,bi,he,FB⟩:=VU lQ Ch;rw[b']at FA;cases FA;have FC:∀k,aj.dst=some k→k<a.tmps.size:=by intro k az;rw[aF];exact pI aj (by simpa using Array.mem_of_getElem? b') k az
   have hlen:aW.length=(c7++eS).length:=by have:=congrArg Ci rn;simp at this⊢;omega
   have FD:(c7++eS).Pairwise (·<·):=by rw[Oj];exact⟨rp.1,(vg.1 rp.2.1).2,λ x al y aZ=>rp.2.2 x al y (by simp[aZ])⟩
   have Ok:i∉c7++eS:=by
    intro hm;rcases fT.1 hm with hm|hm
    ·have:=rp.2.2 i hm i (by simp);omega
    ·have:=(vg.1 rp.2.1).1 i hm;omega
   have FE:∀k,k∈c7++eS↔k<ops.size∧(listed.setIfInBounds i true).getD k false=false:=by
    intro k;by_cases pE:k=i
    ·subst pE;refine⟨λ h=>absurd h Ok,λ h=>?_⟩;have J:=h.2;rw[dp]at J;simp[ey,bf]at J
    ·rw[getD_set_ne false (ba pE)];rw[←dc k,rn];simp[pE]
   have FF:Fx ops (listed.setIfInBounds i true):=by
    intro k p mz mX e pq ak;by_cases pE:k=i
    ·subst pE;rw[b']at mz;cases mz;exact getD_set_true (zQ e pq ak)
    ·rw[getD_set_ne false (ba pE)]at mX;exact getD_set_true (vB k p mz mX e pq ak)
   have zl:(listed.setIfInBounds i true).size=ops.size:=by simpa using ey
   unfold wpOpIn;rw[b'];unfold jv at bi;split at bi
   ·rename_i aP;split at bi
    ·rename_i hi qu l2;simp only[bj,bA]at bi;obtain⟨rfl,rfl,_⟩:=bi;simp only[Cb aK aP,if_true];refine N4 (amA l2) (amz cg l2 aq aK λ x gg al=>?_);obtain⟨ej,dY,dt,lW,hb,n2⟩:=al;rw[hlen];refine OA cg (d0:=d0) (hn:=hn) (dI:=ju) zP vJ pI (c7++eS) _ ej dY _ _ _ gg ju FD FE zl FF FB dt ((aK.mono hb).put n2 aj.dst FC) (by rw[xT];exact aF) (by rw[put_defers];exact aM) λ bY ar iQ zR kb aS b0=>?_
     obtain⟨e2,ez,bG,bH,cG,eZ⟩:=b0;exact eY bY ar iQ (he.trans zR) kb aS ⟨e2,ez,bG,lW.trans bH,hb.trans cG,eZ⟩
    ·cases bi
   ·rename_i aP;simp only[bj,bA]at bi;obtain⟨rfl,rfl,_⟩:=bi;simp only[Cb aK aP,fK,if_false];refine⟨λ _ _=>trivial,?_⟩;rw[hlen];refine OA cg (d0:=d0) (hn:=hn) (dI:=ju) zP vJ pI (c7++eS) _ ad ac _ _ _ w ju FD FE zl FF FB aq (aK.put (My _ _ _) aj.dst FC) (by rw[xT];exact aF) (by rw[put_defers];exact aM) λ bY ar iQ zR kb aS b0=>?_
    exact eY bY ar iQ (he.trans zR) kb aS b0
   ·cases bi
 termination_by aW=>aW.length
 decreasing_by all_goals (have:=congrArg Ci rn;simp at this⊢;omega)
end
section
variable{E:Env}{ad:cb}{ac:b9}{H:aa}{w:World}
def Jk(aq:b6 E ad ac H w)(n:Nat):b6 E ad ac H {w with drawn:=n}:=
 ⟨aq.dT,λ c x h=>by have:=aq.b7 c x h;cases x<;>exact this,aq.inj,aq.sep,aq.e_⟩
def VX{aN:cb}{aC:b9}{ar:World}{n:Nat}(h:Trans ad ac {w with drawn:=n} aN aC ar):Trans ad ac w aN aC ar:=
 ⟨h.os,h.tape,h.output,h.size,h.frame,h.dT,h.q2,h.own⟩
def VY{a b:List Nat}(h:qZ a b=true):qZ b a=true:=by
 simp only[qZ,oH];intro c ah;have:c∉a:=λ aB=>qt h aB ah
 simpa using this
def amD{ops:Array Oper}{fa:List (List Nat)}{rq:List (Nat×Nat)}(aM:Bu E ops=true)(hk:(Ex E ops).all (λ p=>rq.contains p)=true)(az:rq.all (sU fa)=true):
  ∀ab i,ab<i→i<ops.size→p' (qa ops) ab i=false→Ja E ops (λ k=>fa.getD k []) ab i:=by
 intro ab i q_ aA ak x y al aZ;unfold Bu at aM;simp only[cO,oH,zU]at aM;have j:=aM.2 i aA ab q_;rw[al,aZ]at j;simp only[ak,Jl,cO,rj,OB]at j;refine⟨j.1,λ⟨aB,js⟩=>?_,λ aK=>?_⟩
 ·rcases j.2 with h|h
  ·rw[aB]at h;cases h
  ·rw[js]at h;cases h
 ·have hm:(ab,i)∈Ex E ops:=by
   unfold Ex;simp only[List.mem_flatMap,zU,List.mem_filterMap];refine⟨i,aA,ab,q_,?_⟩;rw[al,aZ];have:((eC E x.op &&kW y.op)||(eC E y.op &&kW x.op))=true:=by rcases aK with⟨a,b⟩|⟨a,b⟩<;>simp[a,b]
   simp[ak,this]
  have ah:=(oH.1 hk) _ hm;have k0:(ab,i)∈rq:=by simpa using ah
  have:=(oH.1 az) _ k0;unfold sU at this;exact⟨this,VY this⟩
def amE{ops:Array Oper}(aM:Bu E ops=true):∀(i:Nat) (aj:Oper),ops[i]?=some aj→∀e∈aj.after,vI .any e=true→e.on<i:=by intro i aj b' e he ak;unfold Bu at aM;simp only[cO,oH,zU]at aM;have j:=aM.1.2 i (j6.1 b').1;rw[b']at j;simp only[Array.all_eq_true]at j;obtain⟨k,az,rfl⟩:=Array.mem_iff_getElem.1 he;have:=j k az;simpa[ak]using this
def amF{aL:dD}{ro:Option Nat}{gV:Nat}(cg:n9 E (gn E aL)){id:Nat}{ops:Array Oper}{I bN:Fr}{ap:aa}{fa:List (List Nat)}{a:Act}{Q:Exit→Act→World→Prop}
  (h:hX E aL ops.toList ops.toList I H=some (bN,ap,fa)){rq:List (Nat×Nat)}(az:rq.all (sU fa)=true)(aM:Bu E ops=true)(hk:(Ex E ops).all (λ p=>rq.contains p)=true)
  (hm:E.P.follows .mixedOrders=true)(aq:b6 E ad ac H w)(aK:e1 ad ac H I a.tmps)(pI:Cc a.tmps.size ops.toList)
  (eY:∀bY ar iQ,hZ bN iQ→bY.defers=a.defers→bY.tmps.size=a.tmps.size→cl E ad ac H w ap ar (λ aN aC=>e1 aN aC ap iQ bY.tmps)→Q .normal bY ar):(Code.region id ops true).wpIn (pH ro) gV E.P Q a w:=by
 refine wpIn_region_any hm ?_;have lQ:uh E aL ops (λ k=>fa.getD k []) (lN 0 ops.toList.length) I H bN ap:=
  Vl ops.toList 0 I H bN ap fa h (λ ab=>by simp) (λ ab _=>by simp)
 have:=Og cg (ro:=ro) (gV:=gV) (ops:=ops) (Q:=Q) (dI:=bN) (hn:=a.tmps.size) (d0:=a.defers) (amD aM hk az) (amE aM) pI (lN 0 ops.toList.length) (zx ops.size false) ad ac I H a {w with drawn:=w.drawn+1} bN
  (List.pairwise_lt_range' ..) (λ i=>by
   simp only[List.mem_range',vl];constructor
   ·rintro⟨k,az,rfl⟩;refine⟨R,?_⟩;rw[dp,OC];split<;>rfl
   ·rintro⟨j,_⟩;exact⟨i,j,R⟩) (by simp) (λ i aj b' an=>by
   rw[dp,OC]at an;split at an<;>simp at an) lQ (Jk aq _) aK rfl rfl
   (λ bY ar iQ he kb aS b0=>by
    obtain⟨e2,ez,bG,bH,cG,eZ⟩:=b0;exact eY bY ar iQ he kb aS ⟨e2,ez,bG,VX bH,cG,eZ⟩)
 simpa using this
def amG{ops:Array Oper}{fa:List (List Nat)}{rq:List (Nat×Nat)}(aM:Bw E ops=true)(hk:(EA E ops).all (λ p=>rq.contains p)=true)(az:rq.all (sU fa)=true):
  ∀ab i,ab<i→i<ops.size→p' (qa ops) ab i=false→Jj E ops (λ k=>fa.getD k []) ab i:=by
 intro ab i q_ aA ak x y al aZ;unfold Bw at aM;simp only[cO,oH,zU]at aM;have j:=aM.2 i aA ab q_;rw[al,aZ]at j;simp only[ak,Jl,cO,xv,rj,OB]at j;refine⟨j.1,λ aB js=>?_,λ ui aK=>?_⟩
 ·rcases j.2 with((h|h)|h)|h
  ·rcases h with h|h
   ·rw[aB]at h;cases h
   ·rw[js]at h;cases h
  ·exact .inl h
  ·exact .inr (.inl h)
  ·exact .inr (.inr h)
 ·have hm:(ab,i)∈EA E ops:=by
   unfold EA;simp only[List.mem_flatMap,zU,List.mem_filterMap];refine⟨i,aA,ab,q_,?_⟩;rw[al,aZ];have:((eC E x.op &&(kW y.op||eC E y.op))||(eC E y.op &&(kW x.op||eC E x.op)))=true:=by rcases aK with⟨a,b|b⟩|⟨a,b|b⟩<;>simp[a,b]
   simp[ak,ui,this]
  have ah:=(oH.1 hk) _ hm;have k0:(ab,i)∈rq:=by simpa using ah
  have:=(oH.1 az) _ k0;unfold sU at this;exact⟨this,VY this⟩
def amH{ops:Array Oper}(aM:Bw E ops=true):∀(i:Nat) (aj:Oper),ops[i]?=some aj→∀e∈aj.after,vI .any e=true→e.on<i:=by intro i aj b' e he ak;unfold Bw at aM;simp only[cO,oH,zU]at aM;have j:=aM.1.2 i (j6.1 b').1;rw[b']at j;simp only[Array.all_eq_true]at j;obtain⟨k,az,rfl⟩:=Array.mem_iff_getElem.1 he;have:=j k az;simpa[ak]using this
def amI{aL:dD}{ro:Option Nat}{gV:Nat}(cg:n9 E (gn E aL)){id:Nat}{ops:Array Oper}{I bN:Fr}{ap:aa}{fa:List (List Nat)}{a:Act}{Q:Exit→Act→World→Prop}
  (h:iG E aL ops.toList H.length ops.toList I (H++cy (pn ops.toList) mR)=some (bN,ap,fa)){rq:List (Nat×Nat)}(az:rq.all (sU fa)=true)(aM:Bw E ops=true)(hk:(EA E ops).all (λ p=>rq.contains p)=true)
  (hm:E.P.follows .mixedOrders=true)(aq:b6 E ad ac H w)(aK:e1 ad ac H I a.tmps)(pI:Cc a.tmps.size ops.toList)
  (eY:∀bY ar iQ,hZ bN iQ→bY.defers=a.defers→bY.tmps.size=a.tmps.size→cl E ad ac H w ap ar (λ aN aC=>e1 aN aC ap iQ bY.tmps)→Q .normal bY ar):(Code.region id ops true).wpIn (pH ro) gV E.P Q a w:=by
 refine wpIn_region_any hm ?_;obtain⟨amJ,rr⟩:=amB aq (pn ops.toList);have lQ:uj E aL ops (λ k=>fa.getD k []) (λ i=>H.length+pn (ops.toList.take i)) (lN 0 ops.toList.length) I (H++cy (pn ops.toList) mR) bN ap:=
  VW ops.toList 0 _ I _ bN ap fa h (λ ab=>by simp) (λ ab _=>by simp) (λ ab _=>by simp)
 have:=OA cg (ro:=ro) (gV:=gV) (ops:=ops) (Q:=Q) (dI:=bN) (hn:=a.tmps.size) (d0:=a.defers) (amG aM hk az) (amH aM) pI (lN 0 ops.toList.length) (zx ops.size false) ad ac I _ a {w with drawn:=w.drawn+1} bN
  (List.pairwise_lt_range' ..) (λ i=>by
   simp only[List.mem_range',vl];constructor
   ·rintro⟨k,az,rfl⟩;refine⟨R,?_⟩;rw[dp,OC];split<;>rfl
   ·rintro⟨j,_⟩;exact⟨i,j,R⟩) (by simp) (λ i aj b' an=>by
   rw[dp,OC]at an;split at an<;>simp at an) lQ (Jk amJ _) (aK.mono rr) rfl rfl
   (λ bY ar iQ he kb aS b0=>by
    obtain⟨e2,ez,bG,bH,cG,eZ⟩:=b0;exact eY bY ar iQ he kb aS ⟨e2,ez,bG,VX bH,rr.trans cG,eZ⟩)
 simpa using this
def OD:eD→Exit
 |.normal=>.normal
 |.exit id=>.exit id
 |.ret=>.ret
def VZ{I bN:Fr}{tmps:Array Value}(he:hZ I bN)(h:e1 ad ac H bN tmps):e1 ad ac H I tmps:=λ k=>by rw[he k];exact h k
def V0{I:Fr}{a:Act}(aq:b6 E ad ac H w)(aK:e1 ad ac H I a.tmps){c:Operand}{b:Bool}(h:bo E I c=.i (.v (.bool b))):a.eval c=.bool b:=by have:=eK aq aK c;rw[h]at this;exact fz this
def zV(B:Nat)(ad:cb)(ac:b9)(H:aa)(aN:cb)(aC:b9)(ap:aa):Prop:=∀a v,(∀d∈bd a,d<B)→a7 ad ac H a v→a7 aN aC ap a v
def zV.trans{B:Nat}{ad ac H aN aC ap sb sc nw}(h:zV B ad ac H aN aC ap)(k:zV B aN aC ap sb sc nw):zV B ad ac H sb sc nw:=λ a v aM r=>k a v aM (h a v aM r)
def oR(E:Env)(B:Nat)(ad:cb)(ac:b9)(H:aa)(w:World)(ap:aa)(ar:World)(Q:cb→b9→Prop):Prop:=
 ∃aN aC,b6 E aN aC ap ar∧Trans ad ac w aN aC ar∧zV B ad ac H aN aC ap∧Q aN aC
def cl.b{B:Nat}{ap:aa}{ar:World}{Q:cb→b9→Prop}(h:cl E ad ac H w ap ar Q):oR E B ad ac H w ap ar Q:=by obtain⟨aN,aC,j,J,aw,bb⟩:=h;exact⟨aN,aC,j,J,λ a v _ r=>aw a v r,bb⟩
def cP.V1(k:cP):k.to k.c=k:=by cases k<;>rfl
def amK{aU:Nat→Option Nat}:(∀a,(∀d∈bd a,aU d=some d)→co aU a=a)∧(∀l,(∀d∈bz l,aU d=some d)→cB aU l=l):=by
 refine⟨λ a=>?_,λ l=>?_⟩
 ·induction a using U.rec (motive_2:=λ l=>(∀d∈bz l,aU d=some d)→cB aU l=l)<;>(try intro h)<;>simp_all [bd,bz,co,cB,cP.V1]
 ·induction l using U.rec_1 (motive_1:=λ a=>(∀d∈bd a,aU d=some d)→co aU a=a)<;>(try intro h)<;>simp_all [bd,bz,co,cB,cP.V1]
def amL{B:Nat}(cM:B≤H.length)(I:Fr):(mS B I H).Nodup∧∀c∈mS B I H,c<H.length:=by
 obtain⟨j,J⟩:=B3 H 64 (bz (I.map (·.2))++(H.take B).flatMap Chunk.refs) [] (by simp) (by simp);unfold mS;refine⟨List.nodup_append.2 ⟨List.nodup_range,j.filter _,λ a aB b ak=>?_⟩,λ c ah=>?_⟩
 ·simp at aB ak;omega
 ·simp only[fT,zU,NY]at ah;rcases ah with ah|ah
  ·omega
  ·exact J c ah.1
def V2(aU:Nat→Option Nat)(k:Nat):∀I:Fr,get k (I.map λ x=>(x.1,co aU x.2))=co aU (get k I)
 |[]=>by simp[get,co]
 |(ab,a)::I=>by
  simp only[fk,get];split
  ·rfl
  ·exact V2 aU k I
def amM(B:Nat){I:Fr}{tmps:Array Value}(aq:b6 E ad ac H w)(aK:e1 ad ac H I tmps):
  ∃aC,b6 E ad aC (gc B I H).2 w∧e1 ad aC (gc B I H).2 (gc B I H).1 tmps∧(∀c b n,aC c=some (b,n)→∃cp,ac cp=some (b,n))∧zV B ad ac H ad aC (gc B I H).2:=by
 unfold gc;split
 ·rename_i cM;obtain⟨aF,bf⟩:=amL cM I;refine⟨n_ ac (mS B I H),UR aq aF bf,λ k=>?_,λ c b n h=>?_,λ a v aM r=>?_⟩
  ·show a7 _ _ _ (get k (I.map λ x=>(x.1,co (bt (mS B I H)) x.2))) _;rw[V2];exact vE (Fl aF bf) (aK k)
  ·unfold n_ at h;split at h
   ·exact⟨_,h⟩
   ·cases h
  ·have:=vE (Fl (ac:=ac) aF bf) r;rw[amK.1 a λ d vw=>zI aF (by
    unfold mS;have:=aM d vw;rw[en (by simpa using this)];simp[this])]at this
   exact this
 ·exact⟨ac,aq,aK,λ c b n h=>⟨c,h⟩,λ a v _ r=>r⟩
def uk(B:Nat)(H:aa):∀l:List U,ew B H l=l.map (ee B H)
 |[]=>by simp[ew]
 |a::l=>by simp[ew,uk B H l]
def ul(B:Nat)(H:aa):∀(l:aa) (k c:Nat),(ep B H k l)[c]?=(l[c]?).map (dN B H (k+c))
 |[],k,c=>by simp[ep]
 |x::l,k,0=>by simp[ep]
 |x::l,k,c+1=>by have:=ul B H l (k+1) c;simp only[ep,jM,this];rw[show k+1+c=k+(c+1)by omega]
def pK(B:Nat)(H:aa):∀(l:aa) (k:Nat),(ep B H k l).length=l.length
 |[],k=>rfl
 |x::l,k=>by simp[ep,pK B H l]
def um(B:Nat)(H:aa)(c:Nat):(ep B H 0 H)[c]?=(H[c]?).map (dN B H c):=by rw[ul];simp
def x3{B:Nat}{c ay g:Nat}{rows:List (List aD)}{ex:Bool}(h:(ep B H 0 H)[c]?=some (.ae ay g rows ex)):
  ∃g0 iv,H[c]?=some (.ae ay g0 rows iv)∧((c<B∧g=g0∧ex=iv)∨(B≤c∧g=0∧ex=false)):=by
 rw[um]at h;cases aQ:H[c]? with
 |none=>rw[aQ]at h;cases h
 |some x=>
  rw[aQ]at h;cases x with
  |ae q4 g0 hh iv=>
   simp only[d',dN,bj]at h;split at h
   ·cases h;exact⟨_,_,rfl,.inl ⟨by assumption,rfl,rfl⟩⟩
   ·cases h;exact⟨_,_,rfl,.inr ⟨R,rfl,rfl⟩⟩
  |ax=>simp only[d',dN,bj]at h;split at h<;>cases h
  |_=>simp[dN]at h
def FK{B:Nat}{c ay g:Nat}{rows:List (List aD)}{ex:Bool}(h:(ep B H 0 H)[c]?=some (.bl ay g rows ex)):H[c]?=some (.bl ay g rows ex):=by
 rw[um]at h;cases aQ:H[c]? with
 |none=>rw[aQ]at h;cases h
 |some x=>
  rw[aQ]at h;cases x with
  |ae q4 g0 hh iv=>simp only[d',dN,bj]at h;split at h<;>cases h
  |bl=>simpa[dN]using h
  |ax=>simp only[d',dN,bj]at h;split at h<;>cases h
  |_=>simp[dN]at h
def OE{B:Nat}{c:Nat}{s:List UInt8}{p:Nat}(h:(ep B H 0 H)[c]?=some (.iter s p)):H[c]?=some (.iter s p):=by
 rw[um]at h;cases aQ:H[c]? with
 |none=>rw[aQ]at h;cases h
 |some x=>
  rw[aQ]at h;cases x with
  |ae q4 g0 hh iv=>simp only[d',dN,bj]at h;split at h<;>cases h
  |iter=>simpa[dN]using h
  |ax=>simp only[d',dN,bj]at h;split at h<;>cases h
  |_=>simp[dN]at h
def V3(B:Nat)(H:aa):∀es:List (aD×U),u_ B H es=es.map λ p=>(p.1,ee B H p.2)
 |[]=>rfl
 |p::r=>by simp[u_,V3 B H r]
def amN{B:Nat}{c:Nat}{es:List (aD×U)}(h:(ep B H 0 H)[c]?=some (.map es)):∃zb,H[c]?=some (.map zb)∧es=u_ B H zb:=by
 rw[um]at h;cases aQ:H[c]? with
 |none=>rw[aQ]at h;cases h
 |some x=>
  rw[aQ]at h;cases x with
  |ae q4 g0 hh iv=>simp only[d',dN,bj]at h;split at h<;>cases h
  |map zb=>simp only[d',dN,bj,Chunk.map.injEq]at h;exact⟨_,rfl,h.symm⟩
  |ax=>simp only[d',dN,bj]at h;split at h<;>cases h
  |_=>simp[dN]at h
def amO{B:Nat}{c:Nat}{t:Nat}{l:List UInt8}(h:(ep B H 0 H)[c]?=some (.jA t l)):H[c]?=some (.jA t l):=by
 rw[um]at h;cases aQ:H[c]? with
 |none=>rw[aQ]at h;cases h
 |some x=>
  rw[aQ]at h;cases x with
  |ae q4 g0 hh iv=>simp only[d',dN,bj]at h;split at h<;>cases h
  |jA=>simpa[dN]using h
  |ax=>simp only[d',dN,bj]at h;split at h<;>cases h
  |_=>simp[dN]at h
def amP{B:Nat}{c:Nat}{t:Nat}{cells:List U}(h:(ep B H 0 H)[c]?=some (.cZ t cells)):∃qg,H[c]?=some (.cZ t qg)∧cells=ew B H qg:=by
 rw[um]at h;cases aQ:H[c]? with
 |none=>rw[aQ]at h;cases h
 |some x=>
  rw[aQ]at h;cases x with
  |ae q4 g0 hh iv=>simp only[d',dN,bj]at h;split at h<;>cases h
  |cZ t0 qg=>simp only[d',dN,bj,Chunk.cZ.injEq]at h;obtain⟨rfl,h⟩:=h;exact⟨_,rfl,h.symm⟩
  |ax=>simp only[d',dN,bj]at h;split at h<;>cases h
  |_=>simp[dN]at h
def amQ{B:Nat}{c ay g:Nat}{rows:List (List aD)}{ex:Bool}(h:(ep B H 0 H)[c]?=some (.ae ay g rows ex)):∃aY eF gd,H[c]?=some (.ae ay aY eF gd):=by
 rw[um]at h;cases aQ:H[c]? with
 |none=>rw[aQ]at h;cases h
 |some x=>
  rw[aQ]at h;cases x with
  |ae q4 g0 hh iv=>simp only[d',dN,bj]at h;split at h<;>cases h<;>exact⟨_,_,_,rfl⟩
  |ax=>simp only[d',dN,bj]at h;split at h<;>cases h
  |_=>simp[dN]at h
def V4{B:Nat}{c:Nat}{v:Value}(r:a7 ad ac H (.dA c) v):a7 ad ac (ep B H 0 H) (.dA c) v:=by
 cases r with
 |dA c v ah hm bq hu av bg=>exact .dA _ _ (by rw[pK];exact ah) (λ es h=>by obtain⟨gA,j,_⟩:=amN h;exact hm _ j) (λ t cells h=>by obtain⟨gA,j,_⟩:=amP h;exact bq _ _ j) (λ t l h=>hu _ _ (amO h)) av (λ ay g rows ex h=>by obtain⟨_,_,_,j⟩:=amQ h;exact bg _ _ _ _ j)
def OF{B:Nat}{c:Nat}{cells:List U}(h:(ep B H 0 H)[c]?=some (.box cells)):∃qg,H[c]?=some (.box qg)∧cells=ew B H qg:=by
 rw[um]at h;cases aQ:H[c]? with
 |none=>rw[aQ]at h;cases h
 |some x=>
  rw[aQ]at h;cases x with
  |ae q4 g0 hh iv=>simp only[d',dN,bj]at h;split at h<;>cases h
  |box qg=>simp only[d',dN,bj,Chunk.box.injEq]at h;exact⟨_,rfl,h.symm⟩
  |ax=>simp only[d',dN,bj]at h;split at h<;>cases h
  |_=>simp[dN]at h
def V5{B:Nat}{c z g s:Nat}{rows:List bS}(h:(ep B H 0 H)[c]?=some (.ax z g s rows)):
  ∃g0 dn,H[c]?=some (.ax z g0 dn rows)∧((c<B∧g=g0∧s=dn)∨(B≤c∧g=0∧s=0)):=by
 rw[um]at h;cases aQ:H[c]? with
 |none=>rw[aQ]at h;cases h
 |some x=>
  rw[aQ]at h;cases x with
  |ax z0 g0 dn hh=>
   simp only[d',dN,bj]at h;split at h
   ·cases h;exact⟨_,_,rfl,.inl ⟨by assumption,rfl,rfl⟩⟩
   ·cases h;exact⟨_,_,rfl,.inr ⟨R,rfl,rfl⟩⟩
  |ae q4 g0 hh iv=>simp only[d',dN,bj]at h;split at h<;>cases h
  |_=>simp[dN]at h
def V6{B c:Nat}{g:Nat}{rows:List (List aD)}(h:(ep B H 0 H)[c]?=some (.fd g rows)):H[c]?=some (.fd g rows):=by
 rw[ul]at h;cases aQ:H[c]? with
 |none=>rw[aQ]at h;simp at h
 |some y=>
  rw[aQ]at h;cases y with
  |fd=>simpa[dN]using h
  |ae q4 g0 hh iv=>simp only[d',dN,bj]at h;split at h<;>cases h
  |ax=>simp only[d',dN,bj]at h;split at h<;>cases h
  |_=>simp[dN]at h
def FL{d:Nat}:∀{l:List U},d∈bz l↔∃a,a∈l∧d∈bd a
 |[]=>by simp[bz]
 |a::l=>by simp[bz,FL (l:=l)]
def Jm{B:Nat}{a:U}{v:Value}(r:a7 ad ac H a v)(aM:∀d∈bd a,d<B):a7 ad ac (ep B H 0 H) a v:=by
 induction r with
 |dead v=>exact .dead v
 |i x v h=>exact .i x v h
 |agg cells cs an _ a8=>exact .agg cells cs an λ k a aB=>a8 k a aB λ d h=>aM d (FL.2 ⟨a,jG aB,h⟩)
 |aR fn a b eP cs an hm _ _ nX nY=>
  exact .aR fn a b eP cs an hm (λ k x al=>nX k x al λ d h=>aM d (fT.2 (.inl (FL.2 ⟨x,jG al,h⟩))))
   (λ k x al=>nY k x al λ d h=>aM d (fT.2 (.inr (FL.2 ⟨x,jG al,h⟩))))
 |be vs xs an _ a8=>exact .be vs xs an λ k a aB=>a8 k a aB λ d h=>aM d (FL.2 ⟨a,jG aB,h⟩)
 |ref c g off len v ah aS aK av aP=>
  have FM:c<B:=aM c (by simp[bd]);refine .ref _ _ _ _ _ (by rw[pK];exact ah) (λ ay rows ex h=>?_) (λ ay rows ex h=>aK _ _ _ (FK h)) av (λ ay aY rows ex h=>?_)
  ·obtain⟨g0,iv,j,⟨_,rfl,rfl⟩|⟨J,_⟩⟩:=x3 h
   ·exact aS _ _ _ j
   ·omega
  ·obtain⟨g0,iv,j,⟨_,rfl,rfl⟩|⟨J,_⟩⟩:=x3 h
   ·exact aP _ _ _ _ j
   ·omega
 |dA c v ah hm bq hu av bg=>exact V4 (.dA c v ah hm bq hu av bg)
 |x k v h aK=>
  have FM:k.c<B:=aM k.c (by simp[bd]);refine .x _ _ (h.step (by rw[pK];exact cQ _) ?_) (aK.to (λ _ _ h=>h) λ g rows e=>V6 e);intro z g s rows aQ;obtain⟨g0,dn,j,⟨_,rfl,rfl⟩|⟨J,_⟩⟩:=V5 aQ
  ·exact .inl ⟨_,_,j,rfl,rfl,.inr ⟨rfl,λ r bR ai=>⟨bR,ai,rfl,rfl⟩⟩⟩
  ·omega
 |ptr c g r k v ah ak aS aK aA av aP=>
  have FM:c<B:=aM c (by simp[bd]);refine .ptr _ _ _ _ _ (by rw[pK];exact ah) (λ cells h=>?_) (λ ay rows ex h=>?_) (λ ay rows ex row h=>aK _ _ _ _ (FK h)) (λ s p h=>aA _ _ (OE h)) av (λ ay aY rows ex h=>?_)
  ·obtain⟨gA,j,_⟩:=OF h;exact ak _ j
  ·obtain⟨g0,iv,j,⟨_,rfl,rfl⟩|⟨J,_⟩⟩:=x3 h
   ·exact aS _ _ _ j
   ·omega
  ·obtain⟨g0,iv,j,⟨_,rfl,rfl⟩|⟨J,_⟩⟩:=x3 h
   ·exact aP _ _ _ _ j
   ·omega
def FN{B:Nat}{a:U}{v:Value}(r:a7 ad ac H a v):a7 ad ac (ep B H 0 H) (ee B H a) v:=by
 induction r with
 |dead v=>simp only[ee];exact .dead v
 |i x v h=>simp only[ee];exact .i x v h
 |agg cells cs an _ a8=>
  simp only[ee,uk];refine .agg _ _ (by simpa using an) λ k a aB=>?_
  simp only[fA,c0]at aB;obtain⟨b,ak,rfl⟩:=aB;exact a8 k b ak
 |aR fn a b eP cs an hm _ _ nX nY=>
  simp only[ee,uk];refine .aR _ _ _ _ _ (by simpa using an) (by simpa using hm) (λ k a aB=>?_) (λ k a aB=>?_)
  ·simp only[fA,c0]at aB;obtain⟨b,ak,rfl⟩:=aB;exact nX k b ak
  ·simp only[fA,c0]at aB;obtain⟨b,ak,rfl⟩:=aB;exact nY k b ak
 |be vs xs an _ a8=>
  simp only[ee,uk];refine .be _ _ (by simpa using an) λ k a aB=>?_
  simp only[fA,c0]at aB;obtain⟨b,ak,rfl⟩:=aB;exact a8 k b ak
 |ref c g off len v ah aS aK av aP=>
  simp only[ee];split
  ·exact Jm (.ref c g off len v ah aS aK av aP) (by simpa[bd])
  ·rename_i FM;unfold Er;split
   ·rename_i ay aY rows ex aQ;split
    ·rename_i e;subst e;refine .ref _ _ _ _ _ (by rw[pK];exact ah) (λ h_ c9 hK h=>?_) (λ h_ c9 hK h=>?_) av (λ _ _ _ _ _=>ig _)
     ·obtain⟨g0,iv,j,_⟩:=x3 h;rw[aQ]at j;cases j;exact aS _ _ _ aQ
     ·have:=FK h;rw[aQ]at this;cases this
    ·exact .dead v
   ·rename_i ay aY rows ex aQ;split
    ·rename_i e;subst e;exact .i _ _ (aK _ _ _ aQ).2
    ·exact .dead v
   ·exact .dead v
 |dA c v ah hm bq hu av bg=>simp only[ee];exact V4 (.dA c v ah hm bq hu av bg)
 |x k v h aK=>
  simp only[ee];split
  ·exact Jm (.x k v h aK) (by simpa[bd])
  ·rename_i FM;unfold qS;split;rotate_left
   ·rename_i aY rows aQ;cases k with
    |d c g aj n=>
     simp only;split
     ·rename_i e;subst e;exact .i _ _ (aK _ _ _ _ _ rfl aQ)
     ·exact .dead v
    |_=>exact .dead v
   ·exact .dead v
   rename_i z aY dH rows aQ;have back:∀z2 g2 s2 c9,(ep B H 0 H)[k.c]?=some (.ax z2 g2 s2 c9)→z2=z∧g2=0∧s2=0∧c9=rows:=by
    intro z2 g2 s2 c9 J;obtain⟨g0,dn,j,⟨aw,_⟩|⟨_,rfl,rfl⟩⟩:=V5 J
    ·omega
    ·rw[aQ]at j;cases j;exact⟨rfl,rfl,rfl,rfl⟩
   cases k with
   |d c g aj n=>
    simp only;split
    ·rename_i e;subst e;obtain⟨j,J,aw⟩:=h;refine .x _ _ ⟨by rw[pK];exact j,J,λ z2 g2 s2 c9 oG=>?_⟩ (λ g2 cc sn gr c9 aI J=>by cases aI;have J:=V6 J;have aQ:H[c]?=_:=aQ;rw[aQ]at J;cases J);obtain⟨rfl,rfl,rfl,rfl⟩:=back _ _ _ _ oG;exact⟨cQ _,λ _=>(aw _ _ _ _ aQ).2 rfl⟩
    ·exact .dead v
   |e c g r=>
    simp only;split
    ·rename_i e;subst e;obtain⟨j,J,aw⟩:=h;refine .x _ _ ⟨by rw[pK];exact j,J,λ z2 g2 s2 c9 oG=>?_⟩ (.ne nofun);obtain⟨rfl,rfl,rfl,rfl⟩:=back _ _ _ _ oG;exact⟨cQ _,λ _=>(aw _ _ _ _ aQ).2 rfl⟩
    ·exact .dead v
   |h c g s r=>
    simp only;split
    ·rename_i e;obtain⟨rfl,rfl⟩:=e;obtain⟨j,J,aw⟩:=h;refine .x _ _ ⟨by rw[pK];exact j,J,λ z2 g2 s2 c9 oG=>?_⟩ (.ne nofun);obtain⟨rfl,rfl,rfl,rfl⟩:=back _ _ _ _ oG;exact⟨.inr ⟨rfl,cQ _⟩,λ _ _=>(aw _ _ _ _ aQ).2 rfl rfl⟩
    ·exact .dead v
   |p c g s r i ab=>
    simp only;split
    ·rename_i e;obtain⟨rfl,rfl⟩:=e;obtain⟨j,J,aw⟩:=h;refine .x _ _ ⟨by rw[pK];exact j,J,λ z2 g2 s2 c9 oG=>?_⟩ (.ne nofun);obtain⟨rfl,rfl,rfl,rfl⟩:=back _ _ _ _ oG;exact⟨.inr ⟨rfl,cQ _⟩,λ _ _=>(aw _ _ _ _ aQ).2 rfl rfl⟩
    ·exact .dead v
 |ptr c g r k v ah ak aS aK aA av aP=>
  simp only[ee];split
  ·exact Jm (.ptr c g r k v ah ak aS aK aA av aP) (by simpa[bd])
  ·rename_i FM;unfold r6;split
   ·rename_i ay aY rows ex aQ;split
    ·rename_i e;subst e;refine .ptr _ _ _ _ _ (by rw[pK];exact ah) (λ cells h=>?_) (λ h_ c9 hK h=>?_) (λ h_ c9 hK row h=>?_) (λ s p h=>?_) av (λ _ _ _ _ _=>ig _)
     ·obtain⟨gA,j,_⟩:=OF h;rw[aQ]at j;cases j
     ·obtain⟨g0,iv,j,_⟩:=x3 h;rw[aQ]at j;cases j;exact aS _ _ _ aQ
     ·have:=FK h;rw[aQ]at this;cases this
     ·have:=OE h;rw[aQ]at this;cases this
    ·exact .dead v
   ·rename_i x gp aQ;refine .ptr _ _ _ _ _ (by rw[pK];exact ah) (λ cells h=>?_) (λ h_ c9 hK h=>?_) (λ h_ c9 hK row h=>aK _ _ _ _ (FK h)) (λ s p h=>aA _ _ (OE h)) av (λ h_ g2 c9 hK h=>?_)
    ·obtain⟨gA,j,_⟩:=OF h;exact ak _ j
    ·obtain⟨g0,iv,j,_⟩:=x3 h;rw[aQ]at j;cases j;exact(gp _ _ _ _ rfl).elim
    ·obtain⟨g0,iv,j,_⟩:=x3 h;rw[aQ]at j;cases j;exact(gp _ _ _ _ rfl).elim
   ·exact .dead v
def amR(B:Nat)(aq:b6 E ad ac H w):b6 E ad ac (ep B H 0 H) w:=by
 refine⟨aq.dT,λ c x al=>?_,aq.inj,λ c b n h=>?_,aq.e_⟩
 ·rw[um]at al;simp only[c0]at al;obtain⟨y,aZ,rfl⟩:=al;have az:=aq.b7 c y aZ;cases y with
  |box cells=>obtain⟨b,cs,elem,bl,j,J,aw,bb,bu⟩:=az;refine⟨b,cs,elem,bl,j,J,aw,by rw[uk];simpa using bb,λ k a aB=>?_⟩;rw[uk]at aB;simp only[fA,c0]at aB;obtain⟨b,ak,rfl⟩:=aB;exact FN (bu k b ak)
  |ae ay g rows ex=>
   simp only[dN];split
   ·exact az
   ·obtain⟨j,J,aw⟩:=az;refine⟨j,J,?_⟩;rcases aw with aw|⟨b,cs,elem,bl,bb,bu,dw,gx,gD,gy⟩
    ·exact .inl aw
    ·exact .inr ⟨b,cs,elem,bl,bb,bu,dw,gx,(λ h=>by cases h),gy⟩
  |bl=>exact az
  |iter=>exact az
  |map es=>obtain⟨b,hv,aL,j,J,aw⟩:=az;exact⟨b,hv,aL,j,J,by rw[V3];exact aw.to λ a v r=>FN r⟩
  |jA=>exact az
  |gone=>exact az
  |fd=>exact az
  |ax z g s rows=>simp only[dN];split<;>exact az
  |cZ t cells=>obtain⟨b,cs,j,J,bb,bu⟩:=az;refine⟨b,cs,j,J,by rw[uk];simpa using bb,λ k a aB=>?_⟩;rw[uk]at aB;simp only[fA,c0]at aB;obtain⟨b,ak,rfl⟩:=aB;exact FN (bu k b ak)
 ·have:=aq.sep c b n h;exact⟨this.1,this.2.1,by rw[pK];exact this.2.2⟩
def V7(B:Nat)(k:Nat):∀I:Fr,get k (mg B H I)=ee B H (get k I)
 |[]=>by simp[get,mg,ee]
 |(ab,a)::I=>by
  simp only[mg,get];split
  ·rfl
  ·exact V7 B k I
def oR.trans{B:Nat}{ap nw:aa}{ar q3:World}{Q xz:cb→b9→Prop}(h:oR E B ad ac H w ap ar Q)(k:∀aN aC,b6 E aN aC ap ar→Q aN aC→oR E B aN aC ap ar nw q3 xz):oR E B ad ac H w nw q3 xz:=by obtain⟨aN,aC,j,J,aw,bb⟩:=h;obtain⟨sb,sc,bG,bH,cG,eZ⟩:=k aN aC j bb;exact⟨sb,sc,bG,J.trans bH,aw.trans cG,eZ⟩
def V8(B:Nat)(aq:b6 E ad ac H w){Q:cb→b9→Prop}(eY:Q ad ac):oR E B ad ac H w (ep B H 0 H) w Q:=
 ⟨ad,ac,amR B aq,Trans.refl _ _ _,λ a v aM r=>Jm r aM,eY⟩
def amS(B:Nat){I:Fr}{tmps:Array Value}(aq:b6 E ad ac H w)(aK:e1 ad ac H I tmps):
  oR E B ad ac H w (mT B I H).2 w λ aN aC=>e1 aN aC (mT B I H).2 (mT B I H).1 tmps:=by
 unfold mT;refine(V8 B aq (Q:=λ aN aC=>e1 aN aC (ep B H 0 H) (mg B H I) tmps) λ k=>by rw[V7];exact FN (aK k)).trans λ ej dY dt zB=>?_
 obtain⟨aC,oK,Jn,amT,na⟩:=amM B dt zB;exact⟨ej,aC,oK,⟨rfl,rfl,rfl,cQ _,λ _ _ _=>rfl,λ _ _ h=>h,λ _ h=>.inl h,λ c b n h=>by obtain⟨cp,h9⟩:=amT c b n h;exact .inr ⟨cp,n,h9⟩⟩,na,Jn⟩
def V9{tmps:Array Value}:∀(l:List (Nat×Nat)) {ad:cb} {ac:b9} {H:aa} {I:Fr},b6 E ad ac H w→e1 ad ac H I tmps→cl E ad ac H w (r5 l I H).2 w λ aN aC=>e1 aN aC (r5 l I H).2 (r5 l I H).1 tmps
 |[],ad,ac,H,I,aq,aK=>cl.refl aq aK
 |(k,z)::l,ad,ac,H,I,aq,aK=>by
  simp only[r5];refine(NU aq z (aK k)).trans λ ej dY dt _ hm al=>?_
  exact V9 l dt λ ab=>by
   simp only[get];split
   ·rename_i e;subst e;exact al
   ·exact hm _ _ (aK ab)
def amU(aq:b6 E ad ac H w)(ab z c:Nat):cl E ad ac H w (Bo ab z c H H[c]?) w λ _ _=>True:=by
 unfold Bo;split
 ·rename_i cells ah;split
  ·rename_i a aB;obtain⟨b,cs,elem,bl,ao,aI,bE,c6,lq⟩:=aq.b7 _ _ ah;have cg:=(bF.1 ah).1;refine(NU aq z (lq ab a aB)).trans λ ej dY dt cd hm al=>?_
   have gL:(i_ z H a).2[c]?=some (.box cells):=by obtain⟨x,al⟩:=Vb z H a;rw[al,en cg];exact ah
   obtain⟨bV,eG,amV,V_,f1,f2,f3,f4,f5⟩:=dt.b7 _ _ gL;have eX:eG=cs:=by
    have j:a7 ej dY (i_ z H a).2 (.ptr c 0 0 0) (.pointer (some ⟨b,0,none⟩)):=hm _ _ (.ptr c 0 0 0 _ cg (λ _ _=>⟨b,_,ao,rfl⟩) (λ _ _ _ h=>by rw[ah]at h;cases h) (λ _ _ _ _ h=>by rw[ah]at h;cases h) (λ _ _ h=>by rw[ah]at h;cases h) ⟨_,rfl⟩ (λ _ _ _ _ h=>by rw[ah]at h;cases h));cases j with
    |ptr _ _ _ _ _ _ ak=>obtain⟨dE,gr,g1,g2⟩:=ak _ gL;rw[f1]at g1;cases g1;cases g2;rw[aI]at f2;cases f2;rfl
   subst eX;refine wrote dt f1 gL (λ _ _=>rfl) rfl rfl rfl rfl ?_ (λ gq=>?_) (λ _=>trivial)
   ·intro y aZ;rcases fB aZ with⟨_,rfl⟩|⟨e,_⟩
    ·exact .inl ⟨cells,gL,rfl⟩
    ·exact absurd rfl e
   ·refine⟨bV,eG,amV,V_,f1,f2,f3,by simpa using f4,λ k x az=>?_⟩;by_cases B6:ab=k
    ·subst B6;have jO:=(bF.1 aB).1;rw[ks jO]at az;cases az;exact gq _ _ al
    ·rw[dC B6]at az;exact gq _ _ (f5 k x az)
  ·exact cl.refl aq trivial
 ·exact cl.refl aq trivial
def V'{tmps:Array Value}{I:Fr}:∀(l:List (Nat×Nat×Nat)) {ad:cb} {ac:b9} {H:aa},b6 E ad ac H w→e1 ad ac H I tmps→cl E ad ac H w (u9 l I H) w λ aN aC=>e1 aN aC (u9 l I H) I tmps
 |[],ad,ac,H,aq,aK=>cl.refl aq aK
 |(k,ab,z)::l,ad,ac,H,aq,aK=>by
  have j:cl E ad ac H w (Ep ab z H (get k I)) w λ _ _=>True:=by
   unfold Ep;split
   ·exact amU aq _ _ _
   ·exact cl.refl aq trivial
  simp only[u9];exact j.trans λ ej dY dt _ hm _=>V' l dt λ k=>hm _ _ (aK k)
def OG{tmps:Array Value}:∀(l:List (Nat×Nat)) {ad:cb} {ac:b9} {H:aa} {I:Fr},b6 E ad ac H w→e1 ad ac H I tmps→cl E ad ac H w (qR l I H).2 w λ aN aC=>e1 aN aC (qR l I H).2 (qR l I H).1 tmps
 |[],ad,ac,H,I,aq,aK=>cl.refl aq aK
 |(k,z)::l,ad,ac,H,I,aq,aK=>by
  simp only[qR];cases bg:freeze H (get k I)with
  |none=>simp only[y2];exact OG l aq aK
  |some p=>
   obtain⟨x,H1⟩:=p;simp only[y2];refine(zp aq (aK k) bg).trans λ ej dY dt _ hm al=>?_
   exact OG l dt λ ab=>by
    simp only[get];split
    ·rename_i e;subst e;exact .i _ _ (zr al)
    ·exact hm _ _ (aK ab)
def amW(B:Nat){f:FuncId}{id:Nat}{I:Fr}{tmps:Array Value}(aq:b6 E ad ac H w)(aK:e1 ad ac H I tmps):
  oR E B ad ac H w (oB E B f id I H).2 w λ aN aC=>e1 aN aC (oB E B f id I H).2 (oB E B f id I H).1 tmps:=by
 unfold oB;simp only;refine(V9 (E.w0 f id) aq aK).b.trans λ ej dY dt zB=>?_
 refine(V' (E.w1 f id) dt zB).b.trans λ e2 ez tY BR=>?_
 refine(OG (E.w2 f id) tY BR).b.trans λ jK jL amX amY=>?_
 exact amS B amX (amY.H0 _)
def Wa{f:FuncId}{B:Nat}(aq:b6 E ad ac H w){vs bI:List U}{ap:aa}(h:qc E f B H vs=some (bI,ap))(g:Nat→Value)(r:∀(k:Nat) (a:U),vs[k]?=some a→a7 ad ac H a (g k)):
  oR E B ad ac H w ap w λ aN aC=>bI.length=vs.length∧∀(k:Nat) (a:U),bI[k]?=some a→a7 aN aC ap a (g k):=by
 have fin:∀{ej dY H1 Co},b6 E ej dY H1 w→(Co.length=vs.length∧∀(k:Nat) (a:U),Co[k]?=some a→a7 ej dY H1 a (g k))→
   oR E B ej dY H1 w (ep B H1 0 H1) w λ aN aC=>(ew B H1 Co).length=vs.length∧∀(k:Nat) (a:U),(ew B H1 Co)[k]?=some a→a7 aN aC (ep B H1 0 H1) a (g k):=by
  intro ej dY H1 Co dt bn;refine V8 B dt ⟨by rw[uk];simpa using bn.1,λ k a aB=>?_⟩;rw[uk]at aB;simp only[fA,c0]at aB;obtain⟨b,ak,rfl⟩:=aB;exact FN (bn.2 k b ak)
 unfold qc at h;split at h
 ·simp only[bj,bA]at h;obtain⟨rfl,rfl⟩:=h;exact(NV (E.lH f) vs aq g r).b.trans λ ej dY dt bn=>fin dt bn
 ·split at h
  ·rename_i Co H1 av;simp only[bj,bA]at h;obtain⟨rfl,rfl⟩:=h;exact(B4 aq g av r).b.trans λ ej dY dt bn=>fin dt ⟨by rw[NS];exact bn.1,NT _ _ g bn.2⟩
  ·cases h
def amZ{f:FuncId}{B:Nat}(aq:b6 E ad ac H w){ix r:U}{v:Value}{ap:aa}(h:q0 E f B H ix=some (r,ap))(jf:a7 ad ac H ix v):oR E B ad ac H w ap w λ aN aC=>a7 aN aC ap r v:=by
 have single:∀a,tN (qc E f B H [a])=some (r,ap)→a7 ad ac H a v→oR E B ad ac H w ap w λ aN aC=>a7 aN aC ap r v:=by
  intro a h ff;unfold tN at h;split at h
  ·rename_i hC H1 ai;simp only[bj,bA]at h;obtain⟨rfl,rfl⟩:=h;obtain⟨ej,dY,bG,bH,cG,eZ⟩:=Wa aq ai (λ _=>v) (λ k b ak=>by
    cases k with
    |zero=>simp at ak;subst ak;exact ff
    |succ k=>simp at ak)
   exact⟨ej,dY,bG,bH,cG,eZ.2 0 _ rfl⟩
  ·cases h
 cases ix with
 |be vs=>
  simp only[q0,HY]at h;split at h
  ·rename_i bI H1 ai;simp only[bj,bA]at h;obtain⟨rfl,rfl⟩:=h;cases jf with
   |be _ xs an al=>obtain⟨ej,dY,bG,bH,cG,eZ⟩:=Wa aq ai (λ k=>xs.getD k undef) al;exact⟨ej,dY,bG,bH,cG,.be _ _ (by rw[eZ.1];exact an) eZ.2⟩
  ·cases h
 |dead=>exact single _ h jf
 |i=>exact single _ h jf
 |agg=>exact single _ h jf
 |ref=>exact single _ h jf
 |ptr=>exact single _ h jf
 |dA=>exact single _ h jf
 |x=>exact single _ h jf
 |aR=>exact single _ h jf
def tf(D:Nat):Deferred:={target:=.collected D,args:=#[]}
def sp(ad:cb)(ac:b9)(b:Nat):Prop:=ad b=none∧∀c n,ac c≠some (b,n)
def lu(cV:Nat)(ad:cb)(ac:b9)(w:World)(cI:List Deferred):Prop:=∃l3:List Nat,cI=l3.map tf∧l3.Nodup∧∀D∈l3,cV≤D∧w.heap[D]?=some (.deferred (some []))∧sp ad ac D
def oS{w:World}{b:Nat}{aj:Obj}(h:w.heap[b]?=some aj):b<w.heap.size:=(j6.1 h).1
def OH{aN aC ar}{b:Nat}(h:sp ad ac b)(ak:b<w.heap.size)(T:Trans ad ac w aN aC ar):sp aN aC b:=by
 refine⟨?_,λ c n e=>?_⟩
 ·cases aA:aN b with
  |none=>rfl
  |some aj=>
   rcases T.q2 b (by rw[aA];simp)with j|j|⟨c,n,j⟩
   ·exact absurd h.1 j
   ·omega
   ·exact absurd j (h.2 c n)
 ·rcases T.own c b n e with j|⟨cp,dO,j⟩
  ·omega
  ·exact h.2 _ _ j
def Jo{aN aC ar}{b:Nat}{aj:Obj}(h:sp ad ac b)(ak:w.heap[b]?=some aj)(T:Trans ad ac w aN aC ar):ar.heap[b]?=some aj:=(T.frame b (oS ak) h.2).trans ak
def FO{aN aC ar}{cV:Nat}{cI:List Deferred}(h:lu cV ad ac w cI)(T:Trans ad ac w aN aC ar):lu cV aN aC ar cI:=by obtain⟨l3,j,J,aw⟩:=h;refine⟨l3,j,J,λ D lS=>?_⟩;obtain⟨bG,bH,cG⟩:=aw D lS;exact⟨bG,Jo cG bH T,OH cG (oS bH) T⟩
def Wb(cV:Nat)(ad:cb)(ac:b9)(w:World):lu cV ad ac w []:=⟨[],rfl,List.nodup_nil,λ _ h=>by cases h⟩
def zW{cV:Nat}{cI:List Deferred}{l:Nat}{r:Loop}(h:lu cV ad ac w cI)(an:w.heap[l]?=some (.loop r))(aj:Obj):lu cV ad ac (w.putObj l aj) cI:=by obtain⟨l3,j,J,aw⟩:=h;refine⟨l3,j,J,λ D lS=>?_⟩;obtain⟨bG,bH,cG⟩:=aw D lS;exact⟨bG,(FP (by rintro rfl;rw[an]at bH;cases bH)).trans bH,cG⟩
def cl.zX{B cV:Nat}{ap:aa}{ar:World}{Q:cb→b9→Prop}{a bY:Act}(jh:lu cV ad ac w a.defers)(kb:bY.defers=a.defers)(h:cl E ad ac H w ap ar Q):
  oR E B ad ac H w ap ar λ aN aC=>Q aN aC∧lu cV aN aC ar bY.defers:=by
 obtain⟨aN,aC,j,J,aw,bb⟩:=h;exact⟨aN,aC,j,J,λ a v _ r=>aw a v r,bb,by rw[kb];exact FO jh J⟩
def am0{l c:Nat}{aj:Obj}{x:Chunk}(an:∀c n,ac c≠some (l,n))(h:oD ad ac H w c x):oD ad ac H (w.putObj l aj) c x:=by
 have key:∀b n,ac c=some (b,n)→(w.putObj l aj).heap[b]?=w.heap[b]?:=λ b n e=>FP (by rintro rfl;exact an _ _ e)
 cases x with
 |box cells=>obtain⟨b,cs,elem,bl,j,J,aw⟩:=h;exact⟨b,cs,elem,bl,j,(key _ _ j).trans J,aw⟩
 |ae ay g rows ex=>
  obtain⟨j,J,aw⟩:=h;refine⟨j,J,?_⟩;rcases aw with aw|⟨b,cs,elem,bl,bb,bu,dw⟩
  ·exact .inl aw
  ·exact .inr ⟨b,cs,elem,bl,bb,(key _ _ bb).trans bu,dw⟩
 |bl=>exact h
 |iter s p=>obtain⟨b,j,J⟩:=h;exact⟨b,j,(key _ _ j).trans J⟩
 |map es=>obtain⟨b,hv,aL,j,J,aw⟩:=h;exact⟨b,hv,aL,j,(key _ _ j).trans J,aw⟩
 |cZ t cells=>obtain⟨b,cs,j,J,aw⟩:=h;exact⟨b,cs,j,(key _ _ j).trans J,aw⟩
 |jA t l=>obtain⟨b,cs,j,J,aw⟩:=h;exact⟨b,cs,j,(key _ _ j).trans J,aw⟩
 |gone=>exact h
 |fd=>exact h
 |ax z g s rows=>
  rcases h with aw|⟨b,cs,elem,bl,bb,bu,dw,gx,gD⟩
  ·exact .inl aw
  ·exact .inr ⟨b,cs,elem,bl,bb,(key _ _ bb).trans bu,dw,gx,λ r y aZ=>(gD r y aZ).mono rfl (λ _ _ h=>h) λ b n e=>FP (by rintro rfl;exact an _ _ e)⟩
def zY{l:Nat}{aj:Obj}(aq:b6 E ad ac H w)(an:sp ad ac l):b6 E ad ac H (w.putObj l aj):=
 ⟨λ b r_ h=>(FP (by rintro rfl;rw[an.1]at h;cases h)).trans (aq.dT b r_ h),λ c x h=>am0 an.2 (aq.b7 c x h),aq.inj,
  λ c b n h=>by have:=aq.sep c b n h;exact⟨this.1,by rw[World.putObj_size];exact this.2.1,this.2.2⟩,aq.e_⟩
def zZ{sq:cb}{sr:b9}{gW:World}{l:Nat}{aj:Obj}(T:Trans sq sr gW ad ac w)(an:gW.heap.size≤l):Trans sq sr gW ad ac (w.putObj l aj):=
 ⟨T.os,T.tape,T.output,by rw[World.putObj_size];exact T.size,λ b ak aF=>(FP R).trans (T.frame b ak aF),T.dT,T.q2,T.own⟩
def am1{c:Nat}{aj:Obj}{x:Chunk}(h:oD ad ac H w c x):oD ad ac H (w.alloc aj) c x:=by
 have key:∀{b:Nat} {r_:Obj},w.heap[b]?=some r_→(w.alloc aj).heap[b]?=some r_:=λ h=>(z1 w aj _ (oS h)).trans h
 cases x with
 |box cells=>obtain⟨b,cs,elem,bl,j,J,aw⟩:=h;exact⟨b,cs,elem,bl,j,key J,aw⟩
 |ae ay g rows ex=>
  obtain⟨j,J,aw⟩:=h;refine⟨j,J,?_⟩;rcases aw with aw|⟨b,cs,elem,bl,bb,bu,dw⟩
  ·exact .inl aw
  ·exact .inr ⟨b,cs,elem,bl,bb,key bu,dw⟩
 |bl=>exact h
 |iter s p=>obtain⟨b,j,J⟩:=h;exact⟨b,j,key J⟩
 |map es=>obtain⟨b,hv,aL,j,J,aw⟩:=h;exact⟨b,hv,aL,j,key J,aw⟩
 |cZ t cells=>obtain⟨b,cs,j,J,aw⟩:=h;exact⟨b,cs,j,key J,aw⟩
 |jA t l=>obtain⟨b,cs,j,J,aw⟩:=h;exact⟨b,cs,j,key J,aw⟩
 |gone=>exact h
 |fd=>exact h
 |ax z g s rows=>
  rcases h with aw|⟨b,cs,elem,bl,bb,bu,dw,gx,gD⟩
  ·exact .inl aw
  ·refine .inr ⟨b,cs,elem,bl,bb,key bu,dw,gx,λ r y aZ=>?_⟩;have:=gD r y aZ;cases y with
   |own bR=>
    obtain⟨bG,bH⟩:=this;refine⟨bG,?_⟩;rcases bH with bH|⟨b,xk,zC,bl,ch,cw,fl,jb⟩
    ·exact .inl bH
    ·exact .inr ⟨b,xk,zC,bl,ch,cw,key fl,jb⟩
   |dG q=>exact this
   |dead=>exact this
def Wc{aj:Obj}(aq:b6 E ad ac H w):b6 E ad ac H (w.alloc aj):=
 ⟨λ b r_ h=>(z1 w aj _ (oS (aq.dT b r_ h))).trans (aq.dT b r_ h),λ c x h=>am1 (aq.b7 c x h),aq.inj,
  λ c b n h=>by have:=aq.sep c b n h;exact⟨this.1,by rw[OI];omega,this.2.2⟩,aq.e_⟩
def Wd{sq:cb}{sr:b9}{gW:World}{aj:Obj}(T:Trans sq sr gW ad ac w):Trans sq sr gW ad ac (w.alloc aj):=
 ⟨T.os,T.tape,T.output,by rw[OI];have:=T.size;omega,λ b ak aF=>(z1 w aj b (by have:=T.size;omega)).trans (T.frame b ak aF),T.dT,T.q2,T.own⟩
def We{cV:Nat}{cI:List Deferred}{aj:Obj}(h:lu cV ad ac w cI):lu cV ad ac (w.alloc aj) cI:=by obtain⟨l3,j,J,aw⟩:=h;refine⟨l3,j,J,λ D lS=>?_⟩;obtain⟨bG,bH,cG⟩:=aw D lS;exact⟨bG,(z1 w aj _ (oS bH)).trans bH,cG⟩
def Wf{fN:World}(aq:b6 E ad ac H w)(ak:Jp w.heap.size w fN):b6 E ad ac H fN:=by
 have hold:=ak.block;refine⟨λ b aj h=>?_,λ c x al=>(aq.b7 c x al).mono (λ _=>rfl) (λ _ _ h=>h) (fb.refl _ _ _) λ r b n h=>hold b (aq.sep _ _ _ h).2.1,aq.inj,λ c b n h=>?_,aq.e_⟩
 ·have:=aq.dT b aj h;rw[hold b (oS this)];exact this
 ·obtain⟨j,J,aw⟩:=aq.sep _ _ _ h;exact⟨j,xf J ak.size,aw⟩
def Wg{sq:cb}{sr:b9}{gW fN:World}(T:Trans sq sr gW ad ac w)(ak:Jp w.heap.size w fN):Trans sq sr gW ad ac fN:=
 ⟨ak.os.trans T.os,ak.tape.trans T.tape,ak.output.trans T.output,sd T.size ak.size,λ b js aF=>(ak.block b (by have:=T.size;omega)).trans (T.frame b js aF),T.dT,T.q2,T.own⟩
def Wh{cV:Nat}{cI:List Deferred}{fN:World}(h:lu cV ad ac w cI)(ak:Jp w.heap.size w fN):lu cV ad ac fN cI:=by obtain⟨l3,j,J,aw⟩:=h;refine⟨l3,j,J,λ D lS=>?_⟩;obtain⟨bG,bH,cG⟩:=aw D lS;exact⟨bG,(ak.block _ (oS bH)).trans bH,cG⟩
def Wi(aq:b6 E ad ac H w){b:Nat}(ak:w.heap.size≤b):sp ad ac b:=by
 refine⟨?_,λ c n e=>?_⟩
 ·cases aA:ad b with
  |none=>rfl
  |some aj=>have:=oS (aq.dT b aj aA);omega
 ·have:=(aq.sep c b n e).2.1;omega
def Wj{sq:cb}{sr:b9}{gW:World}{gV:Nat}{fn:Func}{tmps:Array Value}{aW:Ending→World→Prop}:∀(l3:List Nat) (w:World),b6 E ad ac H w→Trans sq sr gW ad ac w→l3.Nodup→
  (∀D∈l3,gW.heap.size≤D∧w.heap[D]?=some (.deferred (some []))∧sp ad ac D)→
  (∀ar,b6 E ad ac H ar→Trans sq sr gW ad ac ar→∃v,(results fn tmps).run E.P ar=.ok v ar∧aW (.returned v) ar)→LeavesInM (pH none) gV E.P fn tmps aW (l3.map tf) .returning w
 |[],w,aq,T,_,_,dc=>dc w aq T
 |D::l3,w,aq,T,aF,lS,dc=>by obtain⟨bG,bH,cG⟩:=lS D (.head _);have Ca:=Fj.1 aF;refine⟨by simp,.inl ⟨D,_,rfl,run_takeDeferred bH,?_⟩⟩;refine Wj l3 _ (zY aq cG) (zZ T bG) Ca.2 (λ ME Wk=>?_) dc;obtain⟨vN,tg,vO⟩:=lS ME (.tail _ Wk);exact⟨vN,(FP (by rintro rfl;exact Ca.1 Wk)).trans tg,vO⟩
def Jq(E:Env)(n:Nat):Prop:=∀(ro:Option Nat) (gV cV:Nat) B f c I H ex bN ap,exec E n B f c I H=some (ex,bN,ap)→∀ad ac w a Q,codeOk E f a.tmps.size c=true→(ro=none∨lP c=true)→E.P.follows .mixedOrders=true→b6 E ad ac H w→e1 ad ac H I a.tmps→
 lu cV ad ac w a.defers→cV≤w.heap.size→
 (∀bY ar,bY.tmps.size=a.tmps.size→oR E B ad ac H w ap ar (λ aN aC=>e1 aN aC ap bN bY.tmps∧lu cV aN aC ar bY.defers)→Q (OD ex) bY ar)→c.wpIn (pH ro) gV E.P Q a w
def Wl(E:Env)(n:Nat):Prop:=∀(ro:Option Nat) (gV cV:Nat) B f c I H ex bN ap,exec E n B f (.loop c) I H=some (ex,bN,ap)→∀ad ac w a Q,codeOk E f a.tmps.size c=true→(ro=none∨lP c=true)→E.P.follows .mixedOrders=true→b6 E ad ac H w→e1 ad ac H I a.tmps→
 lu cV ad ac w a.defers→cV≤w.heap.size→
 (∀bY ar,bY.tmps.size=a.tmps.size→oR E B ad ac H w ap ar (λ aN aC=>e1 aN aC ap bN bY.tmps∧lu cV aN aC ar bY.defers)→Q (OD ex) bY ar)→Code.roundsIn (pH ro) gV E.P c Q n a w
def Jr(b:Nat):Value:=.pointer (some ⟨b,0,none⟩)
def am2(P:Program)(g:FuncId)(L:List (List aD)→Option (List U)):Prop:=∀(l gV:Nat) (nV:List (List aD)) (xs:List U) (mY:List Nat) (ad:cb) (vP:Nat→World→Prop) (Cp:World→Prop) (W:World),L nV=some xs→mY.length=nV.length→
 (∀(k b:Nat) (cs:List aD),mY[k]?=some b→nV[k]?=some cs→∀(m:Nat) (a:aD),cs[m]?=some a→∃v,W.cell? ⟨b,m,none⟩=some v∧ds ad a v)→
 (∀ab W,vP ab W→∀b aj,ad b=some aj→W.heap[b]?=some aj)→
 (∀ab W k,vP ab W→vP ab {W with drawn:=k})→(∀W k,Cp W→Cp {W with drawn:=k})→
 (∀ab W lv,vP ab W→Jp W.heap.size W lv→vP ab lv)→(∀W lv,Cp W→Jp W.heap.size W lv→Cp lv)→
 (∀m ab y x W,xs[ab]?=some y→a7 ad (λ _=>none) [] y x→vP ab W→YieldAt Fence.wide m P l #[x] W λ e lv=>(e=.returned (.bool true)∧vP (ab+1) lv)∨(e=.returned (.bool false)∧Cp lv))→
 vP 0 W→CallsIn Fence.wide gV P g (#[.func (.yield l) #[] #[]]++(mY.map Jr).toArray) W λ e lv=>(∃v,e=.returned v)∧(vP xs.length lv∨Cp lv)
def Cq(E:Env):Prop:=∀g L,E.seq g=some L→li E g=true∧am2 E.P g L
def noSeq(h:∀f,E.seq f=none):Cq E:=λ f g aP=>by rw[h]at aP;cases aP
def Wm:∀(cells:List U) (l:List aD),kS cells=some l→∀(m:Nat) (x:aD),l[m]?=some x→cells[m]?=some (.i x)
 |[],l,h,m,x,al=>by simp only[kS,bj]at h;subst h;simp at al
 |a::r,l,h,m,x,al=>by
  unfold kS at h;split at h
  ·rename_i aV;cases aV
  ·rename_i eQ ix aV;cases aV;simp only[c0]at h;obtain⟨fs,j,rfl⟩:=h;cases m with
   |zero=>simpa using al
   |succ m=>simpa using Wm r fs j m x (by simpa using al)
  ·cases h
def Wn(aq:b6 E ad ac H w):∀(fy:List U) (nV:List (List aD)) (vs:List Value),sa H fy=some nV→vs.length=fy.length→(∀(k:Nat) (a:U),fy[k]?=some a→a7 ad ac H a (vs.getD k undef))→
  ∃mY:List Nat,vs=mY.map Jr∧mY.length=nV.length∧(∀b∈mY,b<w.heap.size)∧∀(k b:Nat) (cs:List aD),mY[k]?=some b→nV[k]?=some cs→∀(m:Nat) (a:aD),cs[m]?=some a→∃v,w.cell? ⟨b,m,none⟩=some v∧ds ad a v
 |[],nV,vs,h,an,_=>by simp only[sa,bj]at h;subst h;exact⟨[],qe.1 an,rfl,(λ b h=>by cases h),λ k b cs h=>by simp at h⟩
 |a::r,nV,vs,h,an,ai=>by
  unfold sa at h;split at h
  ·rename_i aV;cases aV
  ·rename_i c g ix aV;cases aV;split at h
   ·rename_i cells ah;split at h
    ·rename_i aRu am3 aA xq;cases h;cases vs with
     |nil=>simp at an
     |cons v vs=>
      obtain⟨mY,ao,aI,c6,bE⟩:=Wn aq r am3 vs xq (by simpa using an) λ k a aB=>by simpa using ai (k+1) a aB
      have aV:=ai 0 _ rfl;obtain⟨b,cs,elem,bl,bG,bH,cG,eZ,l1⟩:=aq.b7 _ _ ah;have bi:v=Jr b:=by
       cases aV with
       |ptr _ _ _ _ _ _ ak=>obtain⟨bV,dO,ch,cw⟩:=ak _ ah;rw[bG]at ch;cases ch;exact cw
      refine⟨b::mY,by rw[bi,ao];rfl,by simp[aI],λ bV js=>?_,λ k bV eG ak eX m a aB=>?_⟩
      ·rcases mU.1 js with rfl|js
       ·exact oS bH
       ·exact c6 _ js
      cases k with
      |zero=>
       simp only[qn,bj]at ak eX;subst ak eX;have el:=Wm cells _ aA m a aB;have bf:m<cs.size:=by rw[eZ];exact(bF.1 el).1
       refine⟨cs[m],by simp[sf,bH,bf],?_⟩;have:=iI (l1 m _ el);rwa [dp,q9 bf,iM]at this
      |succ k=>exact bE k bV eG (by simpa using ak) (by simpa using eX) m a aB
    ·cases h
   ·cases h
  ·cases h
def OJ:eD→Option Code
 |.normal=>none
 |.ret=>some .ret
 |.exit id=>some (.exit id)
def Wo:∀{l m:List Nat},l.map tf=m.map tf→l=m
 |[],[],_=>rfl
 |[],_::_,h=>by simp at h
 |_::_,[],h=>by simp at h
 |a::l,b::m,h=>by
  simp only[fk,BQ]at h;have j:a=b:=by simpa[tf]using h.1
  rw[j,Wo h.2]
def am4{n:Nat}(hex:Jq E n){m f l:Nat}{nW body:Code}{I:Fr}{bx:aa}{c8:eD}{tmps:Array Value}{ix:Loop}{aW:Ending→World→Prop}
  (h:tO (λ eg c I H=>exec E n eg f c I H) nW body I H=some (c8,bx))(x4:lP nW=true)(z6:lP body=true)(FQ:codeOk E f tmps.size nW=true)(FR:codeOk E f tmps.size body=true)(hm:E.P.follows .mixedOrders=true)
  (aq:b6 E ad ac H w)(aK:e1 ad ac H I tmps)(an:w.heap[l]?=some (.loop ix))(ai:ix.state=.ready)(n7:sp ad ac l)
  (dc:∀jK jL rs,b6 E jK jL bx rs→(∃e2 ez fN,Trans ad ac w e2 ez fN∧Trans e2 ez (fN.putObj l (.loop {ix with state:=.busy})) jK jL rs)→zV H.length ad ac H jK jL bx→rs.heap[l]?=some (.loop {ix with state:=.busy})→sp jK jL l→
   ∃v ar,(Instr.endRound l (OJ c8)).run E.P rs=.ok v ar∧aW (.returned v) ar):
  nW.wpIn (pH (some l)) m E.P (Exit.then (λ am5 am6=>∃Wp,(Instr.beginRound l).run E.P am6=.ok () Wp∧body.wpIn (pH (some l)) m E.P (roundPost E.P l aW) am5 Wp) (λ _ _ _=>False)) {tmps:=tmps,defers:=[]} w:=by
 unfold tO at h;split at h
 ·rename_i lO H1 am7;split at h
  ·rename_i e dI am8 am9;simp only[bj,bA]at h;obtain⟨rfl,rfl⟩:=h;refine hex (some l) m 0 H.length f nW I H .normal lO H1 am7 ad ac w _ _ FQ (.inr x4) hm aq aK (Wb _ _ _ _) (ig _) λ hC fN am_ I2=>?_
   obtain⟨e2,ez,bG,bH,cG,eZ,l1⟩:=I2;have hx:=Jo n7 an bH;have mw:=OH n7 (oS an) bH;refine⟨_,run_beginRound hx ai,?_⟩;refine hex (some l) m 0 H.length f body lO H1 e dI am8 am9 e2 ez _ hC _ (by rw[am_];exact FR) (.inr z6) hm (zY bG mw) eZ (zW l1 hx _) (ig _) λ a3 rs Wq am'=>?_
   obtain⟨jK,jL,vN,tg,vO,Cr,aRv⟩:=am';have jJ:(fN.putObj l (.loop {ix with state:=.busy})).heap[l]?=some (.loop {ix with state:=.busy}):=World.putObj_heap_same (oS hx);have:=dc jK jL rs vN ⟨e2,ez,fN,bH,tg⟩ (cG.trans vO) (Jo mw jJ tg) (OH mw (oS jJ) tg);cases e<;>exact this
  ·cases h
 ·cases h
def ana{n:Nat}(hex:Jq E n)(hseq:Cq E){gV cV B f p:Nat}{g:Operand}{nW body:Code}{I bN:Fr}{ap:aa}{ex:eD}{xs:List U}{a:Act}{Q:Exit→Act→World→Prop}
  (aS:Bx E H (bo E I g)=some xs)(h:oC (tO (λ eg c I H=>exec E n eg f c I H) nW body) p I xs H=some (ex,bN,ap))
  (av:p<a.tmps.size)(x4:lP nW=true)(z6:lP body=true)(FQ:codeOk E f a.tmps.size nW=true)(FR:codeOk E f a.tmps.size body=true)(hm:E.P.follows .mixedOrders=true)(aq:b6 E ad ac H w)(aK:e1 ad ac H I a.tmps)
  (jh:lu cV ad ac w a.defers)(oT:cV≤w.heap.size)
  (eY:∀bY ar,bY.tmps.size=a.tmps.size→oR E B ad ac H w ap ar (λ aN aC=>e1 aN aC ap bN bY.tmps∧lu cV aN aC ar bY.defers)→Q (OD ex) bY ar):(Code.rangeFunc g #[p] nW body).wpIn (pH none) gV E.P Q a w:=by
 unfold Bx at aS;split at aS
 ·rename_i Js Wr rm;split at aS
  ·rename_i L Ws fh j7;have anb:=aS;obtain⟨pG,oU⟩:=hseq Js L fh;have rg:=eK aq aK g;rw[rm]at rg;generalize aZ:a.eval g=y at rg;cases rg with
   |aR _ _ _ eP cs anc eX _ xq=>
   have ane:eP=#[]:=Array.size_eq_zero_iff.1 (by simpa using anc);subst ane;have OK:∀(k:Nat) (a:U),Wr[k]?=some a→a7 ad ac H a (cs.toList.getD k undef):=λ k a aB=>by have:=xq k a aB;rw[oV,mW,←dp];exact this
   obtain⟨mY,ao,aI,FSq,bE⟩:=Wn aq Wr Ws cs.toList j7 (by simpa using eX) OK;have N3:∃fn,E.P.funcs[Js]?=some fn∧fn.body.isSome=true∧(fn.name== "runtime.NumGoroutine")=false:=by
    unfold li at pG;split at pG
    ·rename_i fn qq;simp only[cO,rj]at pG;exact⟨fn,qq,pG.1,pG.2⟩
    ·cases pG
   obtain⟨OL,anf,aRw,ang⟩:=N3;have js:¬OL.body=none:=by cases fg:OL.body<;>simp_all
   have Ca:¬OL.name= "runtime.NumGoroutine":=by simpa using ang
   refine wpIn_rangeFunc ?_;intro fn qq;obtain⟨rec,ru⟩:∃rec:LoopState→Option Code→Loop,rec=λ bK b5=>{state:=bK,pending:=b5,fn,tmps:=a.tmps,params:=#[p],assign:=nW,body,defers:=w.heap.size}:=⟨_,rfl⟩
   obtain⟨rv,z7⟩:∃rv,(w.alloc (.deferred (some []))).alloc (.loop (rec .ready none))=rv:=⟨_,rfl⟩;have anh:rv.heap[w.heap.size+1]?=some (.loop (rec .ready none)):=by rw[←z7];have:=World.alloc_heap_new (w.alloc (.deferred (some []))) (.loop (rec .ready none));rwa [OI]at this
   have I0:rv.heap[w.heap.size]?=some (.deferred (some [])):=by rw[←z7];exact(z1 _ _ _ (by simp)).trans (World.alloc_heap_new w _)
   have dt:b6 E ad ac H rv:=by rw[←z7];exact Wc (Wc aq)
   have lW:Trans ad ac w ad ac rv:=by rw[←z7];exact Wd (Wd (Trans.refl _ _ _))
   have ani:lu cV ad ac rv (tf w.heap.size::a.defers):=by
    obtain⟨l3,m1,m2,m3⟩:=(by rw[←z7];exact We (We jh):lu cV ad ac rv a.defers);refine⟨w.heap.size::l3,by rw[m1];rfl,Fj.2 ⟨λ Wt=>?_,m2⟩,λ D lS=>?_⟩
    ·obtain⟨aRx,ch,_,fl⟩:=jh;rw[Wo (m1.symm.trans ch)]at Wt;have:=oS (fl _ Wt).2.1;omega
    ·rcases mU.1 lS with rfl|lS
     ·exact⟨oT,I0,Wi aq (cQ _)⟩
     ·exact m3 D lS
   refine⟨w.heap.size+1,[tf w.heap.size],rv,{target:=.fn (.func Js) cs,args:=#[.func (.yield (w.heap.size+1)) #[] #[]]},rv,Js,
    #[.func (.yield (w.heap.size+1)) #[] #[]]++cs,rv,?_,?_,λ _ _=>trivial,?_,λ h=>(by cases h),?_⟩
   ·rw[←z7,ru];exact run_enterLoop_outer _ _ _ _ _
   ·simp only[resolve,aZ];have l2:a.eval (.const (.func (.yield (w.heap.size+1)) #[] #[]))=.func (.yield (w.heap.size+1)) #[] #[]:=rfl;simp[Deferred.ofValue,l2]
   ·simp[invoke,callFunc,anf,Ca,js]
   ·have n7:sp ad ac (w.heap.size+1):=Wi aq R;have pD:(#[.func (.yield (w.heap.size+1)) #[] #[]]++cs:Array Value)=#[.func (.yield (w.heap.size+1)) #[] #[]]++(mY.map Jr).toArray:=by rw[←ao]
    rw[pD];refine(oU (w.heap.size+1) (gV-1) Ws xs mY ad
     (λ ab W=>∃aN aC ry,b6 E aN aC ry W∧Trans ad ac w aN aC W∧fb ad ac H aN aC ry∧oC (tO (λ eg c I H=>exec E n eg f c I H) nW body) p I (xs.drop ab) ry=some (ex,bN,ap)∧
      lu cV aN aC W (tf w.heap.size::a.defers)∧W.heap[w.heap.size+1]?=some (.loop (rec .ready none))∧sp aN aC (w.heap.size+1))
     (λ W=>∃aN aC c,OJ ex=some c∧bN=I∧b6 E aN aC ap W∧Trans ad ac w aN aC W∧fb ad ac H aN aC ap∧lu cV aN aC W (tf w.heap.size::a.defers)∧
      W.heap[w.heap.size+1]?=some (.loop (rec .done (some c)))∧sp aN aC (w.heap.size+1))
     rv anb aI ?_ ?_ ?_ ?_ ?_ ?_ ?_ ⟨ad,ac,H,dt,lW,fb.refl _ _ _,by rw[iy];exact h,ani,anh,n7⟩).mono ?_
    ·intro k b eG ak anj m x al;obtain⟨v,ch,cw⟩:=bE k b eG ak anj m x al;refine⟨v,?_,cw⟩;have az:rv.heap[b]?=w.heap[b]?:=by have pA:=FSq b (jG ak);rw[←z7];exact(z1 _ _ _ (by rw[OI];omega)).trans (z1 _ _ _ pA)
     simpa[sf,az]using ch
    ·rintro ab W ⟨aN,aC,ry,ca,cc,_⟩ b aj ak;exact ca.dT b aj (cc.dT b aj ak)
    ·rintro ab W k ⟨aN,aC,ry,ca,cc,c3,c5,lr,l4,oW⟩;exact⟨aN,aC,ry,Jk ca k,⟨cc.os,cc.tape,cc.output,cc.size,cc.frame,cc.dT,cc.q2,cc.own⟩,c3,c5,lr,l4,oW⟩
    ·rintro W k ⟨aN,aC,c,gA,FT,ca,cc,c3,lr,l4,oW⟩;exact⟨aN,aC,c,gA,FT,Jk ca k,⟨cc.os,cc.tape,cc.output,cc.size,cc.frame,cc.dT,cc.q2,cc.own⟩,c3,lr,l4,oW⟩
    ·rintro ab W lv ⟨aN,aC,ry,ca,cc,c3,c5,lr,l4,oW⟩ ak;exact⟨aN,aC,ry,Wf ca ak,Wg cc ak,c3,c5,Wh lr ak,(ak.block _ (oS l4)).trans l4,oW⟩
    ·rintro W lv ⟨aN,aC,c,gA,FT,ca,cc,c3,lr,l4,oW⟩ ak;exact⟨aN,aC,c,gA,FT,Wf ca ak,Wg cc ak,c3,Wh lr ak,(ak.block _ (oS l4)).trans l4,oW⟩
    ·rintro m ab OM x W al ank ⟨aN,aC,ry,ca,cc,c3,c5,lr,l4,oW⟩;have jO:=(bF.1 al).1;rw[ji jO,(bF.1 al).2]at c5;have ON:=run_yield (P:=E.P) (args:=#[x]) l4 (by rw[ru];rfl);have n2:(rec .ready none).fn=fn∧(rec .ready none).tmps=a.tmps∧(rec .ready none).params=#[p]∧(rec .ready none).assign=nW∧(rec .ready none).body=body:=by rw[ru];exact⟨rfl,rfl,rfl,rfl,rfl⟩
     obtain⟨iJ,tS,OO,Fv,anl⟩:=n2;rw[iJ,tS,OO,Fv,anl]at ON;have anm:((#[p]:Array Tmp).zip #[x]).foldl (λ tmps (t,a)=>tmps.setIfInBounds t a) a.tmps=a.tmps.setIfInBounds p x:=by simp
     rw[anm]at ON;refine⟨fn,_,nW,body,ON,roundIn_of_wpIn qq ?_⟩;simp only[oC]at c5;have gN:e1 aN aC ry ((p,OM)::I) (a.tmps.setIfInBounds p x):=by have j:e1 aN aC ry I ({tmps:=a.tmps,defers:=[]}:Act).tmps:=aK.mono c3;exact j.put (v:=OM) (x:=x) (mV cc.dT (ig _) (λ c ah=>absurd ah (rz _)) _ _ ank) (some p) (λ k az=>by cases az;exact av)
     cases OP:tO (λ eg c I H=>exec E n eg f c I H) nW body ((p,OM)::I) ry with
     |none=>rw[OP]at c5;cases c5
     |some q=>
      obtain⟨c8,bx⟩:=q;rw[OP]at c5;refine am4 hex OP x4 z6 (by simpa using FQ) (by simpa using FR) hm ca gN l4 (by rw[ru]) oW λ jK jL rs g1 g2 g3 g4 g5=>?_
      obtain⟨e2,ez,fN,t1,t2⟩:=g2;have du:Trans ad ac w jK jL rs:=(zZ (l:=w.heap.size+1) (cc.trans t1) R).trans t2;have hx:=Jo oW l4 t1;have OQ:lu cV jK jL rs (tf w.heap.size::a.defers):=FO (zW (FO lr t1) hx _) t2;have OR:fb ad ac H jK jL bx:=λ a v r=>g3 a v (rb (c3 a v r)) (c3 a v r)
      have Wu:=run_endRound (P:=E.P) (OJ c8) g4;rw[ru]at Wu;refine⟨_,_,Wu,?_⟩;have oL:∀aj,(rs.putObj (w.heap.size+1) aj).heap[w.heap.size+1]?=some aj:=λ aj=>World.putObj_heap_same (oS g4)
      cases c8 with
      |normal=>simp only at c5;refine .inl ⟨rfl,jK,jL,bx,zY g1 g5,zZ du R,OR,c5,zW OQ g4 _,?_,g5⟩;rw[oL,ru];rfl
      |ret=>simp only[bj,bA]at c5;obtain⟨rfl,rfl,rfl⟩:=c5;refine .inr ⟨rfl,jK,jL,.ret,rfl,rfl,zY g1 g5,zZ du R,OR,zW OQ g4 _,?_,g5⟩;rw[oL,ru];rfl
      |exit id=>simp only[bj,bA]at c5;obtain⟨rfl,rfl,rfl⟩:=c5;refine .inr ⟨rfl,jK,jL,.exit id,rfl,rfl,zY g1 g5,zZ du R,OR,zW OQ g4 _,?_,g5⟩;rw[oL,ru];rfl
    ·rintro e Jt ⟨⟨v,rfl⟩,(⟨aN,aC,ry,ca,cc,c3,c5,lr,l4,oW⟩|⟨aN,aC,c,gA,FT,ca,cc,c3,lr,l4,oW⟩)⟩
     ·rw[nd]at c5;simp only[oC,bj,bA]at c5;obtain⟨rfl,rfl,rfl⟩:=c5;refine⟨none,_,by have:=run_endLoop (P:=E.P) l4 (by rw[ru];simp);rw[ru]at this;exact this,?_⟩;refine eY _ _ rfl ⟨aN,aC,zY ca oW,zZ cc R,λ a v _ r=>c3 a v r,aK.mono c3,zW lr l4 _⟩
     ·subst FT;refine⟨some c,_,by have:=run_endLoop (P:=E.P) l4 (by rw[ru];simp);rw[ru]at this;exact this,?_⟩;have bn:=eY {a with defers:=[tf w.heap.size]++a.defers} (Jt.putObj (w.heap.size+1) (.loop {rec .done (some c)with state:=.exhausted})) rfl ⟨aN,aC,zY ca oW,zZ cc R,λ a v _ r=>c3 a v r,aK.mono c3,zW lr l4 _⟩;rw[ru]at bn;cases ex with
      |normal=>cases gA
      |ret=>cases gA;exact wpIn_ret bn
      |exit id=>cases gA;exact wpIn_exit bn
  ·cases aS
 ·cases aS
def ann(aq:b6 E ad ac H w){p:U}{y:Value}(h:a7 ad ac H p y){t:TypeId}{v:U}(an:tG E H t p=some v):
  ∃b x,y=.pointer (some b)∧(loadVar t b).run E.P w=.ok x w∧a7 ad ac H v x:=by
 obtain⟨x,j,J⟩:=Tp aq h an;have av:∃b,y=.pointer (some b):=by
  unfold tG at an;split at an
  ·rename_i cells k n ak _ _;obtain⟨b,base,rfl,_⟩:=H4 aq h ak;exact⟨_,rfl⟩
  ·rename_i cells k n ak _ _;obtain⟨b,base,rfl,_⟩:=H4 aq h ak;exact⟨_,rfl⟩
  ·cases an
 obtain⟨b,rfl⟩:=av;exact⟨b,x,rfl,by simpa[Instr.loadAt,zc]using j,J⟩
def Ju(tmps:Array Value):ResultVar→Sem Value
 |.tmp t=>pure (tmps.getD t undef)
 |.cell a t=>do loadVar t (←asAddr (tmps.getD a undef))
def Wv(aq:b6 E ad ac H w){I:Fr}{tmps:Array Value}(aK:e1 ad ac H I tmps):∀(l:List ResultVar) (bI:List U),qW E I H l=some bI→
  ∃xs:List Value,(l.mapM (Ju tmps)).run E.P w=.ok xs w∧xs.length=bI.length∧∀(k:Nat) (a:U),bI[k]?=some a→a7 ad ac H a (xs.toArray.getD k undef)
 |[],bI,h=>by simp only[qW,bj]at h;subst h;exact⟨[],by simp,rfl,λ k a h=>by simp at h⟩
 |r::l,bI,h=>by
  simp only[qW]at h;split at h
  ·rename_i a0 bI j J;simp only[bj]at h;subst h;obtain⟨xs,ao,aI,bE⟩:=Wv aq aK l bI J;have aV:∃x,(Ju tmps r).run E.P w=.ok x w∧a7 ad ac H a0 x:=by
    cases r with
    |tmp t=>simp only[y',bj]at j;subst j;exact⟨_,rfl,aK t⟩
    |cell a t=>simp only[y']at j;obtain⟨b,x,bG,bH,cG⟩:=ann aq (aK a) j;refine⟨x,?_,cG⟩;simp only[Ju,bG,asAddr,dU,eL,ek,bH]
   obtain⟨x,al,rx⟩:=aV;refine⟨x::xs,?_,by simp[aI],λ k a h=>?_⟩
   ·rw[MR,dU,al];simp only[ek,dU,ao,eL]
   ·cases k with
    |zero=>simp at h;subst h;simpa using rx
    |succ k=>simpa using bE k a (by simpa using h)
  ·cases h
def ano(aq:b6 E ad ac H w){I:Fr}{tmps:Array Value}(aK:e1 ad ac H I tmps){fn:Func}{r:U}(h:w_ E I H fn.results.toList=some r):
  ∃v,(results fn tmps).run E.P w=.ok v w∧a7 ad ac H r v:=by
 unfold w_ at h;have key:∀bI,qW E I H fn.results.toList=some bI→∃xs:List Value,(results fn tmps).run E.P w=.ok (if h:xs.toArray.size=1 then xs.toArray[0]else .tuple xs.toArray) w∧xs.length=bI.length∧∀(k:Nat) (a:U),bI[k]?=some a→a7 ad ac H a (xs.toArray.getD k undef):=by intro bI has;obtain⟨xs,ao,aI,bE⟩:=Wv aq aK _ bI has;refine⟨xs,?_,aI,bE⟩;unfold results;rw[dU,Array.mapM_eq_mapM_toList,map_eq_pure_bind,dU];change ((ua E.P (List.mapM (Ju tmps) fn.results.toList) w).andThen _).andThen _=_;rw[ao];rfl
 split at h
 ·rename_i a has;obtain rfl:=qf h;obtain⟨xs,ao,aI,bE⟩:=key _ has;refine⟨_,ao,?_⟩;have al:xs.toArray.size=1:=by simpa using aI
  rw[dif_pos al];have:=bE 0 _ rfl;simpa[dp,al]using this
 ·rename_i bI gp has;cases h;obtain⟨xs,ao,aI,bE⟩:=key _ has;refine⟨_,ao,?_⟩;have al:¬xs.toArray.size=1:=λ j=>by simp only[IG]at j;rw[aI]at j;obtain⟨a,rfl⟩:=Ww.1 j;exact gp a rfl
  rw[dif_neg al];exact .be _ _ (by simpa using aI) bE
 ·cases h
def Wx:∀(l:List U) (ab k:Nat),get (ab+k) (qV ab l)=(l[k]?).getD .dead
 |[],ab,k=>by simp[qV,get]
 |a::l,ab,0=>by simp[qV,get]
 |a::l,ab,k+1=>by have:=Wx l (ab+1) k;rw[show ab+(k+1)=ab+1+k by omega];simp only[qV,get,show¬ab+1+k=ab by omega,if_false];rw[this];simp
def Wy{n:Nat}(hex:Jq E n):n9 E (iH E (exec E n)):=by
 intro f args H r ap h ad ac w vs aq b0;unfold iH at h;split at h
 ·rename_i fn qq;split at h
  ·rename_i c ah;split at h
   ·rename_i hz;obtain⟨xp,hlen⟩:=hz;unfold za at xp;rw[qq]at xp;simp only[ah,cO]at xp;split at h
    ·cases h
    ·rename_i ex I H1 gp al;split at h
     ·rename_i ht ai;refine(callsIn_wide (n:=0)).1 (callsIn_of_wp_marks qq ah trivial ?_ rfl);have ey:(vs++zx (fn.ntmps-vs.size) undef).size=fn.ntmps:=by have:=b0.1;simp;omega
      refine hex none 0 w.heap.size H.length f c _ H ex I H1 al ad ac w _ _ (by rw[ey];exact xp.1) (.inl rfl) xp.2 aq (λ k=>?_) (Wb _ _ _ _) (cQ _) λ bY ar aS anp=>?_
      ·have:=Wx args 0 k;simp only[cq]at this;rw[this];cases az:args[k]? with
       |none=>exact .dead _
       |some b=>
        have j:=b0.2 k b az;have mX:=(bF.1 az).1;have:(vs++zx (fn.ntmps-vs.size) undef).getD k undef=vs.getD k undef:=by rw[dp,xI (by rw[b0.1];exact mX),←dp]
        rw[this];exact j
      ·obtain⟨e2,ez,bG,bH,cG,eZ,l3,m1,m2,m3⟩:=anp;have Cs:LeavesInM Fence.wide 0 E.P fn bY.tmps (λ e ar=>∃x,e=.returned x∧cl E ad ac H w ap ar λ aN aC=>a7 aN aC ap r x) bY.defers .returning ar:=by
        rw[m1];refine Wj (gW:=w) (sq:=ad) (sr:=ac) l3 ar bG bH m2 m3 λ q3 ie gT=>?_
        obtain⟨v,bi,jf⟩:=ano ie eZ ai;obtain⟨jK,jL,vN,tg,vO,Cr⟩:=amZ ie (B:=H.length) h jf;exact⟨v,bi,v,rfl,jK,jL,vN,gT.trans tg,λ a v r=>vO a v (rb r) (cG a v (rb r) r),Cr⟩
       cases ex with
       |normal=>exact Cs
       |ret=>exact Cs
       |exit id=>exact(gp id rfl).elim
     ·cases h
    ·cases h
   ·cases h
  ·cases h
 ·cases h
def anq(tb:zJ E)(hseq:Cq E)(hmk:zK E):∀n,Jq E n∧Wl E n:=by
 intro n;induction n with
 |zero=>exact⟨λ ro gV cV B f c I H ex bN ap h=>by simp[exec]at h,λ ro gV cV B f c I H ex bN ap h=>by simp[exec]at h⟩
 |succ n a8=>
  obtain⟨ss,anr⟩:=a8;have cg:n9 E (gn E (iH E (exec E n))):=alz hmk (alk (Wy ss) tb);have loop:Wl E (n+1):=by
   intro ro gV cV B f c I H ex bN ap h ad ac w a Q jj je hm aq aK jh oT eY;rw[roundsIn_succ];simp only[exec]at h;obtain⟨ej,dY,oK,gP,na,Jn⟩:=amW B (f:=f) (id:=(fJ c).getD 0) aq aK;split at h
   ·rename_i lO H1 j;refine ss ro gV cV B f c _ _ _ lO H1 j ej dY w a _ jj je hm oK Jn (FO jh gP) oT λ bY ar aS b0=>?_
    obtain⟨e2,ez,bG,bH,cG,eZ,l1⟩:=b0;refine anr ro gV cV B f c lO H1 ex bN ap h e2 ez ar bY Q (by rw[aS];exact jj) je hm bG eZ l1 (sd oT bH.size) λ OS q3 po OT=>?_
    obtain⟨jK,jL,vN,tg,vO,Cr⟩:=OT;exact eY OS q3 (po.trans aS) ⟨jK,jL,vN,gP.trans (bH.trans tg),na.trans (cG.trans vO),Cr⟩
   ·rename_i gp;refine ss ro gV cV B f c _ _ ex bN ap h ej dY w a _ jj je hm oK Jn (FO jh gP) oT λ bY ar aS b0=>?_
    obtain⟨e2,ez,bG,bH,cG,eZ⟩:=b0;have:=eY bY ar aS ⟨e2,ez,bG,gP.trans bH,na.trans cG,eZ⟩;cases ex with
    |normal=>exact absurd h (gp _ _)
    |exit id=>exact this
    |ret=>exact this
  refine⟨?_,loop⟩;intro ro gV cV B f c I H ex bN ap h ad ac w a Q jj je hm aq aK jh oT eY;cases c with
  |skip=>simp only[exec,bj,bA]at h;obtain⟨rfl,rfl,rfl⟩:=h;exact wpIn_skip (eY a w rfl ((cl.refl aq aK).zX jh rfl))
  |label l=>simp only[exec,bj,bA]at h;obtain⟨rfl,rfl,rfl⟩:=h;exact wpIn_label (eY a w rfl ((cl.refl aq aK).zX jh rfl))
  |ret=>simp only[exec,bj,bA]at h;obtain⟨rfl,rfl,rfl⟩:=h;exact wpIn_ret (eY a w rfl ((cl.refl aq aK).zX jh rfl))
  |exit id=>simp only[exec,bj,bA]at h;obtain⟨rfl,rfl,rfl⟩:=h;exact wpIn_exit (eY a w rfl ((cl.refl aq aK).zX jh rfl))
  |region id ops draw=>
   simp only[codeOk,cO,xv,rj]at jj;have pI:Cc a.tmps.size ops.toList:=by intro aj b' d aM;have:=(oH.1 jj.1) aj b';rw[aM]at this;simpa using this
   cases draw with
   |false=>
    simp only[exec]at h;split at h
    ·rename_i lO H1 j;simp only[bj,bA]at h;obtain⟨rfl,rfl,rfl⟩:=h;refine wpIn_region_list (N5 cg ops.toList j aq aK pI λ bY ar kb aS b0=>eY bY ar aS ((b0.imp λ aN aC _ _ h=>h.H0 _).zX jh kb))
    ·cases h
   |true=>
    simp only[exec]at h;cases FU:E.p7 f id with
    |true=>
     rw[FU]at h jj;simp only at h jj;split at h
     ·rename_i lO H1 eE j;split at h
      ·rename_i az;simp only[bj,bA]at h;obtain⟨rfl,rfl,rfl⟩:=h;have aM:=jj.2.resolve_left (by simp);simp only[cO]at aM;refine amI cg j az aM.1 aM.2 hm aq aK pI λ bY ar iQ he kb aS b0=>eY bY ar aS ((b0.imp λ aN aC _ _ h=>(VZ he h).H0 _).zX jh kb)
      ·cases h
     ·cases h
    |false=>
    rw[FU]at h jj;simp only at h jj;split at h
    ·rename_i lO H1 eE j;split at h
     ·rename_i az;simp only[bj,bA]at h;obtain⟨rfl,rfl,rfl⟩:=h;have aM:=jj.2.resolve_left (by simp);simp only[cO]at aM;refine amF cg j az aM.1 aM.2 hm aq aK pI λ bY ar iQ he kb aS b0=>eY bY ar aS ((b0.imp λ aN aC _ _ h=>(VZ he h).H0 _).zX jh kb)
     ·cases h
    ·cases h
  |seq x y=>
   simp only[codeOk,cO]at jj;simp only[exec]at h;refine wpIn_seq ?_;have FV:ro=none∨lP x=true:=je.imp id λ h=>by simp only[lP,cO]at h;exact h.1
   have ans:ro=none∨lP y=true:=je.imp id λ h=>by simp only[lP,cO]at h;exact h.2
   split at h
   ·rename_i lO H1 j;refine ss ro gV cV B f x _ H _ lO H1 j ad ac w a _ jj.1 FV hm aq aK jh oT λ bY ar aS b0=>?_
    obtain⟨e2,ez,bG,bH,cG,eZ,l1⟩:=b0;refine ss ro gV cV B f y lO H1 ex bN ap h e2 ez ar bY Q (by rw[aS];exact jj.2) ans hm bG eZ l1 (sd oT bH.size) λ OS q3 po OT=>?_
    obtain⟨jK,jL,vN,tg,vO,Cr⟩:=OT;exact eY OS q3 (po.trans aS) ⟨jK,jL,vN,bH.trans tg,cG.trans vO,Cr⟩
   ·rename_i gp;refine ss ro gV cV B f x _ H ex bN ap h ad ac w a _ jj.1 FV hm aq aK jh oT λ bY ar aS b0=>?_
    have:=eY bY ar aS b0;cases ex with
    |normal=>exact absurd h (gp _ _)
    |exit id=>exact this
    |ret=>exact this
  |cond c x y=>
   simp only[codeOk,cO]at jj;simp only[exec]at h;split at h
   ·rename_i ak;exact wpIn_cond_true (V0 aq aK ak) (ss ro gV cV B f x I H ex bN ap h ad ac w a Q jj.1 (je.imp id λ h=>by simp only[lP,cO]at h;exact h.1) hm aq aK jh oT eY)
   ·rename_i ak;exact wpIn_cond_false (V0 aq aK ak) (ss ro gV cV B f y I H ex bN ap h ad ac w a Q jj.2 (je.imp id λ h=>by simp only[lP,cO]at h;exact h.2) hm aq aK jh oT eY)
   ·cases h
  |block id c=>
   simp only[codeOk]at jj;simp only[exec]at h;refine wpIn_block ?_;have FV:ro=none∨lP c=true:=je;split at h
   ·rename_i ab lO H1 j;refine ss ro gV cV B f c I H _ lO H1 j ad ac w a _ jj FV hm aq aK jh oT λ bY ar aS b0=>?_
    show Exit.inBlock id Q (.exit ab) bY ar;unfold Exit.inBlock;split at h
    ·rename_i a';simp only[bj,bA]at h;obtain⟨rfl,rfl,rfl⟩:=h;simp only[a',if_true];exact eY bY ar aS b0
    ·rename_i a';simp only[bj,bA]at h;obtain⟨rfl,rfl,rfl⟩:=h;simp only[a',if_false];exact eY bY ar aS b0
   ·rename_i gp;refine ss ro gV cV B f c I H ex bN ap h ad ac w a _ jj FV hm aq aK jh oT λ bY ar aS b0=>?_
    have:=eY bY ar aS b0;cases ex with
    |normal=>exact this
    |exit id=>exact absurd h (gp _ _ _)
    |ret=>exact this
  |loop c=>simp only[codeOk]at jj;exact wpIn_loop_rounds _ (loop ro gV cV B f c I H ex bN ap h ad ac w a Q jj je hm aq aK jh oT eY)
  |scope c=>
   simp only[codeOk]at jj;simp only[exec]at h;rcases je with rfl|je
   ·refine wpIn_wide.2 (wp_scope_straight (wpIn_wide.1 (ss none gV cV B f c I H ex bN ap h ad ac w a _ jj (.inl rfl) hm aq aK jh oT λ bY ar aS b0=>?_)));have:=eY bY ar aS b0;cases ex<;>exact this
   ·cases je
  |rangeFunc g bm x y=>
   simp only[codeOk,cO,oH,decide_eq_true_eq]at jj;obtain⟨⟨x5,x4,z6⟩,FQ,FR⟩:=jj;rcases je with rfl|je
   ·simp only[exec]at h;split at h
    ·rename_i p xs ant aS;have anu:bm=#[p]:=by rw[←Array.toList_inj];exact ant
     subst anu;exact ana ss hseq aS h (x5 p (by simp)) x4 z6 FQ FR hm aq aK jh oT eY
    ·cases h
   ·cases je
  |_=>simp[exec]at h
def anv(tb:zJ E)(hseq:Cq E)(hmk:zK E)(n:Nat):n9 E (call E n):=Wy (anq tb hseq hmk n).1
end
section
variable{E:Env}{aL j9:dD}
def oX(aL j9:dD):Prop:=∀f a H r,aL f a H=some r→j9 f a H=some r
def OU(ex gd:Es):Prop:=∀B f c I H r,ex B f c I H=some r→gd B f c I H=some r
def anw(h:oX aL j9):oX (e0 E aL) (e0 E j9):=by
 intro f a H r ai;unfold e0 at ai⊢;split
 ·rename_i g aP;rw[aP]at ai;exact ai
 ·rename_i aP;rw[aP]at ai;exact h _ _ _ _ ai
def Wz(h:oX aL j9):oX (lg E aL) (lg E j9):=by
 intro f a H r ai;unfold lg at ai⊢;cases av:(ja E f H a)with
 |none=>rw[av]at ai;cases ai
 |some x=>
  obtain⟨bI,H1⟩:=x;rw[av]at ai;simp only at ai⊢;split at ai
  ·cases ai
  ·rename_i ix L ah;rw[anw h _ _ _ _ ah];exact ai
def anx(h:oX aL j9):oX (gn E aL) (gn E j9):=by
 intro f a H r ai;unfold gn at ai⊢;split
 ·rename_i g aP;rw[aP]at ai;exact ai
 ·rename_i aP;rw[aP]at ai;simp only at ai;split
  ·rename_i J;rw[J]at ai;obtain⟨ix,ap⟩:=r;obtain⟨rfl,aw⟩:=Fp ai;rw[Wz h _ _ _ _ aw];exact I7 _
  ·rename_i J;rw[J]at ai;exact Wz h _ _ _ _ ai
def Jv(h:oX aL j9){aj:Op}{I:Fr}{H:aa}{r:U×aa}(ai:ci E aL aj I H=some r):ci E j9 aj I H=some r:=by
 unfold ci at ai⊢;split at ai
 ·split at ai
  ·split at ai
   ·rename_i g bI aP he;rw[if_pos he];exact anx h _ _ _ _ ai
   ·cases ai
  ·cases ai
 ·exact ai
def FW(h:oX aL j9){ops:List Oper}:∀{l:List Oper} {I:Fr} {H:aa} {r:Fr×aa},iu E aL ops l I H=some r→iu E j9 ops l I H=some r
 |[],I,H,r,ai=>ai
 |aj::l,I,H,r,ai=>by
  simp only[iu]at ai⊢;split at ai
  ·split at ai
   ·rename_i v ap bi;rw[Jv h bi];exact FW h ai
   ·cases ai
  ·exact FW h ai
  ·cases ai
def WA(h:oX aL j9){ops:List Oper}{aj:Oper}{I:Fr}{H:aa}{r:Fr×aa×List Nat}(ai:qb E aL ops aj I H=some r):qb E j9 ops aj I H=some r:=by
 unfold qb at ai⊢;split at ai
 ·split at ai
  ·rename_i v ap bi;rw[Jv h bi];exact ai
  ·cases ai
 ·exact ai
 ·cases ai
def Jw(h:oX aL j9){ops:List Oper}:∀{l:List Oper} {I:Fr} {H:aa} {r:Fr×aa×List (List Nat)},hX E aL ops l I H=some r→hX E j9 ops l I H=some r
 |[],I,H,r,ai=>ai
 |aj::l,I,H,r,ai=>by
  simp only[hX]at ai⊢;split at ai
  ·rename_i lO H1 t aS;rw[WA h aS];simp only;split at ai
   ·rename_i dI bx fa bq;rw[Jw h bq];exact ai
   ·cases ai
  ·cases ai
def WB(h:oX aL j9){c:Nat}{aj:Op}{I:Fr}{H:aa}{r:U×aa}(ai:jE E aL c aj I H=some r):jE E j9 c aj I H=some r:=by
 unfold jE at ai⊢;cases aK:dS aj with
 |true=>rw[aK]at ai;exact ai
 |false=>rw[aK]at ai;exact Jv h ai
def FX(h:oX aL j9){ops:List Oper}:∀{l:List Oper} {c:Nat} {I:Fr} {H:aa} {r:Fr×aa×List (List Nat)},iG E aL ops c l I H=some r→iG E j9 ops c l I H=some r
 |[],c,I,H,r,ai=>ai
 |aj::l,c,I,H,r,ai=>by
  simp only[iG]at ai⊢;split at ai
  ·split at ai
   ·rename_i v ap bi;rw[WB h bi];simp only;split at ai
    ·rename_i dI bx fa bq;rw[FX h bq];exact ai
    ·cases ai
   ·cases ai
  ·split at ai
   ·rename_i dI bx fa bq;rw[FX h bq];exact ai
   ·cases ai
  ·cases ai
def OV{ex gd:Es}(h:OU ex gd):oX (iH E ex) (iH E gd):=by
 intro f a H r ai;unfold iH at ai⊢;split at ai
 ·rename_i fn qq;split at ai
  ·rename_i c ah;split at ai
   ·rename_i hz;simp only[hz,if_true];rw[if_pos ⟨trivial,trivial⟩];cases al:ex H.length f c (qV 0 a) H with
    |none=>rw[al]at ai;cases ai
    |some x=>rw[h _ _ _ _ _ _ al,←al];exact ai
   ·cases ai
  ·cases ai
 ·cases ai
def anz{ex gd:Nat→Code→Fr→aa→Option (eD×Fr×aa)}(h:∀B c I H r,ex B c I H=some r→gd B c I H=some r){a b:Code}{I:Fr}{H:aa}{q:eD×aa}(ai:tO ex a b I H=some q):tO gd a b I H=some q:=by
 unfold tO at ai⊢;split at ai
 ·rename_i lO H1 j;rw[h _ _ _ _ _ j];simp only;split at ai
  ·rename_i e dI bx J;rw[h _ _ _ _ _ J];exact ai
  ·cases ai
 ·cases ai
def WC{rd WD:Fr→aa→Option (eD×aa)}(h:∀I H q,rd I H=some q→WD I H=some q){p:Nat}{I:Fr}:∀(xs:List U) {H:aa} {r:eD×Fr×aa},oC rd p I xs H=some r→oC WD p I xs H=some r
 |[],H,r,ai=>ai
 |x::xs,H,r,ai=>by
  simp only[oC]at ai⊢;cases al:rd ((p,x)::I) H with
  |none=>rw[al]at ai;cases ai
  |some q=>
   rw[al]at ai;rw[h _ _ _ al];obtain⟨e,H1⟩:=q;cases e with
   |normal=>simp only at ai⊢;exact WC h xs ai
   |exit id=>exact ai
   |ret=>exact ai
def anA(n:Nat)(B f:Nat)(g:Operand)(bm:Array Tmp)(a b:Code)(I:Fr)(H:aa):exec E (n+1) B f (.rangeFunc g bm a b) I H=match bm.toList,Bx E H (bo E I g)with
 |[p],some xs=>oC (tO (λ eg c I H=>exec E n eg f c I H) a b) p I xs H
 |_,_=>none:=rfl
def anB:∀n,OU (exec E n) (exec E (n+1)):=by
 intro n;induction n with
 |zero=>intro B f c I H r h;simp[exec]at h
 |succ n a8=>
  intro B f c I H r h;have cg:oX (iH E (exec E n)) (iH E (exec E (n+1))):=OV a8;cases c with
  |region id ops draw=>
   cases draw with
   |false=>
    rw[exec]at h⊢;split at h
    ·rename_i bN ap bi;rw[FW cg bi];exact h
    ·cases h
   |true=>
    rw[exec]at h⊢;cases FU:E.p7 f id with
    |true=>
     rw[FU]at h;simp only at h⊢;split at h
     ·rename_i bN ap eE bi;rw[FX cg bi];exact h
     ·cases h
    |false=>
     rw[FU]at h;simp only at h⊢;split at h
     ·rename_i bN ap eE bi;rw[Jw cg bi];exact h
     ·cases h
  |seq a b=>
   rw[exec]at h⊢;cases al:exec E n B f a I H with
   |none=>rw[al]at h;cases h
   |some x=>
    rw[al]at h;rw[a8 _ _ _ _ _ _ al];obtain⟨ex,bN,ap⟩:=x;cases ex with
    |normal=>exact a8 _ _ _ _ _ _ h
    |exit id=>exact h
    |ret=>exact h
  |cond c a b=>
   rw[exec]at h⊢;split at h
   ·exact a8 _ _ _ _ _ _ h
   ·exact a8 _ _ _ _ _ _ h
   ·cases h
  |block id c=>
   rw[exec]at h⊢;cases al:exec E n B f c I H with
   |none=>rw[al]at h;cases h
   |some x=>rw[al]at h;rw[a8 _ _ _ _ _ _ al];exact h
  |loop c=>
   rw[exec]at h⊢;cases al:exec E n B f c (oB E B f ((fJ c).getD 0) I H).1 (oB E B f ((fJ c).getD 0) I H).2 with
   |none=>rw[al]at h;cases h
   |some x=>
    rw[al]at h;rw[a8 _ _ _ _ _ _ al];obtain⟨ex,bN,ap⟩:=x;cases ex with
    |normal=>exact a8 _ _ _ _ _ _ h
    |exit id=>exact h
    |ret=>exact h
  |scope c=>rw[exec]at h⊢;exact a8 _ _ _ _ _ _ h
  |rangeFunc g bm a b=>
   rw[anA]at h⊢;split at h
   ·rename_i p xs av aS;exact WC (λ I H q bn=>anz (λ B c I H r ai=>a8 _ _ _ _ _ _ ai) bn) xs h
   ·cases h
  |_=>exact h
def z8{n m:Nat}(h:n≤m):OU (exec E n) (exec E m):=by
 induction h with
 |refl=>exact λ _ _ _ _ _ _ h=>h
 |step _ a8=>exact λ B f c I H r h=>anB _ _ _ _ _ _ _ (a8 B f c I H r h)
open Classical in
noncomputable def e3(E:Env):Es:=λ B f c I H=>if h:∃n r,exec E n B f c I H=some r then some (Classical.choose (Classical.choose_spec h))else none
def iS{B:Nat}{f:FuncId}{c:Code}{I:Fr}{H:aa}{r:eD×Fr×aa}:e3 E B f c I H=some r↔∃n,exec E n B f c I H=some r:=by
 unfold e3;split
 ·rename_i h;have aS:=Classical.choose_spec (Classical.choose_spec h);constructor
  ·intro e;exact⟨_,by rw[aS];exact e⟩
  ·rintro⟨n,aF⟩;have j:=z8 (Ct (Classical.choose h) n) _ _ _ _ _ _ aS;have J:=z8 (Cu (Classical.choose h) n) _ _ _ _ _ _ aF;rw[j]at J;exact J
 ·rename_i h;constructor
  ·intro e;cases e
  ·rintro⟨n,aF⟩;exact absurd ⟨n,r,aF⟩ h
noncomputable def b4(E:Env):dD:=iH E (e3 E)
def Jx(n:Nat):oX (iH E (exec E n)) (b4 E):=OV λ B f c I H r h=>iS.2 ⟨n,h⟩
def Cv{n m:Nat}(h:n≤m):oX (iH E (exec E n)) (iH E (exec E m)):=OV (z8 h)
def WE{f:FuncId}{a:List U}{H:aa}{r:U×aa}(ai:b4 E f a H=some r):∃n,iH E (exec E n) f a H=some r:=by
 unfold b4 iH at ai;unfold iH;split at ai
 ·rename_i fn qq;split at ai
  ·rename_i c ah;split at ai
   ·rename_i hz;cases al:e3 E H.length f c (qV 0 a) H with
    |none=>rw[al]at ai;cases ai
    |some x=>obtain⟨n,aF⟩:=iS.1 al;refine⟨n,?_⟩;rw[if_pos hz,aF,←al];exact ai
   ·cases ai
  ·cases ai
 ·cases ai
def anC{f:FuncId}{a:List U}{H:aa}{r:U×aa}(ai:e0 E (b4 E) f a H=some r):∃n,e0 E (iH E (exec E n)) f a H=some r:=by
 unfold e0 at ai⊢;cases aP:E.ext f with
 |some g=>rw[aP]at ai;exact⟨0,ai⟩
 |none=>rw[aP]at ai;exact WE ai
def WG{f:FuncId}{a:List U}{H:aa}{r:U×aa}(ai:lg E (b4 E) f a H=some r):∃n,lg E (iH E (exec E n)) f a H=some r:=by
 unfold lg at ai;cases av:(ja E f H a)with
 |none=>rw[av]at ai;cases ai
 |some x=>
  obtain⟨bI,H1⟩:=x;rw[av]at ai;simp only at ai;split at ai
  ·cases ai
  ·rename_i ix L ah;obtain⟨n,aF⟩:=anC ah;refine⟨n,?_⟩;unfold lg;rw[av];simp only;rw[aF];exact ai
def anD{f:FuncId}{a:List U}{H:aa}{r:U×aa}(ai:gn E (b4 E) f a H=some r):∃n,gn E (iH E (exec E n)) f a H=some r:=by
 unfold gn at ai⊢;cases aP:E.oy f with
 |some g=>rw[aP]at ai;exact⟨0,ai⟩
 |none=>
  rw[aP]at ai;simp only at ai⊢;cases J:E.sN f with
  |true=>rw[J]at ai;obtain⟨ix,ap⟩:=r;obtain⟨rfl,aw⟩:=Fp ai;obtain⟨n,aF⟩:=WG aw;exact⟨n,by rw[aF];exact I7 _⟩
  |false=>rw[J]at ai;exact WG ai
def OW{aj:Op}{I:Fr}{H:aa}{r:U×aa}(ai:ci E (b4 E) aj I H=some r):∃n,ci E (iH E (exec E n)) aj I H=some r:=by
 unfold ci at ai;split at ai
 ·rename_i f args e6;split at ai
  ·rename_i g bI aP;split at ai
   ·rename_i he;obtain⟨n,aF⟩:=anD ai;refine⟨n,?_⟩;simp only[ci,aP,he,if_true,aF]
   ·cases ai
  ·cases ai
 ·rename_i B7;refine⟨0,?_⟩;unfold ci;split
  ·exact absurd rfl (B7 _ _ _)
  ·exact ai
def OX{ops:List Oper}:∀{l:List Oper} {I:Fr} {H:aa} {r:Fr×aa},iu E (b4 E) ops l I H=some r→∃n,iu E (iH E (exec E n)) ops l I H=some r
 |[],I,H,r,ai=>⟨0,ai⟩
 |aj::l,I,H,r,ai=>by
  simp only[iu]at ai⊢;cases aP:gw ops I aj with
  |none=>rw[aP]at ai;cases ai
  |some b=>
   rw[aP]at ai;cases b with
   |false=>exact OX ai
   |true=>
    simp only at ai⊢;split at ai
    ·rename_i v ap bi;obtain⟨n,aF⟩:=OW bi;obtain⟨m,hm⟩:=OX ai;refine⟨max n m,?_⟩;rw[Jv (Cv (Ct n m)) aF];exact FW (Cv (Cu n m)) hm
    ·cases ai
def anE{ops:List Oper}{aj:Oper}{I:Fr}{H:aa}{r:Fr×aa×List Nat}(ai:qb E (b4 E) ops aj I H=some r):∃n,qb E (iH E (exec E n)) ops aj I H=some r:=by
 unfold qb at ai;cases aP:gw ops I aj with
 |none=>rw[aP]at ai;cases ai
 |some b=>
  rw[aP]at ai;cases b with
  |false=>exact⟨0,by unfold qb;rw[aP];exact ai⟩
  |true=>
   simp only at ai;split at ai
   ·rename_i v ap bi;obtain⟨n,aF⟩:=OW bi;refine⟨n,?_⟩;unfold qb;rw[aP,aF];exact ai
   ·cases ai
def WH{ops:List Oper}:∀{l:List Oper} {I:Fr} {H:aa} {r:Fr×aa×List (List Nat)},hX E (b4 E) ops l I H=some r→∃n,hX E (iH E (exec E n)) ops l I H=some r
 |[],I,H,r,ai=>⟨0,ai⟩
 |aj::l,I,H,r,ai=>by
  simp only[hX]at ai⊢;split at ai
  ·rename_i lO H1 t aS;split at ai
   ·rename_i dI bx fa bq;obtain⟨n,aF⟩:=anE aS;obtain⟨m,hm⟩:=WH bq;refine⟨max n m,?_⟩;rw[WA (Cv (Ct n m)) aF];simp only;rw[Jw (Cv (Cu n m)) hm];exact ai
   ·cases ai
  ·cases ai
def OY{ops:List Oper}:∀{l:List Oper} {c:Nat} {I:Fr} {H:aa} {r:Fr×aa×List (List Nat)},iG E (b4 E) ops c l I H=some r→∃n,iG E (iH E (exec E n)) ops c l I H=some r
 |[],c,I,H,r,ai=>⟨0,ai⟩
 |aj::l,c,I,H,r,ai=>by
  simp only[iG]at ai⊢;cases aP:gw ops I aj with
  |none=>rw[aP]at ai;cases ai
  |some b=>
   rw[aP]at ai;cases b with
   |false=>
    simp only at ai⊢;split at ai
    ·rename_i dI bx fa bq;obtain⟨m,hm⟩:=OY bq;refine⟨m,?_⟩;rw[hm];exact ai
    ·cases ai
   |true=>
    simp only at ai⊢;split at ai
    ·rename_i v ap bi;split at ai
     ·rename_i dI bx fa bq;have aF:∃n,jE E (iH E (exec E n)) c aj.op I H=some (v,ap):=by
       unfold jE at bi⊢;cases aK:dS aj.op with
       |true=>rw[aK]at bi;exact⟨0,bi⟩
       |false=>rw[aK]at bi;exact OW bi
      obtain⟨n,aF⟩:=aF;obtain⟨m,hm⟩:=OY bq;refine⟨max n m,?_⟩;rw[WB (Cv (Ct n m)) aF];simp only;rw[FX (Cv (Cu n m)) hm];exact ai
     ·cases ai
    ·cases ai
variable{B:Nat}{f:FuncId}{I:Fr}{H:aa}{id:Nat}
def anF:e3 E B f .skip I H=some (.normal,I,H):=iS.2 ⟨1,rfl⟩
def anG(l:Nat):e3 E B f (.label l) I H=some (.normal,I,H):=iS.2 ⟨1,rfl⟩
def anH:e3 E B f .ret I H=some (.ret,I,H):=iS.2 ⟨1,rfl⟩
def anI(id:Nat):e3 E B f (.exit id) I H=some (.exit id,I,H):=iS.2 ⟨1,rfl⟩
def FY(E:Env)(f:FuncId)(id:Nat)(r:Option (Fr×aa)):Option (eD×Fr×aa):=match r with
 |some (bN,ap)=>some (.normal,norm (E.kn f id) bN,ap)
 |none=>none
def Cw(E:Env)(f:FuncId)(id:Nat)(r:Option (Fr×aa×List (List Nat))):Option (eD×Fr×aa):=match r with
 |some (bN,ap,eE)=>if(E.dR f id).all (sU eE)=true then some (.normal,norm (E.kn f id) bN,ap)else none
 |none=>none
def anJ(id:Nat)(ops:Array Oper):e3 E B f (.region id ops false) I H=FY E f id (iu E (b4 E) ops.toList ops.toList I H):=by
 refine z_ λ r=>?_
 rw[iS];constructor
 ·rintro⟨n,h⟩;cases n with
  |zero=>simp[exec]at h
  |succ n=>
   simp only[exec]at h;split at h
   ·rename_i bN ap bi;rw[FW (Jx n) bi];exact h
   ·cases h
 ·intro h;cases bi:iu E (b4 E) ops.toList ops.toList I H with
  |none=>rw[bi]at h;cases h
  |some x=>obtain⟨n,aF⟩:=OX bi;refine⟨n+1,?_⟩;rw[bi]at h;simp only[exec];rw[aF];exact h
def WI(aO:E.p7 f id=false)(ops:Array Oper):e3 E B f (.region id ops true) I H=Cw E f id (hX E (b4 E) ops.toList ops.toList I H):=by
 refine z_ λ r=>?_
 rw[iS];constructor
 ·rintro⟨n,h⟩;cases n with
  |zero=>simp[exec]at h
  |succ n=>
   simp only[exec,aO]at h;split at h
   ·rename_i bN ap eE bi;rw[Jw (Jx n) bi];exact h
   ·cases h
 ·intro h;cases bi:hX E (b4 E) ops.toList ops.toList I H with
  |none=>rw[bi]at h;cases h
  |some x=>obtain⟨n,aF⟩:=WH bi;refine⟨n+1,?_⟩;rw[bi]at h;simp only[exec,aO];rw[aF];exact h
def anK(aO:E.p7 f id=true)(ops:Array Oper):e3 E B f (.region id ops true) I H=Cw E f id (iG E (b4 E) ops.toList H.length ops.toList I (H++cy (pn ops.toList) mR)):=by
 refine z_ λ r=>?_
 rw[iS];constructor
 ·rintro⟨n,h⟩;cases n with
  |zero=>simp[exec]at h
  |succ n=>
   simp only[exec,aO]at h;split at h
   ·rename_i bN ap eE bi;rw[FX (Jx n) bi];exact h
   ·cases h
 ·intro h;cases bi:iG E (b4 E) ops.toList H.length ops.toList I (H++cy (pn ops.toList) mR)with
  |none=>rw[bi]at h;cases h
  |some x=>obtain⟨n,aF⟩:=OY bi;refine⟨n+1,?_⟩;rw[bi]at h;simp only[exec,aO];rw[aF];exact h
def OZ{aL:dD}{ops:List Oper}:∀(l:List Oper) (I:Fr) (H:aa),(hX E aL ops l I H).map (λ x=>(x.1,x.2.1))=iu E aL ops l I H
 |[],I,H=>rfl
 |aj::l,I,H=>by
  simp only[hX,qb,iu];cases gw ops I aj with
  |none=>rfl
  |some b=>
   cases b with
   |false=>simp only;rw[←OZ l];cases hX E aL ops l (dL aj.dst (.be []) I) H<;>rfl
   |true=>
    simp only;cases ci E aL aj.op I H with
    |none=>rfl
    |some x=>simp only;rw[←OZ l];cases hX E aL ops l (dL aj.dst x.1 I) x.2<;>rfl
def anL(aO:E.p7 f id=false)(hk:E.dR f id=[])(ops:Array Oper):e3 E B f (.region id ops true) I H=FY E f id (iu E (b4 E) ops.toList ops.toList I H):=by
 rw[WI aO,←OZ];cases hX E (b4 E) ops.toList ops.toList I H with
 |none=>rfl
 |some x=>obtain⟨bN,ap,eE⟩:=x;simp only[Cw,hk,List.all_nil,if_true,d',FY]
def vQ(k:Fr→aa→Option (eD×Fr×aa))(r:Option (eD×Fr×aa)):Option (eD×Fr×aa):=match r with
 |some (.normal,bN,ap)=>k bN ap
 |r=>r
def anM(a b:Code):e3 E B f (.seq a b) I H=vQ (e3 E B f b) (e3 E B f a I H):=by
 refine z_ λ r=>?_
 rw[iS];constructor
 ·rintro⟨n,h⟩;cases n with
  |zero=>simp[exec]at h
  |succ n=>
   rw[exec]at h;cases al:exec E n B f a I H with
   |none=>rw[al]at h;cases h
   |some x=>
    rw[al]at h;rw[iS.2 ⟨n,al⟩];obtain⟨ex,bN,ap⟩:=x;cases ex with
    |normal=>exact iS.2 ⟨n,h⟩
    |exit id=>exact h
    |ret=>exact h
 ·intro h;cases al:e3 E B f a I H with
  |none=>rw[al]at h;cases h
  |some x=>
   rw[al]at h;obtain⟨n,aF⟩:=iS.1 al;obtain⟨ex,bN,ap⟩:=x;cases ex with
   |normal=>obtain⟨m,hm⟩:=iS.1 h;refine⟨max n m+1,?_⟩;rw[exec,z8 (Ct n m) _ _ _ _ _ _ aF];exact z8 (Cu n m) _ _ _ _ _ _ hm
   |exit id=>exact⟨n+1,by rw[exec,aF];exact h⟩
   |ret=>exact⟨n+1,by rw[exec,aF];exact h⟩
def WJ(c:Code):e3 E B f (.loop c) I H=vQ (e3 E B f (.loop c)) (e3 E B f c (oB E B f ((fJ c).getD 0) I H).1 (oB E B f ((fJ c).getD 0) I H).2):=by
 refine z_ λ r=>?_
 rw[iS];constructor
 ·rintro⟨n,h⟩;cases n with
  |zero=>simp[exec]at h
  |succ n=>
   rw[exec]at h;cases al:exec E n B f c (oB E B f ((fJ c).getD 0) I H).1 (oB E B f ((fJ c).getD 0) I H).2 with
   |none=>rw[al]at h;cases h
   |some x=>
    rw[al]at h;rw[iS.2 ⟨n,al⟩];obtain⟨ex,bN,ap⟩:=x;cases ex with
    |normal=>exact iS.2 ⟨n,h⟩
    |exit id=>exact h
    |ret=>exact h
 ·intro h;cases al:e3 E B f c (oB E B f ((fJ c).getD 0) I H).1 (oB E B f ((fJ c).getD 0) I H).2 with
  |none=>rw[al]at h;cases h
  |some x=>
   rw[al]at h;obtain⟨n,aF⟩:=iS.1 al;obtain⟨ex,bN,ap⟩:=x;cases ex with
   |normal=>obtain⟨m,hm⟩:=iS.1 h;refine⟨max n m+1,?_⟩;rw[exec,z8 (Ct n m) _ _ _ _ _ _ aF];exact z8 (Cu n m) _ _ _ _ _ _ hm
   |exit id=>exact⟨n+1,by rw[exec,aF];exact h⟩
   |ret=>exact⟨n+1,by rw[exec,aF];exact h⟩
def vR(v:U)(a b:Option (eD×Fr×aa)):Option (eD×Fr×aa):=match v with
 |.i (.v (.bool true))=>a
 |.i (.v (.bool false))=>b
 |_=>none
def WK(p:Prop) [Decidable p](a b:Option (eD×Fr×aa)):vR (.i (.v (.bool (decide p)))) a b=if p then a else b:=by by_cases h:p<;>simp[h,vR]
def anN(c:Operand)(a b:Code):e3 E B f (.cond c a b) I H=vR (bo E I c) (e3 E B f a I H) (e3 E B f b I H):=by
 refine z_ λ r=>?_
 rw[iS];constructor
 ·rintro⟨n,h⟩;cases n with
  |zero=>simp[exec]at h
  |succ n=>
   rw[exec]at h;split at h
   ·rename_i ah;rw[ah];exact iS.2 ⟨n,h⟩
   ·rename_i ah;rw[ah];exact iS.2 ⟨n,h⟩
   ·cases h
 ·intro h;unfold vR at h;split at h
  ·rename_i ah;obtain⟨n,aF⟩:=iS.1 h;exact⟨n+1,by rw[exec,ah];exact aF⟩
  ·rename_i ah;obtain⟨n,aF⟩:=iS.1 h;exact⟨n+1,by rw[exec,ah];exact aF⟩
  ·cases h
def Jy(id:Nat)(r:Option (eD×Fr×aa)):Option (eD×Fr×aa):=match r with
 |some (.exit ab,bN,ap)=>if ab=id then some (.normal,bN,ap)else some (.exit ab,bN,ap)
 |r=>r
def anO(id:Nat)(c:Code):e3 E B f (.block id c) I H=Jy id (e3 E B f c I H):=by
 refine z_ λ r=>?_
 rw[iS];constructor
 ·rintro⟨n,h⟩;cases n with
  |zero=>simp[exec]at h
  |succ n=>
   rw[exec]at h;cases al:exec E n B f c I H with
   |none=>rw[al]at h;cases h
   |some x=>rw[al]at h;rw[iS.2 ⟨n,al⟩];exact h
 ·intro h;cases al:e3 E B f c I H with
  |none=>rw[al]at h;cases h
  |some x=>rw[al]at h;obtain⟨n,aF⟩:=iS.1 al;exact⟨n+1,by rw[exec,aF];exact h⟩
def anP(c:Code):e3 E B f (.scope c) I H=e3 E B f c I H:=by
 refine z_ λ r=>?_
 rw[iS,iS];constructor
 ·rintro⟨n,h⟩;cases n with
  |zero=>simp[exec]at h
  |succ n=>exact⟨n,by simpa only[exec]using h⟩
 ·rintro⟨n,h⟩;exact⟨n+1,by simpa only[exec]using h⟩
def anQ(rd:Fr→aa→Option (eD×aa))(p:Nat)(I:Fr)(H:aa):Option (List U)→Option (eD×Fr×aa)
 |some xs=>oC rd p I xs H
 |none=>none
def vS(E:Env)(f:FuncId)(B:Nat)(fX:List ResultVar)(r:Option (eD×Fr×aa)):Option (U×aa):=match r with
 |some (.exit _,_,_)=>none
 |some (_,I,ap)=>match w_ E I ap fX with
  |some r=>q0 E f B ap r
  |none=>none
 |none=>none
def O0{fn:Func}{c:Code}{args:List U}(aK:E.P.funcs[f]?=some fn)(ah:fn.body=some c)(hz:za E f=true)(an:args.length≤fn.ntmps):
  b4 E f args H=vS E f H.length fn.results.toList (e3 E H.length f c (qV 0 args) H):=by
 unfold b4 iH vS;rw[aK];simp only[ah];rw[if_pos ⟨hz,an⟩];cases e3 E H.length f c (qV 0 args) H with
 |none=>rfl
 |some x=>obtain⟨ex,I,ap⟩:=x;cases ex<;>rfl
def anR(tb:zJ E)(hseq:Cq E)(hmk:zK E):n9 E (b4 E):=by intro f args H r ap h;obtain⟨n,aF⟩:=WE h;exact anv tb hseq hmk n f args H r ap aF
def WL{n:Nat}{args:List U}{r:U×aa}(h:call E n f args H=some r):b4 E f args H=some r:=Jx n _ _ _ _ h
end
end Go.VI
namespace Go.VI
open Go.ChangeShapes
open Go.WideShapes
set_option maxRecDepth 100000
set_option maxHeartbeats 40000000
set_option linter.unusedVariables false
set_option linter.unusedSimpArgs false
set_option linter.defProp false
section
variable{E:Env}
def nD(w:World):cb:=λ b=>w.heap[b]?
def z':b9:=λ _=>none
def anS(w:World)(aP:∀g cells,E.e_ g=some cells→tP (nD w) g cells):b6 E (nD w) z' [] w:=
 ⟨λ b aj h=>h,λ c x h=>by simp at h,λ c cp b n dO h=>by simp[z']at h,λ c b n h=>by simp[z']at h,aP⟩
structure Cx (w ar:World):Prop where
 os:ar.os=w.os
 output:ar.output=w.output
 heap:∀b,b<w.heap.size→ar.heap[b]?=w.heap[b]?
def Cx.kept{w ar:World}(h:Cx w ar)(may:MemPlace→Prop):w.keptBut ar may:=by
 refine⟨h.os,h.output,λ i aA=>?_⟩;rw[h.heap i aA];cases aO:w.heap[i]? with
 |none=>rfl
 |some aj=>cases aj<;>simp
def anT{w ar:World}{aN:cb}{aC:b9}(du:Trans (nD w) z' w aN aC ar):Cx w ar:=
 ⟨du.os,du.output,λ b ak=>du.frame b ak λ c n h=>by simp[z']at h⟩
def law_calls{f:FuncId}{args:List U}{vs:Array Value}{w:World}{ap:aa}(h:b4 E f args []=some (.i (.v (.bool true)),ap))(tb:zJ E)(aP:∀g cells,E.e_ g=some cells→tP (nD w) g cells)
  (b0:oM (nD w) z' [] args vs)(hseq:Cq E:=by exact Go.VI.noSeq λ _=>rfl)(hmk:zK E:=by exact Go.VI.alp λ _=>rfl):Calls E.P f vs w λ e ar=>e=.returned (.bool true)∧Cx w ar:=
 (anR tb hseq hmk f args [] _ ap h _ _ w vs (anS w aP) b0).mono λ e ar he=>by obtain⟨x,rfl,e2,ez,_,bH,_,eZ⟩:=he;exact⟨congrArg _ (fz eZ),anT bH⟩
def anU{ad ac H}:oM ad ac H [] #[]:=⟨rfl,λ k a h=>by simp at h⟩
def WM(ad:cb)(ac:b9)(H:aa):List U→List Value→Prop
 |[],[]=>True
 |a::bI,v::vs=>a7 ad ac H a v∧WM ad ac H bI vs
 |_,_=>False
def args_of{ad ac H}:∀{bI:List U} {vs:List Value},WM ad ac H bI vs→oM ad ac H bI vs.toArray
 |[],[],_=>anU
 |a::bI,v::vs,h=>by
  have a8:=args_of h.2;refine⟨by simpa using a8.1,λ k b az=>?_⟩;cases k with
  |zero=>simp at az;subst az;simpa using h.1
  |succ k=>simpa using a8.2 k b (by simpa using az)
 |[],_::_,h=>h.elim
 |_::_,[],h=>h.elim
def post_of_old{H:Type}{enc:TypeId×Value→H}{P:Program}{f:Func}{s:ChangeSpec}{apart fresh handsOn:Bool}{W lv:World}{args:Array Value}{v:Value}{cI gs:List (DataW H)}{before pa pv:List MemPlace}
  (vT:DataW.Whole enc P f.params.toList s.vars apart W args.toList cI gs before)
  (anV:∀(b:Nat) (l5:Nat→Bool) (aM:Bool),DataW.TrodAll enc P lv b l5 aM f.resultTypes.toList (v.resultList f.resultTypes.size) (s.fn H (cI++gs)).results [])
  (pD:∀l5:Nat→Bool,(∀p∈before,l5 p.block=true)→DataW.TrodAll enc P lv 0 l5 true f.params.toList args.toList (s.fn H (cI++gs)).args pa)
  (anW:∀l5:Nat→Bool,(∀p∈before,l5 p.block=true)→DataW.TrodVars enc P lv l5 s.vars (s.fn H (cI++gs)).vars pv)
  (hold:Cx W lv)(x5:before=pa++pv):s.post enc P f apart fresh handsOn false W args v lv:=by
 have bf:∀p∈before,(λ b=>decide (b<W.heap.size)) p.block=true:=λ p av=>by simpa using vT.lt p av
 exact⟨cI,gs,before,[],pa,pv,vT,anV _ _ _,pD _ bf,anW _ bf,hold.kept _,λ h=>by cases h⟩
end
end Go.VI
namespace Go.VI
set_option maxRecDepth 100000
set_option maxHeartbeats 40000000
set_option linter.unusedVariables false
set_option linter.unusedSimpArgs false
set_option linter.defProp false
section
variable{E:Env}{aL:dD}{ops:List Oper}{I:Fr}{H:aa}{f:FuncId}
noncomputable def Aa(E:Env)(aL:dD)(ops:List Oper)(dst:Option Nat)(r:List Oper)(I:Fr):Option (U×aa)→Option (Fr×aa)
 |some (v,ap)=>iu E aL ops r (dL dst v I) ap
 |none=>none
def Jz(want:Bool):U→Option Bool
 |.i (.v (.bool b))=>some (b==want)
 |.be []=>some false
 |_=>none
def vU(ops:List Oper)(I:Fr)(ab:Nat)(want:Bool):Option Bool:=
 match(ops[ab]?).bind (·.dst)with
 |some d=>Jz want (get d I)
 |none=>none
noncomputable def vV(E:Env)(aL:dD)(ops:List Oper)(dst:Option Nat)(op:Op)(r:List Oper)(I:Fr)(H:aa):Option Bool→Option (Fr×aa)
 |some true=>Aa E aL ops dst r I (ci E aL op I H)
 |some false=>iu E aL ops r (dL dst (.be []) I) H
 |none=>none
def anX(dst:Option Nat)(r:List Oper)(v:U)(ap:aa):Aa E aL ops dst r I (some (v,ap))=iu E aL ops r (dL dst v I) ap:=rfl
def anY(dst:Option Nat)(op:Op)(r:List Oper):vV E aL ops dst op r I H (some true)=Aa E aL ops dst r I (ci E aL op I H):=rfl
def anZ(dst:Option Nat)(op:Op)(r:List Oper):vV E aL ops dst op r I H (some false)=iu E aL ops r (dL dst (.be []) I) H:=rfl
def an0(b want:Bool):Jz want (.i (.v (.bool b)))=some (b==want):=rfl
def an1(want:Bool):Jz want (.be [])=some false:=rfl
def an2:iu E aL ops [] I H=some (I,H):=rfl
def an3(dst:Option Nat)(op:Op)(ed:TypeId)(pos:String)(rA:Array Edge)(r:List Oper):iu E aL ops (⟨dst,op,ed,pos,rA,none⟩::r) I H=Aa E aL ops dst r I (ci E aL op I H):=by
 simp only[iu,gw];cases ci E aL op I H with
 |none=>rfl
 |some x=>rfl
def O1(dst:Option Nat)(op:Op)(ed:TypeId)(pos:String)(rA:Array Edge)(ab:Nat)(w:Bool):gw ops I ⟨dst,op,ed,pos,rA,some (ab,w)⟩=vU ops I ab w:=by
 simp only[gw,vU];cases (ops[ab]?).bind (·.dst)with
 |none=>rfl
 |some d=>simp only[Jz];rfl
def an4(dst:Option Nat)(op:Op)(ed:TypeId)(pos:String)(rA:Array Edge)(ab:Nat)(w:Bool)(r:List Oper):iu E aL ops (⟨dst,op,ed,pos,rA,some (ab,w)⟩::r) I H=vV E aL ops dst op r I H (vU ops I ab w):=by
 simp only[iu,O1];cases vU ops I ab w with
 |none=>rfl
 |some b=>
  cases b with
  |false=>rfl
  |true=>
   simp only[vV];cases ci E aL op I H with
   |none=>rfl
   |some x=>rfl
def mB(t:List Nat):Option (Fr×aa×List (List Nat))→Option (Fr×aa×List (List Nat))
 |some (dI,bx,fa)=>some (dI,bx,t::fa)
 |none=>none
noncomputable def vW(E:Env)(aL:dD)(ops:List Oper)(dst:Option Nat)(op:Op)(r:List Oper)(I:Fr)(H:aa):Option (U×aa)→Option (Fr×aa×List (List Nat))
 |some (v,ap)=>mB (cR E I H op++lN H.length (ap.length-H.length)) (hX E aL ops r (dL dst v I) ap)
 |none=>none
noncomputable def uo(E:Env)(aL:dD)(ops:List Oper)(dst:Option Nat)(op:Op)(r:List Oper)(I:Fr)(H:aa):Option Bool→Option (Fr×aa×List (List Nat))
 |some true=>vW E aL ops dst op r I H (ci E aL op I H)
 |some false=>mB [] (hX E aL ops r (dL dst (.be []) I) H)
 |none=>none
def an5(t:List Nat)(dI:Fr)(bx:aa)(fa:List (List Nat)):mB t (some (dI,bx,fa))=some (dI,bx,t::fa):=rfl
def an6(dst:Option Nat)(op:Op)(r:List Oper)(v:U)(ap:aa):vW E aL ops dst op r I H (some (v,ap))=mB (cR E I H op++lN H.length (ap.length-H.length)) (hX E aL ops r (dL dst v I) ap):=rfl
def an7(dst:Option Nat)(op:Op)(r:List Oper):uo E aL ops dst op r I H (some true)=vW E aL ops dst op r I H (ci E aL op I H):=rfl
def an8(dst:Option Nat)(op:Op)(r:List Oper):uo E aL ops dst op r I H (some false)=mB [] (hX E aL ops r (dL dst (.be []) I) H):=rfl
def an9:hX E aL ops [] I H=some (I,H,[]):=rfl
def an_(dst:Option Nat)(op:Op)(ed:TypeId)(pos:String)(rA:Array Edge)(r:List Oper):hX E aL ops (⟨dst,op,ed,pos,rA,none⟩::r) I H=vW E aL ops dst op r I H (ci E aL op I H):=by
 simp only[hX,qb,gw];cases ci E aL op I H with
 |none=>rfl
 |some x=>simp only[vW,mB];rfl
def an'(dst:Option Nat)(op:Op)(ed:TypeId)(pos:String)(rA:Array Edge)(ab:Nat)(w:Bool)(r:List Oper):hX E aL ops (⟨dst,op,ed,pos,rA,some (ab,w)⟩::r) I H=uo E aL ops dst op r I H (vU ops I ab w):=by
 simp only[hX,qb,O1];cases vU ops I ab w with
 |none=>rfl
 |some b=>
  cases b with
  |false=>simp only[uo,mB];rfl
  |true=>
   simp only[uo];cases ci E aL op I H with
   |none=>rfl
   |some x=>simp only[vW,mB];rfl
noncomputable def x6(E:Env)(aL:dD)(ops:List Oper)(c:Nat)(dst:Option Nat)(op:Op)(r:List Oper)(I:Fr)(H:aa):Option (U×aa)→Option (Fr×aa×List (List Nat))
 |some (v,ap)=>mB (sV E c I H op++lN H.length (ap.length-H.length)) (iG E aL ops (nu c op) r (dL dst v I) ap)
 |none=>none
noncomputable def x7(E:Env)(aL:dD)(ops:List Oper)(c:Nat)(dst:Option Nat)(op:Op)(r:List Oper)(I:Fr)(H:aa):Option Bool→Option (Fr×aa×List (List Nat))
 |some true=>x6 E aL ops c dst op r I H (jE E aL c op I H)
 |some false=>mB [] (iG E aL ops (nu c op) r (dL dst (.be []) I) H)
 |none=>none
end
end Go.VI
