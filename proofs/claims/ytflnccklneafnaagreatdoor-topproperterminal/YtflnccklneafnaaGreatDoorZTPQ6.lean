import Derived.Test.YtflnccklneafnaaGreatDoorZTPQ5
import Derived.Shelf.Spec.SlicesGrow
import Derived.Deep.LoopGhost
import Derived.Lib.Walk
import Derived.Lib.SliceRun
import Derived.MakeChecks
import Derived.Handy
import Derived.Shelf.Strconv.AppendUint10
import Derived.Shelf.LaysM
import Derived.Shelf.Unicode.ValidAny
import Derived.Shelf.Strconv.Itoa3
import Derived.Shelf.Strings.Search1
import Derived.Lib.LaidU8
open And renaming intro→o
open Array renaming getElem?_toList→mW,getD_eq_getD_getElem?→dp,getElem?_eq_some_iff→j6,replicate→zx,getElem?_append_left→xI,size_append→Nu,size_replicate→S6
open Bool renaming false_eq_true→fK,and_eq_true→cO,or_eq_true→xv,not_eq_true'→rj,or_false→x1,true_and→jQ,false_and→ly,and_true→Ah,and_false→yb,not_true→J_,not_false→rF,not_eq_true→GC
open Eq renaming trans→fZ
open Go.Builtin renaming zeroCells→EZ
open Go.Code renaming loop→qN
open Go.DataW renaming trod→su
open Go.Instr renaming sliceAt→vk
open Go.Lib renaming pow10Tab→sA,decDigits→nF,decDigits_length→Q8,run_eql_slice_nil→HF,nDigits→wZ,zeros24→Bg,byteCells→Mn
open Go.Result renaming andThen_ok→ek
open Go.RowKit.Below renaming heap_alloc→z1,refl→wY
open Go.Sem renaming run_bind→dU,run_pure→eL,run→ua
open Go.Shelf renaming Ren→HO
open Go.Value renaming int→j4,pointer→CG
open Go.World renaming cell?→sf,cell?_alloc_new→HN
open Int renaming toNat_natCast→oe,eq_ofNat_of_zero_le→jk,le_refl→GD,lt_irrefl→Q4,tmod_eq_emod_of_nonneg→LG,reduceEq→GX
open List renaming replicate→cy,range→hg,range'→lN,length_eq_zero_iff→qe,map_cons→fk,mem_cons→mU,getElem?_map→fA,getElem?_eq_some_iff→bF,getElem?_append_left→en,getElem?_append_right→ha,getElem?_eq_getElem→eT,length_append→dd,foldl_cons→zo,getElem_mem→mr,length_cons→cT,append_assoc→dV,getElem?_set_ne→dC,append_nil→c_,set_append_right→xB,nil_append→gM,length_map→lX,mem_of_getElem?→jG,length_nil→dx,take→eo,getElem?_cons_zero→qn,size_toArray→IG,mem_cons_of_mem→xK,length_take→gE,length_drop→ic,mem_append→fT,getElem?_eq_none→sl,length_pos_iff→NF,ext_getElem?→Fh,getElem?_cons_succ→jM,mem_filter→NY,map_congr_left→zM,length→Ci,mem_map→FG,map_nil→fp,take_zero→nc,take_succ_cons→vM,mem_range→zU,getD_eq_getElem?_getD→oV,drop_zero→iy,drop_eq_getElem_cons→ji,drop_length→nd,getElem?_range→JK,take_append_drop→JL,all_cons→CA,flatMap_nil→sy,map_map→wa,flatMap_cons→PH,not_mem_nil→ya,cons_append→uy,set_cons_zero→CH,take_of_length_le→rH,drop→eI,any_eq_false→QW,map_append→pP,map_set→uM,map_take→uN,map_drop→rK,take_succ_eq_append_getElem→GO,getElem?_take_of_lt→Rx,filter→rS,mem_cons_self→LS,getD→G',mem_singleton→yP,takeWhile_cons_of_pos→ah8,drop_succ_cons→Tc
open List.cons renaming injEq→BQ
open Nat renaming lt_of_lt_of_le→xf,le_refl→cQ,le_trans→sd,add_zero→fc,mul_le_mul_right→j5,add_mul→hj,zero_add→cq,div_lt_iff_lt_mul→H9,mod_lt→EN,mul_comm→vi,div_add_mod→zi,add_assoc→tT,sub_self→qk,min_eq_left→NA,not_le→e8,add_comm→qv,zero_le→ig,not_lt_zero→rz,sub_zero→qy,mod_eq_of_lt→Dg,reduceAdd→c2
open Ne renaming symm→ba
open Option renaming map_eq_some_iff→c0,getD_some→iM,map_some→d',bind_some→Ps,isSome_some→Pw
open Option.some renaming inj→qf,injEq→bj
open Prod.mk renaming injEq→bA
open UInt8 renaming ofNat→h6
namespace Go.VI
open Go.Proofs
set_option maxRecDepth 100000
set_option maxHeartbeats 40000000
set_option linter.unusedVariables false
set_option linter.unusedSimpArgs false
set_option linter.defProp false
def yS(e:dy):uZ e=.agg [.i (.v (.int .i64 e.k)),.i (.v (.int .i32 e.r)),.i (.v (.int .u8 e.c)),.i (.v (.int .u8 e.v)),.i (.str e.i),.i (.ae 1 (b3 e.bm) false),.i (.str e.t)]:=rfl
def A8(e:dy):Bool:=gH e.r &&!decide (e.r<32) &&!(decide (127≤e.r) &&decide (e.r≤159)) &&(decide (e.c=0) &&decide (e.v=0) &&e.i.isEmpty &&e.t.isEmpty &&e.bm.isEmpty)
def Hp(e:dy):Bool:=!(decide (32≤e.c)||decide (e.c=24)||decide (e.c=26)||decide (e.c=27)) &&(decide (e.r=0) &&decide (e.v=0) &&e.i.isEmpty &&e.t.isEmpty &&e.bm.isEmpty)
def D6(e:dy):Bool:=!decide (3≤e.i.length) &&!e.i.any (kE 32 47) &&!(decide (e.c<48)||decide (126<e.c)) &&!(e.i.isEmpty &&(decide (e.c=91)||decide (e.c=93))) &&(decide (e.r=0) &&decide (e.v=0) &&e.t.isEmpty &&e.bm.isEmpty)
def D7(e:dy):Bool:=decide ((o' e.v e.bm e.i).2=0) &&!(decide (e.c<64)||decide (126<e.c)) &&(decide (e.r=0) &&e.t.isEmpty)
def Hq(e:dy):Bool:=!decide (256<e.t.length) &&!e.t.any (kE 32 255) &&(decide (e.r=0) &&decide (e.c=0) &&decide (e.v=0) &&e.i.isEmpty &&e.bm.isEmpty)
def p4(e:dy):Bool:=if e.k=1 then A8 e else if e.k=2 then Hp e else if e.k=3 then D6 e else if e.k=4 then D7 e else if e.k=5 then Hq e else false
def aM6(r:Int)(ai:-2147483648≤r∧r≤2147483647)(c v:Int)(i:List UInt8)(bm:List Int)(t:List UInt8):
  gi 88 [uZ ⟨1,r,c,v,i,bm,t⟩] (↑(A8 ⟨1,r,c,v,i,bm,t⟩)):=by
 rw[yS];unfold A8;have aM:=aHB r;have an:(f_ (eU r)).length≤4:=by
  rw[f_,lX];unfold eU;repeat' split
  all_goals simp only[cX];omega
 have fF:=λ H=>tr r ai H
 have pO:=λ H=>rI [] (f_ (eU r)) (by simp only[dx];omega) H
 simp only[gM,aM]at pO;simp only[];cases aP:gH r with
 |false=>
  have gp:¬65533=r:=by rintro rfl;exact absurd aP (by decide)
  simp only[aP,fK,if_false,show g_ [65533]=[[.v (.int .i32 65533)]]from rfl]at pO;simp only[ly]
  (refine bw fu ?_;simp(disch:=omega)only[au,simprocAttr,fE,cE,bB,tr,rI,gM,eR,cm,de,fF,pO,gp];exact⟨_,rfl⟩)
 |true=>
  simp only[aP,if_true,show g_ [r]=[[.v (.int .i32 r)]]from rfl]at pO;simp only[jQ];by_cases j:r<32
  ·simp only[j,decide_true,J_,ly]
   (refine bw fu ?_;simp(disch:=omega)only[au,simprocAttr,fE,cE,bB,tr,rI,gM,eR,cm,de,fF,pO,j];exact⟨_,rfl⟩)
  ·simp only[j,decide_false,rF,jQ];by_cases J:127≤r∧r≤159
   ·obtain⟨J,aw⟩:=J;simp only[J,aw,decide_true,Ah,J_,ly]
    (refine bw fu ?_;simp(disch:=omega)only[au,simprocAttr,fE,cE,bB,tr,rI,gM,eR,cm,de,fF,pO,j,J,aw];exact⟨_,rfl⟩)
   ·rw[show(decide (127≤r) &&decide (r≤159))=false by simp;omega];simp only[rF,jQ];have aM7:¬127≤r∨¬r≤159:=R;rcases aM7 with J|J
    all_goals
     by_cases ch:c=0;rotate_left
     ·simp only[ch,fU];(refine bw fu ?_;simp(disch:=omega)only[au,simprocAttr,fE,cE,bB,tr,rI,gM,eR,cm,de,fF,pO,j,J,ch];exact⟨_,rfl⟩)
     subst ch;by_cases cw:v=0;rotate_left
     ·simp only[cw,fU];(refine bw fu ?_;simp(disch:=omega)only[au,simprocAttr,fE,cE,bB,tr,rI,gM,eR,cm,de,fF,pO,j,J,cw];exact⟨_,rfl⟩)
     subst cw;cases i with
     |cons i0 i=>simp only[cT,fU];(refine bw fu ?_;simp(disch:=omega)only[au,simprocAttr,fE,cE,bB,tr,rI,gM,eR,cm,de,fF,pO,j,J,cT];exact⟨_,rfl⟩)
     |nil=>
      cases t with
      |cons i0 i=>simp only[cT,fU];(refine bw fu ?_;simp(disch:=omega)only[au,simprocAttr,fE,cE,bB,tr,rI,gM,eR,cm,de,fF,pO,j,J,cT];exact⟨_,rfl⟩)
      |nil=>
       cases bm with
       |cons kr bm=>simp only[cT,fU];(refine bw fu ?_;simp(disch:=omega)only[au,simprocAttr,fE,cE,bB,tr,rI,gM,eR,cm,de,fF,pO,j,J,b3,cT];exact⟨_,rfl⟩)
       |nil=>simp only[dx,fU];(refine bw fu ?_;simp(disch:=omega)only[au,simprocAttr,fE,cE,bB,tr,rI,gM,eR,cm,de,fF,pO,j,J,b3,dx];exact⟨_,rfl⟩)
structure yT (m:M) (c:List U) (p:Nat) (H:aa):Prop where
 ak:h4 m H
 yI:3≤p
 av:H[p]?=some (.box c)
def A9{B:Nat}{H:aa}:∀{c:List U},(∀a∈c,∃x,a=.i x)→ew B H c=c
 |[],_=>by simp[ew]
 |a::r,h=>by obtain⟨x,rfl⟩:=h a (by simp);simp only[ew,ee];rw[A9 λ b ak=>h b (by simp[ak])]
def wV{aU:Nat→Option Nat}:∀{c:List U},(∀a∈c,∃x,a=.i x)→cB aU c=c∧bz c=[]
 |[],_=>by simp[cB,bz]
 |a::r,h=>by
  obtain⟨x,rfl⟩:=h a (by simp);have:=wV (aU:=aU) λ b ak=>h b (xK _ ak)
  simp[cB,co,bz,bd,this.1,this.2]
def A_{m:M}{p A af B ag fi eg lj:Nat}{T:aa}{aW:List Nat}{x y z:aD}(b0:bt (0::aW) A=some fi)(cM:bt (0::aW) B=some eg)(av:bt (0::aW) p=some lj):
  vd (0::aW) [(0,.ptr 0 0 0 0),(3,.ptr (p) 0 0 0),(47,.i x),(48,.i y),(49,.i z)] (.box (aT m A af B ag)::T)=([(0,.ptr 0 0 0 0),(3,.ptr (lj) 0 0 0),(47,.i x),(48,.i y),(49,.i z)],.box (aT m fi af eg ag)::aW.map λ c=>(((Chunk.box (aT m A af B ag)::T)[c]?).map (Chunk.cL (bt (0::aW)))).getD (.iter [] 0)):=by
 have aV:bt (0::aW) 0=some 0:=rfl;simp only[vd,fk,fp,co,av,aV,qn,d',iM,iq,jx _ m _ _ _ _ _ _ b0 cM]
def yU(aU:Nat→Option Nat)(z g s:Nat)(r:List bS):(Chunk.ax z g s r).cL aU=.ax z g s r:=rfl
def aM8{m:M}{c:List U}{p:Nat}{H:aa}(ah:∀a∈c,∃x,a=.i x)(h:yT m c p H)(x y z:aD):∃lj ap,gc 3 [(0,.ptr 0 0 0 0),(3,.ptr (p) 0 0 0),(47,.i x),(48,.i y),(49,.i z)] H=([(0,.ptr 0 0 0 0),(3,.ptr (lj) 0 0 0),(47,.i x),(48,.i y),(49,.i z)],ap)∧yT m c lj ap:=by
 obtain⟨⟨a,af,b,ag,T,rfl,a0,cV,aE,aH,AQ,AR,aB,ak,cU,an,mu,ch⟩,yI,av⟩:=h;obtain rfl:a=a0:=R;obtain rfl:b=cV:=R;obtain⟨p,rfl⟩:∃q,p=q+3:=⟨p-3,R⟩
 match T,an,aB,ak,av,mu,ch with
 |t0::t1::T,an,aB,ak,av,mu,ch=>
  have ix:=mu t0 rfl;have iJ:=ch t1 rfl;clear mu ch;have jY:=e8.2 (bF.1 av).1;have L6:=e8.2 (bF.1 aB).1;have L7:=e8.2 (bF.1 ak).1;have ahN:¬p+3=a+1:=λ e=>by have:p+2=a:=R;subst this;have av:(t0::t1::T)[p+2]?=_:=av;rw[aB]at av;cases av
  have ahO:¬p+3=b+1:=λ e=>by have:p+2=b:=R;subst this;have av:(t0::t1::T)[p+2]?=_:=av;rw[ak]at av;cases av
  have aM9:¬p+2=a:=R;have aM_:¬p+2=b:=R;have aM':=(wV (aU:=λ _=>none) ah).2;have wI:=λ aU=>(wV (aU:=aU) ah).1
  have dc:reach (.box (aT m (a+1) af (b+1) ag)::t0::t1::T) 64 [0,p+3,a+1,b+1] []=[0,a+1,b+1,p+3]:=by simp only[cT]at jY L6 L7;have mz:T[p]?=some (.box c):=av;simp[reach,jy,bC,aB,ak,mz,aM',Chunk.refs,L6,L7,ba cU,ahN,ahO,ba ahN,ba ahO,aM9,aM_,e8.2 (bF.1 mz).1]
  have la:mS 3 [(0,.ptr 0 0 0 0),(3,.ptr (p+3) 0 0 0),(47,.i x),(48,.i y),(49,.i z)] (.box (aT m (a+1) af (b+1) ag)::t0::t1::T)=[0,1,2]++([a+1,b+1,p+3].filter λ i=>decide (3≤i)):=by unfold mS;simp only[fk,fp,bz,bd,c_,ck,vM,nc,PH,sy,jy,bC,ix,iJ,dc];rfl
  have gf:=λ aU=>k7 ix aU
  have gL:=λ aU=>k7 iJ aU
  have mz:T[p]?=some (.box c):=av;rw[CE (by simp),la];rcases a with _|_|a<;>rcases b with _|_|b
  ·exact absurd rfl cU
  ·cases aB;cases ak;have gU:([0+1,0+1+1,p+3].filter λ i=>decide (3≤i))=[p+3]:=by simp[rS]
   rw[gU];refine⟨3,.box (aT m 1 af 2 ag)::[.ax 5 af aE (aX m.G),.ax 5 ag aH (aX m.O),.box c],?_,⟨0,af,1,ag,[.ax 5 af aE (aX m.G),.ax 5 ag aH (aX m.O),.box c],rfl,nO rfl rfl (by decide) rfl rfl⟩,R,rfl⟩;refine(A_ (aW:=[1,2,p+3]) (fi:=1) (eg:=2) (lj:=3) (by simp[bt]) (by simp[bt]) (by simp[bt])).trans ?_;simp only[fk,fp,jM,qn,show∀x:Nat,x+3=x+1+1+1 from λ _=>rfl,mz,d',iM,yU,iq,wI]
  ·have Hr:¬p=b:=R;cases aB;have js:T[b]?=_:=ak;have gU:([0+1,b+1+1+1,p+3].filter λ i=>decide (3≤i))=[b+1+1+1,p+3]:=by simp[rS]
   rw[gU];refine⟨4,.box (aT m 1 af 3 ag)::[.ax 5 af aE (aX m.G),t1,.ax 5 ag aH (aX m.O),.box c],?_,⟨0,af,2,ag,[.ax 5 af aE (aX m.G),t1,.ax 5 ag aH (aX m.O),.box c],rfl,nO rfl rfl (by decide) rfl iJ⟩,R,rfl⟩;refine(A_ (aW:=[1,2,b+1+1+1,p+3]) (fi:=1) (eg:=3) (lj:=4) (by simp[bt]) (by simp[bt]) (by simp[bt,Hr])).trans ?_;simp only[fk,fp,jM,qn,show∀x:Nat,x+3=x+1+1+1 from λ _=>rfl,mz,js,d',iM,yU,iq,wI,gL]
  ·cases aB;cases ak;have gU:([0+1+1,0+1,p+3].filter λ i=>decide (3≤i))=[p+3]:=by simp[rS]
   rw[gU];refine⟨3,.box (aT m 2 af 1 ag)::[.ax 5 ag aH (aX m.O),.ax 5 af aE (aX m.G),.box c],?_,⟨1,af,0,ag,[.ax 5 ag aH (aX m.O),.ax 5 af aE (aX m.G),.box c],rfl,nO rfl rfl (by decide) rfl rfl⟩,R,rfl⟩;refine(A_ (aW:=[1,2,p+3]) (fi:=2) (eg:=1) (lj:=3) (by simp[bt]) (by simp[bt]) (by simp[bt])).trans ?_;simp only[fk,fp,jM,qn,show∀x:Nat,x+3=x+1+1+1 from λ _=>rfl,mz,d',iM,yU,iq,wI]
  ·exact absurd rfl cU
  ·have Hr:¬p=b:=R;cases aB;have js:T[b]?=_:=ak;have gU:([0+1+1,b+1+1+1,p+3].filter λ i=>decide (3≤i))=[b+1+1+1,p+3]:=by simp[rS]
   rw[gU];refine⟨4,.box (aT m 2 af 3 ag)::[t0,.ax 5 af aE (aX m.G),.ax 5 ag aH (aX m.O),.box c],?_,⟨1,af,2,ag,[t0,.ax 5 af aE (aX m.G),.ax 5 ag aH (aX m.O),.box c],rfl,nO rfl rfl (by decide) ix rfl⟩,R,rfl⟩;refine(A_ (aW:=[1,2,b+1+1+1,p+3]) (fi:=2) (eg:=3) (lj:=4) (by simp[bt]) (by simp[bt]) (by simp[bt,Hr])).trans ?_;simp only[fk,fp,jM,qn,show∀x:Nat,x+3=x+1+1+1 from λ _=>rfl,mz,js,d',iM,yU,iq,wI,gf]
  ·have Hs:¬p=a:=R;have A':T[a]?=_:=aB;cases ak;have gU:([a+1+1+1,0+1,p+3].filter λ i=>decide (3≤i))=[a+1+1+1,p+3]:=by simp[rS]
   rw[gU];refine⟨4,.box (aT m 3 af 1 ag)::[.ax 5 ag aH (aX m.O),t1,.ax 5 af aE (aX m.G),.box c],?_,⟨2,af,0,ag,[.ax 5 ag aH (aX m.O),t1,.ax 5 af aE (aX m.G),.box c],rfl,nO rfl rfl (by decide) rfl iJ⟩,R,rfl⟩;refine(A_ (aW:=[1,2,a+1+1+1,p+3]) (fi:=3) (eg:=1) (lj:=4) (by simp[bt]) (by simp[bt]) (by simp[bt,Hs])).trans ?_;simp only[fk,fp,jM,qn,show∀x:Nat,x+3=x+1+1+1 from λ _=>rfl,mz,A',d',iM,yU,iq,wI,gL]
  ·have Hs:¬p=a:=R;have A':T[a]?=_:=aB;cases ak;have gU:([a+1+1+1,0+1+1,p+3].filter λ i=>decide (3≤i))=[a+1+1+1,p+3]:=by simp[rS]
   rw[gU];refine⟨4,.box (aT m 3 af 2 ag)::[t0,.ax 5 ag aH (aX m.O),.ax 5 af aE (aX m.G),.box c],?_,⟨2,af,1,ag,[t0,.ax 5 ag aH (aX m.O),.ax 5 af aE (aX m.G),.box c],rfl,nO rfl rfl (by decide) ix rfl⟩,R,rfl⟩;refine(A_ (aW:=[1,2,a+1+1+1,p+3]) (fi:=3) (eg:=2) (lj:=4) (by simp[bt]) (by simp[bt]) (by simp[bt,Hs])).trans ?_;simp only[fk,fp,jM,qn,show∀x:Nat,x+3=x+1+1+1 from λ _=>rfl,mz,A',d',iM,yU,iq,wI,gf]
  ·have aNa:¬b=a:=R;have Hr:¬p=b:=R;have Hs:¬p=a:=R;have A':T[a]?=_:=aB;have js:T[b]?=_:=ak;have gU:([a+1+1+1,b+1+1+1,p+3].filter λ i=>decide (3≤i))=[a+1+1+1,b+1+1+1,p+3]:=by simp[rS]
   rw[gU];refine⟨5,.box (aT m 3 af 4 ag)::[t0,t1,.ax 5 af aE (aX m.G),.ax 5 ag aH (aX m.O),.box c],?_,⟨2,af,3,ag,[t0,t1,.ax 5 af aE (aX m.G),.ax 5 ag aH (aX m.O),.box c],rfl,nO rfl rfl (by decide) ix iJ⟩,R,rfl⟩;refine(A_ (aW:=[1,2,a+1+1+1,b+1+1+1,p+3]) (fi:=3) (eg:=4) (lj:=5) (by simp[bt]) (by simp[bt,aNa]) (by simp[bt,Hs,Hr])).trans ?_;simp only[fk,fp,jM,qn,show∀x:Nat,x+3=x+1+1+1 from λ _=>rfl,mz,A',js,d',iM,yU,iq,wI,gf,gL]
def ahP{m:M}{c:List U}{p:Nat}{H:aa}(ah:∀a∈c,∃x,a=.i x)(h:yT m c p H)(x y z:aD):∃lj ap,mT 3 [(0,.ptr 0 0 0 0),(3,.ptr (p) 0 0 0),(47,.i x),(48,.i y),(49,.i z)] H=([(0,.ptr 0 0 0 0),(3,.ptr (lj) 0 0 0),(47,.i x),(48,.i y),(49,.i z)],ap)∧yT m c lj ap:=by
 have j:=h.yI;have J:=h.av;have e:mg 3 H [(0,.ptr 0 0 0 0),(3,.ptr (p) 0 0 0),(47,.i x),(48,.i y),(49,.i z)]=[(0,.ptr 0 0 0 0),(3,.ptr (p) 0 0 0),(47,.i x),(48,.i y),(49,.i z)]:=by simp[mg,ee,J,r6,Nat.not_lt.2 j]
 rw[Cy,e];refine aM8 ah ⟨?_,j,?_⟩ x y z
 ·obtain⟨A,af,B,ag,T,e,i⟩:=h.ak.iX (n:=3);have i0:=i;obtain⟨a,b,aE,aH,rfl,rfl,_⟩:=i;exact⟨a,af,b,ag,T,e,i0⟩
 ·rw[ul,J];simp only[d',dN,A9 ah]
def yT.call{f:Nat}{br:List U}{r:U}{m b1:M}{c:List U}{p:Nat}{H:aa}(he:E.ext f=none)(gR:bz br=[])(ai:bd r=[])(h:hr f br m r b1)(oU:yT m c p H):∃ap,cn f (.ptr 0 0 0 0::br) H r ap∧yT b1 c p ap:=by have aNb:=oU;obtain⟨⟨a,af,b,ag,T,rfl,a0,cV,aE,aH,AQ,AR,aB,ak,cU,an,mu,ch⟩,yI,av⟩:=oU;obtain rfl:a=a0:=R;obtain rfl:b=cV:=R;obtain⟨ap,e,j,J⟩:=Hm (H:=.box (aT m (a+1) af (b+1) ag)::T) (p:=0) (af:=af) (ag:=ag) he gR ai h ⟨rfl,⟨aE,aB⟩,⟨aH,ak⟩,R⟩;exact⟨ap,e,ahJ aNb.ak j J,yI,J.2.1 p _ av R trivial⟩
noncomputable def Ht(I:Fr)(H:aa):Option (eD×Fr×aa):=uv E 3 55 (e4 Tryz.f55 0) (mT 3 I H)
def u0(m:M)(v:Int)(on:Bool)(l:List Int):M:=l.foldl (λ m n=>D1 m v n on) m
def bk.u0{v:Int}{on:Bool}:∀{l:List Int} {m:M},bk m→bk (u0 m v on l)
 |[],_,h=>h
 |n::l,m,h=>bk.u0 (l:=l) (h.mod v n on)
def aNc(r c v:Int)(bm:List Int)(t:List UInt8)(on:Bool)(aNd:decide (c=104)=on)(bi:v=0∨v=63)(x5:bm.length<100000):∀(n k:Nat) (m:M) (p:Nat) (H:aa),k+n=bm.length→bk m→yT m [.i (.v (.int .i64 (4))),.i (.v (.int .i32 r)),.i (.v (.int .u8 (c))),.i (.v (.int .u8 (v))),.i (.str []),.i (.ae 1 (b3 bm) false),.i (.str t)] p H→∃I ap,Ht [(0,.ptr 0 0 0 0),(3,.ptr (p) 0 0 0),(47,.i (.ae 1 (b3 bm) false)),(48,.i (.v (.int .i64 (bm.length)))),(49,.i (.v (.int .i64 (k))))] H=some (.exit 1,I,ap)∧h4 (u0 m v on (bm.drop k)) ap:=by
 intro n;induction n with
 |zero=>intro k m p H az hm oU;obtain rfl:k=bm.length:=R;obtain⟨lj,H1,e,Ma⟩:=ahP (by simp) oU (.ae 1 (b3 bm) false) (.v (.int .i64 bm.length)) (.v (.int .i64 bm.length));unfold Ht;rw[e,v7,nd];rw[cF o2 0];simp(disch:=omega)only[au,simprocAttr,pM,bB,bM];exact⟨_,_,rfl,Ma.ak⟩
 |succ n a8=>intro k m p H az hm oU;obtain⟨lj,H1,e,Ma⟩:=ahP (by simp) oU (.ae 1 (b3 bm) false) (.v (.int .i64 bm.length)) (.v (.int .i64 k));unfold Ht;rw[e,v7];have fY:k<bm.length:=R;have al:=Az fY;have av:=Ma.av;obtain⟨bx,ao,aNe⟩:=Ma.call rfl rfl rfl (aL2 hm v bm[k] bi on);obtain⟨bN,oN,aI,ak⟩:=a8 (k+1) _ lj bx R (hm.mod v bm[k] on) aNe;rw[ji fY];rw[cF o2 0];simp(disch:=omega)only[au,simprocAttr,pM,bB,av,al,aNd,ao,aI,show∀I H,e3 E 3 55 (qN _) I H=Ht (norm [0,3,47,48,49] I) H from λ I H=>oZ rfl aJ aJ aJ aJ I H];exact⟨_,_,rfl,ak⟩
def aNf{f:Nat}{ox kK:List U}(h:f∈L'∧((ox=[]∧∃k,kK=[.ptr k 0 0 0])∨(ox=[.ptr 0 0 0 0]∧kK=[]))):li E f=true∧∀(l:List Int) (H:aa),gn E (b4 E) f (ox++[.i (.ae 1 (b3 l) false)]++kK) H=dj E (b4 E) f (ox++.i (.ae 1 (b3 l) false)::kK) H:=by
 obtain⟨aK,aS⟩:=h;simp only[L',mU,ya,or_false]at aK;rcases aK with rfl|rfl|rfl|rfl|rfl|rfl
 ·refine⟨nh.2.1,λ l H=>?_⟩;rcases aS with⟨rfl,k,rfl⟩|⟨rfl,rfl⟩<;>simp(disch:=omega)only[au,simprocAttr,bD,cE,kA,dk,nG,c',eN,kB,cN,nH,bB,acC,ck]
 ·refine⟨C7.2.1,λ l H=>?_⟩;rcases aS with⟨rfl,k,rfl⟩|⟨rfl,rfl⟩<;>simp(disch:=omega)only[au,simprocAttr,bD,cE,kA,dk,nG,c',eN,kB,cN,nH,bB,acD,ck]
 ·refine⟨Qu.2.1,λ l H=>?_⟩;rcases aS with⟨rfl,k,rfl⟩|⟨rfl,rfl⟩<;>simp(disch:=omega)only[au,simprocAttr,bD,cE,kA,dk,nG,c',eN,kB,cN,nH,bB,acE,ck]
 ·refine⟨KN.2.1,λ l H=>?_⟩;rcases aS with⟨rfl,k,rfl⟩|⟨rfl,rfl⟩<;>simp(disch:=omega)only[au,simprocAttr,bD,cE,kA,dk,nG,c',eN,kB,cN,nH,bB,acY,ck]
 ·refine⟨Qz.2.1,λ l H=>?_⟩;rcases aS with⟨rfl,k,rfl⟩|⟨rfl,rfl⟩<;>simp(disch:=omega)only[au,simprocAttr,bD,cE,kA,dk,nG,c',eN,kB,cN,nH,bB,acZ,ck]
 ·refine⟨QA.2.1,λ l H=>?_⟩;rcases aS with⟨rfl,k,rfl⟩|⟨rfl,rfl⟩<;>simp(disch:=omega)only[au,simprocAttr,bD,cE,kA,dk,nG,c',eN,kB,cN,nH,bB,ac0,ck]
def Su{l:List Int}(h:∀x∈l,x≤99999)(i:Int){d:Int}(aM:0≤d∧d≤1):d≤bW l i d∧bW l i d≤100000:=by
 unfold bW;split
 ·omega
 ·split
  ·omega
  ·rename_i j J;have hm:l.getD i.toNat 0∈l:=by rw[oV,eT R];exact mr _
   have:=h _ hm;split<;>omega
def D8(m:M)(s:List UInt8)(v:Int)(bm:List Int)(c:Int):M:=
 if s≠[]then m
 else if(c=104∨c=108)∧(v=0∨v=63)then u0 m v (decide (c=104)) bm
 else if c=104∨c=108∨v≠0 then m
 else if c=109 then{m with a:=wM m.a bm}
 else yR m c bm
def aNg{m:M}(hm:bk m)(r c v:Int)(s:List UInt8)(bm:List Int)(t:List UInt8)(x5:bm.length<100000)(ak:∀x∈bm,x≤99999):hr 55 [.agg [.i (.v (.int .i64 (4))),.i (.v (.int .i32 r)),.i (.v (.int .u8 (c))),.i (.v (.int .u8 (v))),.i (.str (s)),.i (.ae 1 (b3 bm) false),.i (.str t)]] m (.be []) (D8 m s v bm c):=by
 intro af aE ag aH;unfold D8;by_cases aS:s=[]
 ·rw[if_neg (λ h=>h aS)];subst aS;by_cases ah:c=104∨c=108
  ·by_cases bi:v=0∨v=63
   ·rw[if_pos ⟨ah,bi⟩];obtain⟨bN,ap,e,cM⟩:=aNc r c v bm t _ rfl bi x5 bm.length 0 m 3 (.box (aT m 1 af 2 ag)::.ax 5 af aE (aX m.G)::.ax 5 ag aH (aX m.O)::.box [.i (.v (.int .i64 (4))),.i (.v (.int .i32 r)),.i (.v (.int .u8 (c))),.i (.v (.int .u8 (v))),.i (.str ([])),.i (.ae 1 (b3 bm) false),.i (.str t)]::[]) R hm ⟨h4.dF,R,rfl⟩;rw[iy]at cM;rw[show((0:Nat):Int)=0 from rfl]at e;have fe:=cm bm;have hy:=show∀I H,e3 E 3 55 (qN _) I H=Ht (norm [0,3,47,48,49] I) H from λ I H=>oZ rfl aJ aJ aJ aJ I H
    rcases ah with rfl|rfl
    ·rcases bi with rfl|rfl
     ·rw[bp o2];simp(disch:=omega)only[au,simprocAttr,pM,bB,bM,bT,bC,hy,e,fe];exact⟨_,rfl,cM.iX⟩
     ·rw[bp o2];simp(disch:=omega)only[au,simprocAttr,pM,bB,bM,bT,bC,hy,e,fe];exact⟨_,rfl,cM.iX⟩
    ·rcases bi with rfl|rfl
     ·rw[bp o2];simp(disch:=omega)only[au,simprocAttr,pM,bB,bM,bT,bC,hy,e,fe];exact⟨_,rfl,cM.iX⟩
     ·rw[bp o2];simp(disch:=omega)only[au,simprocAttr,pM,bB,bM,bT,bC,hy,e,fe];exact⟨_,rfl,cM.iX⟩
   ·rw[if_neg (λ h=>bi h.2),if_pos R];have ahQ:¬v=0:=λ h=>bi (.inl h)
    have ahR:¬v=63:=λ h=>bi (.inr h)
    rcases ah with rfl|rfl
    ·rw[bp o2];simp(disch:=omega)only[au,simprocAttr,pM,bB,bM,bT,bC,ahQ,ahR];exact⟨_,rfl,eb.dF⟩
    ·rw[bp o2];simp(disch:=omega)only[au,simprocAttr,pM,bB,bM,bT,bC,ahQ,ahR];exact⟨_,rfl,eb.dF⟩
  ·have bb:¬c=104:=λ h=>ah (.inl h)
   have gD:¬c=108:=λ h=>ah (.inr h)
   rw[if_neg (λ h=>ah h.1)];by_cases bi:v=0
   ·rw[if_neg R];subst bi;by_cases gy:c=109
    ·rw[if_pos gy];subst gy;have ao:=λ H=>aLo m.a bm R (λ x al=>by have:=ak x al;omega) H
     obtain⟨bY,A'⟩:∃bY,wM m.a bm=bY:=⟨_,rfl⟩;rw[A']at ao⊢;rw[bp o2];simp(disch:=omega)only[au,simprocAttr,pM,bB,bM,bT,bC,ao];exact⟨_,rfl,eb.dF⟩
    ·rw[if_neg gy];have ao:=aM0 (m:=m) (af:=af) (ag:=ag) (aE:=aE) (aH:=aH) (c:=[.i (.v (.int .i64 (4))),.i (.v (.int .i32 r)),.i (.v (.int .u8 (c))),.i (.v (.int .u8 (0))),.i (.str ([])),.i (.ae 1 (b3 bm) false),.i (.str t)]);rw[aM2]at ao;have JM:St.length=26:=rfl;have x4:((lN 4 27).all λ c=>!c==3)=true:=rfl;have fo:=Su ak 0 (d:=1) R;have cV:=Su ak 0 (d:=0) R;obtain⟨aj,b'⟩:=ahM c aM4;cases aj with
     |none=>rw[aM5 b'];rw[bp o2];simp(disch:=omega)only[au,simprocAttr,pM,bB,bM,bT,bC,bb,gD,gy,ao,b',JM,x4];exact⟨_,rfl,eb.dF⟩
     |some a=>
      obtain⟨p,av,az,rfl⟩:=ahL b';obtain⟨cp,f,ox,kK,rfl,aK,ap,aI,cM⟩:=aM3 hm bm x5 fo cV af ag aE aH [.i (.v (.int .i64 (4))),.i (.v (.int .i32 r)),.i (.v (.int .u8 (c))),.i (.v (.int .u8 (0))),.i (.str ([])),.i (.ae 1 (b3 bm) false),.i (.str t)] p av;obtain⟨aNh,aNi⟩:=aNf aK;have k0:c=cp:=by have:=By az;simpa using this
      subst k0;rw[←aNi]at aI;simp only[D5]at aI;rw[bp o2];simp(disch:=omega)only[au,simprocAttr,pM,bB,bM,bT,bC,bb,gD,gy,ao,b',aNh,aI,JM,x4];exact⟨_,rfl,cM.iX⟩
   ·rw[if_pos (.inr (.inr bi))];rw[bp o2];simp(disch:=omega)only[au,simprocAttr,pM,bB,bM,bT,bC,bb,gD,bi];exact⟨_,rfl,eb.dF⟩
 ·rw[if_pos aS];have DR:(s==[])=false:=by simpa using aS
  by_cases ah:c=104
  ·subst ah;rw[bp o2];simp(disch:=omega)only[au,simprocAttr,pM,bB,bM,bT,bC,aS,DR];exact⟨_,rfl,eb.dF⟩
  ·by_cases ahS:c=108
   ·subst ahS;rw[bp o2];simp(disch:=omega)only[au,simprocAttr,pM,bB,bM,bT,bC,aS,DR];exact⟨_,rfl,eb.dF⟩
   ·rw[bp o2];simp(disch:=omega)only[au,simprocAttr,pM,bB,bM,bT,bC,aS,DR,ah,ahS];exact⟨_,rfl,eb.dF⟩
def i1{c:Prop} [Decidable c]{a b:M}(aB:bk a)(ak:bk b):bk (if c then a else b):=by split<;>assumption
def bk.Sv{m:M}(h:bk m){c:Int}{l:List Int}(ak:∀x∈l,x≤99999):bk (yR m c l):=by
 have fo:=Su ak 0 (d:=1) R;have ah:=h.aG.2.1;have bq:=h.cZ;have hw:=h.w;have Hu:∀n,bk (uY m n):=λ n=>by
  unfold uY;split
  ·exact(h.yH ⟨R,R⟩).me
  ·exact h
 unfold yR;exact i1 (h.G9 R)<|
  i1 (h.jX (AO _ _ h))<|
  i1 (h.jX (AO _ _ h))<|
  i1 (h.jX (LN _ _ h))<|
  i1 (h.jX (LN _ _ h))<|
  i1 ((h.jX (AO _ _ h)).me)<|
  i1 ((h.jX (AO _ _ h)).me)<|
  i1 (h.jX (agP _ h))<|
  i1 (h.jX (G5 _ _ h))<|
  i1 (bk.ag3 _ h)<|
  i1 (h.aKQ)<|
  i1 (h.era)<|
  i1 (Hu _)<|
  i1 (Hu _)<|
  i1 (h.G9 R)<|
  i1 (h.yH ⟨bq.1,bq.2.1⟩)<|
  i1 (h.yH ⟨bq.1,bq.2.1⟩)<|
  i1 (h.wJ R R)<|
  i1 (bk.ag4 _ h)<|
  i1 (h.jX (agP _ h))<|
  i1 (h.jX (LN _ _ h))<|
  i1 (h.jX (G5 _ _ h))<|
  i1 (h.jX (AO _ _ h))<|
  i1 (h.jX (G5 _ _ h))<|
  i1 (h.RX)<|
  i1 (h.RZ)<|
  i1 (h.R1)<|
  i1 (h.Hi)<|
  i1 (h.D2) h
def bk.seq{m:M}(h:bk m){s:List UInt8}{v c:Int}{bm:List Int}(ak:∀x∈bm,x≤99999):bk (D8 m s v bm c):=by
 unfold D8
 repeat' split
 ·exact h
 ·exact h.u0
 ·exact h
 ·exact{w:=h.w,h:=h.h,G:=h.G,O:=h.O,aG:=h.aG,bP:=h.bP,a:=aLn h.a _,aE:=h.aE,cZ:=h.cZ,cv:=h.cv,back:=h.back,bK:=h.bK,hF:=h.hF,eH:=h.eH,di:=h.di}
 ·exact h.Sv ak
def aNj{d:iz}(h:wm d.s)(ai:∀c∈d.out,0≤c∧c≤2147483647)(i b:Int)(aV:0≤b)(j:b≤255):∀c∈(fv d i b).out,0≤c∧c≤2147483647:=by
 have aB:∀(l:List Int) (x:Int),(∀c∈l,0≤c∧c≤2147483647)→0≤x→x≤2147483647→∀c∈l++[x],0≤c∧c≤2147483647:=by
  intro l x an al ze c ah;rcases fT.1 ah with h|h
  ·exact an c h
  ·rw[yP.1 h];exact⟨al,ze⟩
 unfold fv;split
 ·rename_i ah;simp only;split
  ·have:0≤d.s.v∧d.s.v<32768:=by unfold wm at h;omega
   exact aB _ _ ai R R
  ·exact ai
 ·have b':∀c∈(if 0<d.s.dX then d.out++[65533]else d.out),0≤c∧c≤2147483647:=by
   split
   ·exact aB _ _ ai R R
   ·exact ai
  simp only;generalize (if 0<d.s.dX then d.out++[65533]else d.out)=aj at b'⊢;split
  ·exact aB _ _ b' aV R
  ·split
   ·exact aB _ _ b' R R
   ·exact b'
def ahT:∀(l:List UInt8) (i:Nat) (d:iz),wm d.s→(∀c∈d.out,0≤c∧c≤2147483647)→∀c∈(gB l i d).out,0≤c∧c≤2147483647
 |[],i,d,h,ai=>ai
 |b::l,i,d,h,ai=>by
  have ak:((b.toNat:Nat):Int)≤255:=by have:=b.toNat_lt;omega
  exact ahT l (i+1) _ (afb h _ _ R ak) (aNj h ai _ _ R ak)
def aNk(t:List UInt8):∀c∈hE t,0≤c∧c≤2147483647:=ahT t 0 ⟨k6,[],0⟩ (.inl rfl) (by simp)
def u1(t:List UInt8):List Int:=hE t++if kh t=[]then[]else[65533]
def ahU(t:List UInt8):(u1 t).length≤2*t.length+1:=by have:=GF t;unfold u1;rw[dd];split<;>simp<;>omega
def aNl(t:List UInt8)(bq:(t.length:Int)<50000):gi 114 [.i (.str t)] (.i (.ae 1 (g_ (u1 t)) false)):=by
 have aM:=λ H=>rI [] t (by simp;omega) H
 rw[gM]at aM;have an:=GF t;have ai:=de (hE t);have qF:eo (hE t).length (g_ (hE t))=g_ (hE t):=rH R;unfold u1;by_cases aV:kh t=[]
 ·rw[if_pos aV,c_];refine bw Qn ?_;simp(disch:=omega)only[au,simprocAttr,adV,cE,aM,aV,ai,qF];exact⟨_,rfl⟩
 ·rw[if_neg aV];have aNm:=K7 (hE t) 65533;have Sw:(kh t==[])=false:=by simp[aV]
  have ia:=de (hE t++[65533]);have aNn:eo ((hE t).length+1) (g_ (hE t++[65533]))=g_ (hE t++[65533]):=rH (by rw[ia,dd];exact cQ _);refine bw Qn ?_;simp(disch:=omega)only[au,simprocAttr,adV,cE,aM,aV,Sw,ai,ia,qF,aNn,aNm];exact⟨_,rfl⟩
def aNo(t:List UInt8)(bq:(t.length:Int)<50000)(H:aa):ct 114 [.i (.str t)] H (.i (.ae 1 (g_ (u1 t)) false)):=gX rfl rfl rfl (aNl t bq)
def aNp(t:List UInt8):∀c∈u1 t,-2147483648≤c∧c≤2147483647:=by
 intro c ah;unfold u1 at ah;rcases fT.1 ah with h|h
 ·have:=aNk t c h;omega
 ·split at h
  ·simp at h
  ·simp at h;omega
def aNq(r:Int):(eU r).length≤4:=by
 unfold eU;repeat' split
 all_goals simp
def ahV:∀l:List Int,(dQ l).length≤4*l.length
 |[]=>by simp[dQ,f_]
 |r::l=>by have j:=aNq r;have J:=ahV l;rw[tu,dd,Dq,cT];omega
def aNr(l:List Int)(an:l.length≤100000)(ai:∀r∈l,-2147483648≤r∧r≤2147483647):∀(n k:Nat),k+n=l.length→
  hT wi 0 [(3,.ref 0 0 0 (dQ (l.take k)).length),(6,.i (.ae 1 (g_ l) false)),(7,l.length),(8,k)] [.ae 1 0 (dP (dQ (l.take k))) false] 0 [(3,.ref 0 0 0 (dQ l).length),(6,.i (.ae 1 (g_ l) false)),(7,l.length),(8,l.length),(9,false)] [.ae 1 0 (dP (dQ l)) false]:=by
 intro n;induction n with
 |zero=>intro k az;obtain rfl:k=l.length:=R;rw[List.take_length];refine(cF wi 0).trans ?_;simp(disch:=omega)only[au,simprocAttr,CZ,cE,dk,ea]
 |succ n a8=>
  intro k az;have fY:k<l.length:=R;have al:=Q_ fY;have a8:=a8 (k+1) R;refine fZ ?_ a8;clear a8;have bq:dQ (l.take (k+1))=dQ (l.take k)++f_ (eU l[k]):=by rw[GO fY,afG,afH]
  have hle:=ahV (l.take k);have bf:(l.take k).length=k:=by rw[gE];omega
  have fF:=λ T=>afl l[k] (ai _ (mr fY)) (dQ (l.take k)) _ rfl R T
  have sJ:(dQ (l.take k)++f_ (eU l[k])).length=(dQ (l.take k)).length+(eU l[k]).length:=by rw[dd,Dq]
  rw[bq,sJ];refine(cF wi 0).trans ?_;simp(disch:=omega)only[au,simprocAttr,CZ,cE,dk,al,fF,ea,sJ,KX]
def aNs(l:List Int)(an:l.length≤100000)(ai:∀r∈l,-2147483648≤r∧r≤2147483647)(H:aa):ct 113 [.i (.ae 1 (g_ l) false)] H (.i (.str (dQ l))):=cu (by
 have ao:=aNr l an ai l.length 0 R;rw[nc,Li,show dP []=[]from rfl,show((0:Nat):Int)=0 from rfl,dx]at ao;have fe:=de l;have FSq:=ea (dQ l);refine bw wi ?_;simp(disch:=omega)only[au,simprocAttr,CZ,cE,dk,ao,fe,mH,d',l9,ma,KX];exact⟨_,rfl⟩)
def aNt(s p:List UInt8):gi 187 [.i (.str s),.i (.str p)] (↑(s.take p.length==p)):=by
 by_cases h:p.length≤s.length
 ·have J:(p.length:Int)≤s.length:=R;refine bw QB ?_;simp(disch:=omega)only[au,simprocAttr,aex,h,J];exact⟨_,rfl⟩
 ·have J:¬(p.length:Int)≤s.length:=R;have e:(s.take p.length==p)=false:=by rw[beq_eq_false_iff_ne];intro e;have:=congrArg Ci e;rw[gE]at this;omega
  rw[e];refine bw QB ?_;simp(disch:=omega)only[au,simprocAttr,aex,h,J];exact⟨_,rfl⟩
def aNu(s p:List UInt8)(H:aa):ct 187 [.i (.str s),.i (.str p)] H (↑(s.take p.length==p)):=gX rfl rfl rfl (aNt s p)
def ahW(s p:List UInt8)(H:aa):ct 112 [.i (.str s),.i (.str p)] H (↑(s.take p.length==p)):=cu (by
 have e:=λ H=>aNu s p H
 refine bw adU ?_;simp(disch:=omega)only[au,simprocAttr,aE9,e];exact⟨_,rfl⟩)
def Hv(t:List UInt8):Bool:=(t.take 2==[48,59])||(t.take 2==[50,59])
def aNv(t:List UInt8)(bq:t.length≤10000)(H:aa):ct 56 [.i (.str t)] H (.be [.i (.str (if Hv t=true then dQ (u1 (t.drop 2))else[])),↑(Hv t)]):=cu (by
 have ao:=λ H=>ahW t [48,59] H
 have aI:=λ H=>ahW t [50,59] H
 simp only[cX,cq,c2]at ao aI;have aM:(t.drop 2).length≤t.length:=by rw[ic];omega
 have bE:=λ H=>aNo (t.drop 2) R H
 have hk:=ahU (t.drop 2);have c6:=λ H=>aNs (u1 (t.drop 2)) R (aNp _) H
 unfold Hv;have J:∀a b:UInt8,(t.take 2==[a,b])=true→2≤t.length:=λ a b h=>by have:=congrArg Ci (beq_iff_eq.1 h);rw[gE]at this;simp at this;omega
 cases ca:t.take 2==[48,59]with
 |true=>have:=J _ _ ca;rw[ca]at ao;refine bw Kv ?_;simp(disch:=first|omega|(simp only[dW];omega))only[au,simprocAttr,Qh,cE,ao,aI,bE,c6,Bool.true_or];exact⟨_,rfl⟩
 |false=>
  rw[ca]at ao;cases cc:t.take 2==[50,59]with
  |true=>have:=J _ _ cc;rw[cc]at aI;refine bw Kv ?_;simp(disch:=first|omega|(simp only[dW];omega))only[au,simprocAttr,Qh,cE,ao,aI,bE,c6,Bool.or_true];exact⟨_,rfl⟩
  |false=>
   rw[cc]at aI;refine bw Kv ?_;simp(disch:=first|omega|(simp only[dW];omega))only[au,simprocAttr,Qh,cE,ao,aI,bE,c6,Bool.or_self,fK];exact⟨_,rfl⟩)
def aNw(r c v:Int)(i:List UInt8)(bm:List Int)(t:List UInt8):
  gi 88 [uZ ⟨2,r,c,v,i,bm,t⟩] (↑(Hp ⟨2,r,c,v,i,bm,t⟩)):=by
 rw[yS];unfold Hp;simp only[];by_cases j:32≤c
 ·simp only[j,fU];(refine bw fu ?_;simp(disch:=omega)only[au,simprocAttr,fE,cE,bB,eR,cm,de,j,j];exact⟨_,rfl⟩)
 by_cases J:c=24
 ·simp only[J,fU];(refine bw fu ?_;simp(disch:=omega)only[au,simprocAttr,fE,cE,bB,eR,cm,de,j,J];exact⟨_,rfl⟩)
 by_cases aw:c=26
 ·simp only[aw,fU];(refine bw fu ?_;simp(disch:=omega)only[au,simprocAttr,fE,cE,bB,eR,cm,de,j,J,aw];exact⟨_,rfl⟩)
 by_cases bb:c=27
 ·simp only[bb,fU];(refine bw fu ?_;simp(disch:=omega)only[au,simprocAttr,fE,cE,bB,eR,cm,de,j,J,aw,bb];exact⟨_,rfl⟩)
 simp only[j,J,aw,bb,decide_false,x1,rF,jQ];by_cases qr:r=0;rotate_left
 ·simp only[qr,fU];(refine bw fu ?_;simp(disch:=omega)only[au,simprocAttr,fE,cE,bB,eR,cm,de,j,J,aw,bb,qr];exact⟨_,rfl⟩)
 subst qr;by_cases p5:v=0;rotate_left
 ·simp only[p5,fU];(refine bw fu ?_;simp(disch:=omega)only[au,simprocAttr,fE,cE,bB,eR,cm,de,j,J,aw,bb,p5];exact⟨_,rfl⟩)
 subst p5;cases i with
 |cons i0 i=>simp only[cT,fU];(refine bw fu ?_;simp(disch:=omega)only[au,simprocAttr,fE,cE,bB,eR,cm,de,j,J,aw,bb,cT];exact⟨_,rfl⟩)
 |nil=>
  cases t with
  |cons t0 t=>simp only[cT,fU];(refine bw fu ?_;simp(disch:=omega)only[au,simprocAttr,fE,cE,bB,eR,cm,de,j,J,aw,bb,cT];exact⟨_,rfl⟩)
  |nil=>
   cases bm with
   |cons kr bm=>simp only[cT,fU];(refine bw fu ?_;simp(disch:=omega)only[au,simprocAttr,fE,cE,bB,eR,cm,de,j,J,aw,bb,b3,cT];exact⟨_,rfl⟩)
   |nil=>simp only[dx,fU];(refine bw fu ?_;simp(disch:=omega)only[au,simprocAttr,fE,cE,bB,eR,cm,de,j,J,aw,bb,b3,dx];exact⟨_,rfl⟩)
def aNx(r c v:Int)(i:List UInt8)(bm:List Int)(t:List UInt8):
  gi 88 [uZ ⟨3,r,c,v,i,bm,t⟩] (↑(D6 ⟨3,r,c,v,i,bm,t⟩)):=by
 rw[yS];unfold D6;simp only[];by_cases j:3≤i.length
 ·have gz:3≤(i.length:Int):=R;simp only[j,fU];(refine bw fu ?_;simp(disch:=omega)only[au,simprocAttr,fE,cE,bB,eR,cm,de,gz,j];exact⟨_,rfl⟩)
 have gz:¬3≤(i.length:Int):=R;cases J:i.any (kE 32 47)with
 |true=>simp only[J,fU];(refine bw fu ?_;simp(disch:=omega)only[au,simprocAttr,fE,cE,bB,eR,cm,de,j,gz,J];exact⟨_,rfl⟩)
 |false=>
 simp only[j,decide_false,rF,jQ];by_cases aw:c<48
 ·simp only[aw,fU];(refine bw fu ?_;simp(disch:=omega)only[au,simprocAttr,fE,cE,bB,eR,cm,de,gz,J,aw];exact⟨_,rfl⟩)
 by_cases bb:126<c
 ·simp only[bb,fU];(refine bw fu ?_;simp(disch:=omega)only[au,simprocAttr,fE,cE,bB,eR,cm,de,gz,J,aw,bb];exact⟨_,rfl⟩)
 simp only[aw,bb,decide_false,x1,rF,jQ];have key:(i=[]∧c=91)∨(i=[]∧c=93)∨(i=[]∧¬c=91∧¬c=93)∨(¬i=[]∧i.isEmpty=false):=by
  cases i with
  |cons i0 i=>exact .inr (.inr (.inr ⟨by simp,rfl⟩))
  |nil=>
    by_cases q:c=91
    ·exact .inl ⟨rfl,q⟩
    ·by_cases BV:c=93
     ·exact .inr (.inl ⟨rfl,BV⟩)
     ·exact .inr (.inr (.inl ⟨rfl,q,BV⟩))
 rcases key with⟨rfl,rfl⟩|⟨rfl,rfl⟩|⟨rfl,bu,dw⟩|⟨bu,dw⟩
 ·simp only[J,fU];(refine bw fu ?_;simp(disch:=omega)only[au,simprocAttr,fE,cE,bB,eR,cm,de,J,dx,List.any_nil,J];exact⟨_,rfl⟩)
 ·simp only[J,fU];(refine bw fu ?_;simp(disch:=omega)only[au,simprocAttr,fE,cE,bB,eR,cm,de,J,dx,List.any_nil,J];exact⟨_,rfl⟩)
 ·simp only[bu,dw,decide_false,x1,yb,rF,jQ,List.isEmpty_nil];by_cases qr:r=0;rotate_left
  ·simp only[qr,fU];(refine bw fu ?_;simp(disch:=omega)only[au,simprocAttr,fE,cE,bB,eR,cm,de,J,aw,bb,bu,dw,qr];exact⟨_,rfl⟩)
  subst qr;by_cases p5:v=0;rotate_left
  ·simp only[p5,fU];(refine bw fu ?_;simp(disch:=omega)only[au,simprocAttr,fE,cE,bB,eR,cm,de,J,aw,bb,bu,dw,p5];exact⟨_,rfl⟩)
  subst p5;cases t with
  |cons t0 t=>simp only[cT,fU];(refine bw fu ?_;simp(disch:=omega)only[au,simprocAttr,fE,cE,bB,eR,cm,de,J,aw,bb,bu,dw,cT];exact⟨_,rfl⟩)
  |nil=>
   cases bm with
   |cons kr bm=>simp only[cT,fU];(refine bw fu ?_;simp(disch:=omega)only[au,simprocAttr,fE,cE,bB,eR,cm,de,J,aw,bb,bu,dw,b3,cT];exact⟨_,rfl⟩)
   |nil=>simp only[dx,fU];(refine bw fu ?_;simp(disch:=omega)only[au,simprocAttr,fE,cE,bB,eR,cm,de,J,aw,bb,bu,dw,b3,dx];exact⟨_,rfl⟩)
 ·simp only[decide_false,ly,rF,jQ,dw];by_cases qr:r=0;rotate_left
  ·simp only[qr,fU];(refine bw fu ?_;simp(disch:=omega)only[au,simprocAttr,fE,cE,bB,eR,cm,de,gz,J,aw,bb,bu,qr];exact⟨_,rfl⟩)
  subst qr;by_cases p5:v=0;rotate_left
  ·simp only[p5,fU];(refine bw fu ?_;simp(disch:=omega)only[au,simprocAttr,fE,cE,bB,eR,cm,de,gz,J,aw,bb,bu,p5];exact⟨_,rfl⟩)
  subst p5;cases t with
  |cons t0 t=>simp only[cT,fU];(refine bw fu ?_;simp(disch:=omega)only[au,simprocAttr,fE,cE,bB,eR,cm,de,gz,J,aw,bb,bu,cT];exact⟨_,rfl⟩)
  |nil=>
   cases bm with
   |cons kr bm=>simp only[cT,fU];(refine bw fu ?_;simp(disch:=omega)only[au,simprocAttr,fE,cE,bB,eR,cm,de,gz,J,aw,bb,bu,b3,cT];exact⟨_,rfl⟩)
   |nil=>simp only[dx,fU];(refine bw fu ?_;simp(disch:=omega)only[au,simprocAttr,fE,cE,bB,eR,cm,de,gz,J,aw,bb,bu,b3,dx];exact⟨_,rfl⟩)
def aNy(r c v:Int)(i:List UInt8)(bm:List Int)(t:List UInt8)(gU:∀H,ct 130 [.i (.v (.int .u8 v)),.i (.ae 1 (b3 bm) false),.i (.str i)] H (pW (o' v bm i))):
  gi 88 [uZ ⟨4,r,c,v,i,bm,t⟩] (↑(D7 ⟨4,r,c,v,i,bm,t⟩)):=by
 rw[yS];unfold D7;simp only[];unfold pW at gU;generalize o' v bm i=q at*;by_cases j:q.2=0;rotate_left
 ·simp only[j,fU];(refine bw fu ?_;simp(disch:=omega)only[au,simprocAttr,fE,cE,bB,eR,cm,de,gU,j];exact⟨_,rfl⟩)
 simp only[j,decide_true,jQ];by_cases J:c<64
 ·simp only[J,fU];(refine bw fu ?_;simp(disch:=omega)only[au,simprocAttr,fE,cE,bB,eR,cm,de,gU,j,J];exact⟨_,rfl⟩)
 by_cases aw:126<c
 ·simp only[aw,fU];(refine bw fu ?_;simp(disch:=omega)only[au,simprocAttr,fE,cE,bB,eR,cm,de,gU,j,J,aw];exact⟨_,rfl⟩)
 simp only[J,aw,decide_false,x1,rF,jQ];by_cases qr:r=0;rotate_left
 ·simp only[qr,fU];(refine bw fu ?_;simp(disch:=omega)only[au,simprocAttr,fE,cE,bB,eR,cm,de,gU,j,J,aw,qr];exact⟨_,rfl⟩)
 subst qr;cases t with
 |cons t0 t=>simp only[cT,fU];(refine bw fu ?_;simp(disch:=omega)only[au,simprocAttr,fE,cE,bB,eR,cm,de,gU,j,J,aw,cT];exact⟨_,rfl⟩)
 |nil=>simp only[dx,fU];(refine bw fu ?_;simp(disch:=omega)only[au,simprocAttr,fE,cE,bB,eR,cm,de,gU,j,J,aw,dx];exact⟨_,rfl⟩)
def aNz(r c v:Int)(i:List UInt8)(bm:List Int)(t:List UInt8):
  gi 88 [uZ ⟨5,r,c,v,i,bm,t⟩] (↑(Hq ⟨5,r,c,v,i,bm,t⟩)):=by
 rw[yS];unfold Hq;simp only[];by_cases j:256<t.length
 ·have gz:256<(t.length:Int):=R;simp only[j,fU];(refine bw fu ?_;simp(disch:=omega)only[au,simprocAttr,fE,cE,bB,eR,cm,de,gz,j];exact⟨_,rfl⟩)
 have gz:¬256<(t.length:Int):=R;cases J:t.any (kE 32 255)with
 |true=>simp only[J,fU];(refine bw fu ?_;simp(disch:=omega)only[au,simprocAttr,fE,cE,bB,eR,cm,de,j,gz,J];exact⟨_,rfl⟩)
 |false=>
 simp only[j,decide_false,rF,jQ];by_cases qr:r=0;rotate_left
 ·simp only[qr,fU];(refine bw fu ?_;simp(disch:=omega)only[au,simprocAttr,fE,cE,bB,eR,cm,de,gz,J,qr];exact⟨_,rfl⟩)
 subst qr;by_cases Sx:c=0;rotate_left
 ·simp only[Sx,fU];(refine bw fu ?_;simp(disch:=omega)only[au,simprocAttr,fE,cE,bB,eR,cm,de,gz,J,Sx];exact⟨_,rfl⟩)
 subst Sx;by_cases p5:v=0;rotate_left
 ·simp only[p5,fU];(refine bw fu ?_;simp(disch:=omega)only[au,simprocAttr,fE,cE,bB,eR,cm,de,gz,J,p5];exact⟨_,rfl⟩)
 subst p5;cases i with
 |cons i0 i=>simp only[cT,fU];(refine bw fu ?_;simp(disch:=omega)only[au,simprocAttr,fE,cE,bB,eR,cm,de,gz,J,cT];exact⟨_,rfl⟩)
 |nil=>
  cases bm with
  |cons kr bm=>simp only[cT,fU];(refine bw fu ?_;simp(disch:=omega)only[au,simprocAttr,fE,cE,bB,eR,cm,de,gz,J,b3,cT];exact⟨_,rfl⟩)
  |nil=>simp only[dx,fU];(refine bw fu ?_;simp(disch:=omega)only[au,simprocAttr,fE,cE,bB,eR,cm,de,gz,J,b3,dx];exact⟨_,rfl⟩)
def D9(e:dy):Prop:=(-2147483648≤e.r∧e.r≤2147483647)∧(0≤e.c∧e.c<256)∧(0≤e.v∧e.v<256)
def Mb(e:dy):Prop:=∀H,dj E (b4 E) 130 [.i (.v (.int .u8 e.v)),.i (.ae 1 (b3 e.bm) false),.i (.str e.i)] H=some (pW (o' e.v e.bm e.i),H)
def tD(e:dy):Int:=if e.k<1∨5<e.k then 9 else if p4 e=true then 0 else 1
def aNA(e:dy)(he:D9 e)(az:1≤e.k∧e.k≤5)(gU:e.k=4→Mb e):gi 88 [uZ e] (↑(p4 e)):=by
 obtain⟨k,r,c,v,i,bm,t⟩:=e;have:k=1∨k=2∨k=3∨k=4∨k=5:=by simp only at az;omega
 rcases this with rfl|rfl|rfl|rfl|rfl
 ·exact aM6 r he.1 c v i bm t
 ·exact aNw r c v i bm t
 ·exact aNx r c v i bm t
 ·exact aNy r c v i bm t (gU rfl)
 ·exact aNz r c v i bm t
def aNB(e:dy)(he:D9 e)(az:1≤e.k∧e.k≤5)(gU:e.k=4→Mb e)(H:aa):ct 88 [.agg [e.k,.i (.v (.int .i32 e.r)),.i (.v (.int .u8 e.c)),.i (.v (.int .u8 e.v)),.i (.str e.i),.i (.ae 1 (b3 e.bm) false),.i (.str e.t)]] H (↑(p4 e)):=gX rfl rfl rfl (aNA e he az gU)
def aNC(e:dy)(he:D9 e)(gU:e.k=4→Mb e):gi 50 [uZ e] (↑(tD e)):=by
 rw[yS];unfold tD;by_cases j:e.k<1
 ·rw[if_pos (.inl j)];refine bw Ge ?_;simp(disch:=omega)only[au,simprocAttr,Ku,j];exact⟨_,rfl⟩
 by_cases J:5<e.k
 ·rw[if_pos (.inr J)];refine bw Ge ?_;simp(disch:=omega)only[au,simprocAttr,Ku,j,J];exact⟨_,rfl⟩
 rw[if_neg R];have fF:=λ H=>aNB e he R gU H
 cases ai:p4 e with
 |true=>rw[if_pos rfl];rw[ai]at fF;refine bw Ge ?_;simp(disch:=omega)only[au,simprocAttr,Ku,j,J,fF];exact⟨_,rfl⟩
 |false=>rw[if_neg (by simp)];rw[ai]at fF;refine bw Ge ?_;simp(disch:=omega)only[au,simprocAttr,Ku,j,J,fF];exact⟨_,rfl⟩
def aND(e:dy)(he:D9 e)(gU:e.k=4→Mb e)(H:aa):ct 50 [.agg [e.k,.i (.v (.int .i32 e.r)),.i (.v (.int .u8 e.c)),.i (.v (.int .u8 e.v)),.i (.str e.i),.i (.ae 1 (b3 e.bm) false),.i (.str e.t)]] H (↑(tD e)):=gX rfl rfl rfl (aNC e he gU)
def aNE{e:dy}(h:tD e=0):e.k=1∨e.k=2∨e.k=3∨e.k=4∨e.k=5:=by
 unfold tD at h;split at h
 ·cases h
 ·omega
def ahX{p:Int}{l:List Int}{s:List UInt8}(h:(o' p l s).2=0):(p=0∨qB p=true)∧uI s=true∧l≠[-1]∧l.any mI=false∧kf l s=true∧(o' p l s).1=(if p=0 then[]else[h6 p.toNat])++fmtG true l++s:=by
 unfold o' at h⊢;split at h
 ·cases h
 ·rename_i j;split at h
  ·cases h
  ·rename_i J;split at h
   ·cases h
   ·rename_i aw;rw[if_neg j,if_neg J,if_neg aw];refine⟨?_,?_,λ q=>j (.inr (.inr q)),by simpa using J,by simpa using aw,rfl⟩
    ·by_cases q:p=0
     ·exact .inl q
     ·exact .inr (by
       cases bi:qB p with
       |true=>rfl
       |false=>exact absurd (.inl ⟨q,bi⟩) j)
    ·cases bq:uI s with
     |true=>rfl
     |false=>exact absurd (.inr (.inl bq)) j
def aNF{p:Int}{l:List Int}{s:List UInt8}(h:(o' p l s).2=0):l.length≤16∧s.length≤2∧(o' p l s).1.length≤400:=by
 obtain⟨_,_,_,_,bu,dw⟩:=ahX h;have aP:=G_ l true (yL bu);simp only[kf,cO,decide_eq_true_eq]at bu;refine⟨bu.1.1,bu.1.2,?_⟩;rw[dw];simp only[dd];have:(if p=0 then([]:List UInt8)else[h6 p.toNat]).length≤1:=by split<;>simp
 omega
def Sy{e:dy}(h:tD e=0):e.i.length≤2∧e.t.length≤256∧e.bm.length≤16∧(e.k=4→(o' e.v e.bm e.i).1.length≤400):=by
 unfold tD at h;split at h
 ·cases h
 rename_i az;split at h
 ·rename_i ai;unfold p4 at ai;have z:∀{α:Type} {l:List α},l.isEmpty=true→l.length=0:=λ{α l} h=>by cases l with|nil=>rfl|cons=>cases h
  repeat' split at ai
  ·simp only[A8,cO]at ai;have:=z ai.2.1.1.2;have:=z ai.2.1.2;have:=z ai.2.2
   refine⟨R,R,R,λ h=>R⟩
  ·simp only[Hp,cO]at ai;have:=z ai.2.1.1.2;have:=z ai.2.1.2;have:=z ai.2.2
   refine⟨R,R,R,λ h=>R⟩
  ·simp only[D6,cO,rj,decide_eq_false_iff_not]at ai;have:=z ai.2.1.2;have:=z ai.2.2
   refine⟨R,R,R,λ h=>R⟩
  ·simp only[D7,cO,decide_eq_true_eq]at ai;have:=z ai.2.2;have:=aNF ai.1.1;refine⟨R,R,R,λ h=>R⟩
  ·simp only[Hq,cO,rj,decide_eq_false_iff_not]at ai;have:=z ai.2.1.2;have:=z ai.2.2
   refine⟨R,R,R,λ h=>R⟩
  ·cases ai
 ·cases h
def Sz:∀(l:List UInt8) (b:UInt8) (i:Nat) (d:iz),gB (l++[b]) i d=fv (gB l i d) ((i+l.length:Nat)) b.toNat
 |[],b,i,d=>by simp[gB]
 |c::l,b,i,d=>by have:=Sz l b (i+1) (fv d i c.toNat);simp only[uy,gB,this,cT];rw[show i+1+l.length=i+(l.length+1)by omega]
def aNG:∀n:Nat,n<256→¬(er n).dX=0→128≤n:=by decide+kernel
def Ba(t:List UInt8)(i:Nat)(d:iz):Prop:=d.s.dX=0∨(0≤d.bK∧d.bK≤i∧0<d.s.dX∧gB ((t.take i).drop d.bK.toNat) 0 ⟨k6,[],0⟩=⟨d.s,[],0⟩)
def aNH{t:List UInt8}{i:Nat}(aA:i<t.length){d:iz}(aV:0≤d.s.dX)(h:Ba t i d):0≤(fv d i t[i].toNat).s.dX∧Ba t (i+1) (fv d i t[i].toNat):=by
 have ak:=afu t[i].toNat t[i].toNat_lt;have py:=aNG t[i].toNat t[i].toNat_lt;have qF:t.take (i+1)=t.take i++[t[i]]:=by rw[GO aA]
 by_cases ah:0<d.s.dX∧d.s.bU≤t[i].toNat∧(t[i].toNat:Int)≤d.s.aA
 ·have gS:fv d i t[i].toNat=⟨⟨d.s.v*64+(t[i].toNat:Int)%64,d.s.dX-1,128,191⟩,if d.s.dX-1=0 then d.out++[d.s.v*64+(t[i].toNat:Int)%64]else d.out,d.bK⟩:=by rw[fv,if_pos ah]
  rw[gS];refine⟨by simp only;omega,?_⟩;unfold Ba at*;simp only;by_cases hm:d.s.dX-1=0
  ·exact .inl hm
  ·right;rcases h with h|⟨g1,g2,g3,g4⟩
   ·omega
   ·refine⟨g1,R,R,?_⟩;rw[qF,List.drop_append_of_le_length (by simp;omega),Sz,g4,fv,if_pos ah,if_neg hm]
 ·have gS:(fv d i t[i].toNat).s=er t[i].toNat∧(fv d i t[i].toNat).bK=i:=by rw[fv,if_neg ah];exact⟨rfl,rfl⟩
  unfold Ba;rw[gS.1,gS.2];refine⟨ak.1,?_⟩;by_cases hm:(er t[i].toNat).dX=0
  ·exact .inl hm
  ·right;refine⟨R,R,R,?_⟩;have aR':=py hm;rw[qF,oe,List.drop_append_of_le_length (by simp;omega),List.drop_of_length_le (by simp;omega),gM];have z:(⟨k6,[],0⟩:iz).s.dX=0:=rfl;have b0:¬(t[i].toNat:Int)<128:=R;simp only[gB,fv,z,Q4,false_and,if_false,b0,hm];rfl
theorem ahY:∀(t:List UInt8) (i:Nat) (d:iz),i≤t.length→0≤d.s.dX→Ba t i d→0≤(gB (t.drop i) i d).s.dX∧Ba t t.length (gB (t.drop i) i d):=by
 intro t i d aA aV h;by_cases bf:i<t.length
 ·rw[ji bf,gB];obtain⟨xR,bG⟩:=aNH bf aV h;exact ahY t (i+1) _ bf xR bG
 ·obtain rfl:i=t.length:=R;rw[nd,gB];exact⟨aV,h⟩
termination_by t i=>t.length-i
def aNI(t:List UInt8):hE (kh t)=[]∧kh (kh t)=kh t:=by
 obtain⟨aV,h⟩:=ahY t 0 ⟨k6,[],0⟩ (ig _) (GD _) (.inl rfl);rw[iy]at aV h;change 0≤(kg t).s.dX at aV;change Ba t t.length (kg t)at h;have ai:kh t=if(kg t).s.dX=0 then[]else t.drop (kg t).bK.toNat:=rfl
 rcases h with h|⟨g1,g2,g3,g4⟩
 ·rw[if_pos h]at ai;rw[ai];exact⟨rfl,rfl⟩
 ·rw[if_neg R]at ai;rw[List.take_length]at g4;have aM:kg (kh t)=⟨(kg t).s,[],0⟩:=by rw[ai];exact g4
  refine⟨by unfold hE;rw[aM],?_⟩;have ia:kh (kh t)=if(kg (kh t)).s.dX=0 then[]else(kh t).drop (kg (kh t)).bK.toNat:=rfl
  rw[ia,aM];simp only;rw[if_neg R];simp
def aNJ(b5:List UInt8):gG ⟨0,kh b5,[]⟩=true:=by obtain⟨j,J⟩:=aNI b5;simp[gG,j,J]
def qO(k:Int)(h:0≤k∧k≤3):gG ⟨k,[],[]⟩=true:=by have:k=0∨k=1∨k=2∨k=3:=R;rcases this with rfl|rfl|rfl|rfl<;>simp[gG,hE,kh,kg,gB,k6]
def aNK{p:df}(h:gG p=true)(aV:p.bK=0):p.b2=[]:=by unfold gG at h;rw[if_pos aV]at h;simp only[cO,beq_iff_eq]at h;exact h.1.1
def ahZ{p:df}(aV:p.bK=0)(ak:p.b2=[])(b:UInt8):gG (jU p b).1=true:=by
 unfold jU;rw[aV,ak]
 repeat' split
 ·exact aNJ _
 ·exact qO 1 R
 ·exact qO 0 R
 ·exact qO 0 R
def ah0{p:df}(av:gG p=true)(aV:p.bK≠0){b:UInt8}{q:df×List dy}(bn:lA p b=some q):gG q.1=true:=by
 unfold lA at bn
 repeat' split at bn
 all_goals first|cases bn|skip
 all_goals first|exact av|exact qO 1 R|exact qO 0 R|exact ahZ rfl rfl b
def Mc{p:df}{b:UInt8}(h:lA p b=none):32≤(b.toNat:Int)∧(b.toNat:Int)<127:=by
 unfold lA at h
 repeat' split at h
 all_goals first|(cases h;done)|omega
def aNL{P:UInt8→Bool}{l:List UInt8}{b:UInt8}(h:l.any P=false)(ak:P b=false):(l++[b]).any P=false:=by simp[List.any_append,h,ak]
def aNM{bU aA:Int}{b:UInt8}(j:bU≤b.toNat)(J:(b.toNat:Int)≤aA):kE bU aA b=false:=by simp[kE];omega
def pd(b2:List UInt8)(m:Nat)(aA:Int):Bool:=decide (b2.length≤m) &&!b2.any (kE 32 aA)
def SA{b2:List UInt8}{m:Nat}{aA:Int}(h:pd b2 m aA=true){b:UInt8}(j:32≤(b.toNat:Int))(J:(b.toNat:Int)≤aA):pd (if(b2.length:Int)<m then b2++[b]else b2) m aA=true:=by
 split
 ·rename_i an;unfold pd at*;simp only[cO,decide_eq_true_eq,rj]at*;refine⟨by simp;omega,aNL h.2 (aNM j J)⟩
 ·exact h
def SB{b5 b2:List UInt8}:gG ⟨1,b5,b2⟩=((b5==[]) &&pd b2 3 47):=by unfold gG pd;cases b5<;>simp
def ah1{b5 b2:List UInt8}:gG ⟨2,b5,b2⟩=((b5==[]) &&pd b2 257 63):=by unfold gG pd;cases b5<;>simp
def Md{b5 b2:List UInt8}:gG ⟨3,b5,b2⟩=((b5==[]) &&pd b2 256 255):=by unfold gG pd;cases b5<;>simp
def ah2{b5 b2:List UInt8}:gG ⟨4,b5,b2⟩=((b5==[]) &&pd b2 256 255):=by unfold gG pd;cases b5<;>simp
def ah3{p:df}(h:gG p=true):p.bK=0∨p.bK=1∨p.bK=2∨p.bK=3∨p.bK=4:=by
 unfold gG at h;split at h
 ·exact .inl (by assumption)
 ·split at h
  ·repeat' split at h
   all_goals first|(cases h;done)|omega
  ·cases h
def ah4{p:df}(av:gG p=true)(aS:p.bK=1)(b:UInt8):gG (kD p b).1=true:=by
 unfold kD;cases bn:lA p b with
 |some q=>exact ah0 av R bn
 |none=>
  have ak:=Mc bn;simp only;split
  ·rename_i ah5;obtain⟨bK,b5,b2⟩:=p;dsimp only at aS;subst aS;rw[SB]at av;simp only[cO]at av;simp only[tt];rw[SB];simp only[cO];exact⟨av.1,SA av.2 ak.1 ah5⟩
  ·split
   ·exact qO 2 R
   ·split
    ·exact qO 3 R
    ·exact qO 0 R
def ah6{p:df}(av:gG p=true)(b:UInt8):gG (ij p b).1=true:=by
 have gS:=ah3 av;unfold ij;split
 ·exact ahZ (by assumption) (aNK av (by assumption)) b
 ·rename_i aV;split
  ·split
   ·exact qO 0 R
   ·exact ah4 (qO 1 R) rfl b
  ·rename_i bb;split
   ·exact ah4 av (by assumption) b
   ·rename_i j;split
    ·rename_i J;unfold lB;cases bn:lA p b with
     |some q=>exact ah0 av aV bn
     |none=>
      have ak:=Mc bn;simp only;split
      ·rename_i aNN;obtain⟨bK,b5,b2⟩:=p;dsimp only at J;subst J;rw[ah1]at av;simp only[cO]at av;simp only[tt];rw[ah1];simp only[cO];exact⟨av.1,SA av.2 ak.1 aNN⟩
      ·exact qO 0 R
    ·rename_i J;have aw:p.bK=3:=R;obtain⟨bK,b5,b2⟩:=p;dsimp only at aw;subst aw;unfold lC;split
     ·exact qO 0 R
     ·split
      ·rw[ah2];rw[Md]at av;exact av
      ·split
       ·exact qO 0 R
       ·split
        ·rename_i Dm;rw[Md]at av;simp only[cO]at av;simp only[tt];rw[Md];simp only[cO];have:=b.toNat_lt;exact⟨av.1,SA av.2 Dm R⟩
        ·exact av
def SC:∀(s:List UInt8) {p:df},gG p=true→gG (iT s p).1=true
 |[],p,h=>h
 |b::r,p,h=>SC r (ah6 h b)
def aNO(p:df):gG (uJ p)=true:=by
 unfold uJ;split
 ·assumption
 ·exact qO 0 R
def Me{p:df}(h:gG p=true):uJ p=p:=by unfold uJ;rw[if_pos h]
def aNP(p:df)(s:List UInt8):uJ (jm p s).1=(jm p s).1:=Me (SC s (aNO p))
def ah7:∀(a b:List UInt8) (p:df),iT (a++b) p=((iT b (iT a p).1).1,(iT a p).2++(iT b (iT a p).1).2)
 |[],b,p=>by simp[iT]
 |x::a,b,p=>by have a8:=ah7 a b (ij p x).1;simp only[uy,iT,a8,dV]
def aNQ(p:df)(a b:List UInt8):jm p (a++b)=((jm (jm p a).1 b).1,(jm p a).2++(jm (jm p a).1 b).2):=by have h:=aNP p a;simp only[jm]at h⊢;rw[h,ah7]
def h5(b:UInt8):Bool:=decide (48≤b.toNat) &&decide (b.toNat≤57)||b.toNat==59
def aNR(l:List Int)(n:Int)(b:UInt8):h5 b=(om l n b.toNat).isSome:=by
 have h:=b.toNat_lt;unfold om h5;by_cases j:b.toNat=59
 ·simp[j]
 ·rw[if_neg R];by_cases J:b.toNat<48
  ·rw[if_pos R];simp[j];omega
  ·rw[if_neg R];by_cases aw:57<b.toNat
   ·rw[if_pos R];simp[j];omega
   ·rw[if_neg R];simp;omega
def SD:∀(t:List UInt8) (l:List Int) (n:Int),gQ t l n=((gQ (t.takeWhile h5) l n).1,(gQ (t.takeWhile h5) l n).2.1,t.dropWhile h5)∧(gQ (t.takeWhile h5) l n).2.2=[]
 |[],l,n=>by simp[gQ]
 |b::r,l,n=>by
  have av:=aNR l n b;cases h:om l n b.toNat with
  |none=>rw[h]at av;simp only[Option.isSome_none]at av;simp[gQ,h,av]
  |some p=>rw[h]at av;simp only[Pw]at av;have a8:=SD r p.1 p.2;simp only[gQ,h,av,ah8,List.dropWhile_cons_of_pos];exact a8
def ah9(P:UInt8→Bool):∀t:List UInt8,t.take (t.takeWhile P).length=t.takeWhile P∧t.drop (t.takeWhile P).length=t.dropWhile P
 |[]=>by simp
 |b::r=>by
  have a8:=ah9 P r;by_cases h:P b=true
  ·simp[ah8 h,List.dropWhile_cons_of_pos h,a8]
  ·simp[List.takeWhile_cons_of_neg h,List.dropWhile_cons_of_neg h]
def ah_(P:UInt8→Bool):∀t:List UInt8,(t.takeWhile P).all P=true
 |[]=>rfl
 |b::r=>by
  by_cases h:P b=true
  ·rw[ah8 h,CA,h,ah_ P r];rfl
  ·rw[List.takeWhile_cons_of_neg h];rfl
def aNS{t:List UInt8}{l:List Int}{n:Int}(h:gQ (t.takeWhile h5) [] (-1)=(l,n,[])):
  yr t=(if t.takeWhile h5=[]then[]else l++[n],t.dropWhile h5):=by
 obtain⟨j,_⟩:=SD t [] (-1);rw[h]at j;obtain⟨J,aw⟩:=ah9 h5 t;have an:t.length=(t.takeWhile h5).length+(t.dropWhile h5).length:=by rw[←dd,List.takeWhile_append_dropWhile]
 unfold yr;rw[j];simp only;by_cases av:t.takeWhile h5=[]
 ·rw[if_pos av,if_neg (by rw[an,av];simp)];rw[av]at h;simp only[gQ,bA]at h;rw[←h.1]
 ·rw[if_neg av,if_pos (by rw[an];have:=NF.2 av;omega)]
def Mf(n:Int)(d:List UInt8):Prop:=(n≤9999→(jT n).length≤d.length∧((jT n).length=d.length→jT n=d))∧(n=-1∧d=[]∨0≤n∧d≠[])
def ah':Mf (-1) []:=⟨λ _=>⟨by simp[jT],λ _=>rfl⟩,.inl ⟨rfl,rfl⟩⟩
def aNT{n:Int}{d:List UInt8}(h:Mf n d){b:UInt8}(ak:48≤b.toNat∧b.toNat≤57):Mf (min (10*max n 0+((b.toNat:Int)-48)) 10000) (d++[b]):=by
 obtain⟨j,J⟩:=h;refine⟨λ gy=>?_,.inr ⟨R,by simp⟩⟩;generalize hm:min (10*max n 0+((b.toNat:Int)-48)) 10000=m at*;have e:m=10*max n 0+((b.toNat:Int)-48):=R;have rr:0≤m:=R;have aNU:n≤9999:=R;obtain⟨g1,g2⟩:=j aNU;rw[jT,if_pos rr];by_cases si:m.toNat<10
 ·rw[nF,dif_pos si];refine⟨by simp,λ an=>?_⟩;have aM:d=[]:=by simp only[dd,cX]at an;exact qe.1 R
  subst aM;have aF:n=-1:=by
   rcases J with h|h
   ·exact h.1
   ·exact absurd rfl h.2
  have:48+m.toNat=b.toNat:=R;rw[this];simp
 ·rw[nF,dif_neg si];have hA:0≤n:=R;have ao:m.toNat/10=n.toNat:=R;have aI:48+m.toNat%10=b.toNat:=R;have bE:nF (m.toNat/10)=jT n:=by rw[ao,jT,if_pos hA]
  rw[aI,bE];refine⟨by simp only[dd,cX];omega,λ an=>?_⟩;rw[g2 (by simp only[dd,cX]at an;omega)];simp
def aNV(oE:List Int)(q:List Int)(v:List UInt8):Prop:=∃x xs,q=oE++x::xs∧(∀y∈x::xs,-1≤y)∧(x::xs=[-1]→v=[])∧
 ((∀y∈x::xs,y≤9999)→(fmtG true (x::xs)).length≤v.length∧((fmtG true (x::xs)).length=v.length→fmtG true (x::xs)=v))
def SE:∀(w:List UInt8),w.all h5=true→∀(oE:List Int) (n:Int) (d:List UInt8),Mf n d→aNV oE ((gQ w oE n).1++[(gQ w oE n).2.1]) (d++w)
 |[],_,oE,n,d,h=>by
  refine⟨n,[],by simp[gQ],?_,?_,?_⟩
  ·intro y aZ;simp only[yP]at aZ;subst aZ;rcases h.2 with h|h<;>omega
  ·intro e;simp only[BQ,and_true]at e;rcases h.2 with h|h
   ·simp[h.2]
   ·omega
  ·intro gy;have:=h.1 (gy n (by simp));simpa[fmtG]using this
 |b::r,aB,oE,n,d,h=>by
  simp only[CA,cO]at aB;obtain⟨ak,aB⟩:=aB;by_cases aia:(b.toNat:Int)=59
  ·have gS:om oE n b.toNat=some (oE++[n],-1):=by rw[om,if_pos aia]
   obtain⟨x,xs,ao,aI,bE,c6⟩:=SE r aB (oE++[n]) (-1) [] ah';simp only[gQ,gS];refine⟨n,x::xs,by rw[ao];simp,?_,λ e=>by simp at e,?_⟩
   ·intro y aZ;rcases mU.1 aZ with rfl|aZ
    ·rcases h.2 with h|h<;>omega
    ·exact aI y aZ
   ·intro gy;obtain⟨f1,f2⟩:=c6 λ y aZ=>gy y (xK _ aZ)
    obtain⟨g1,g2⟩:=h.1 (gy n (LS ..));have aNW:b=59:=UInt8.toNat_inj.1 (by have:(59:UInt8).toNat=59:=rfl;omega);have wW:fmtG true (n::x::xs)=jT n++59::fmtG true (x::xs):=by simp[fmtG]
    rw[wW,aNW];simp only[gM]at f1 f2;refine⟨by simp only[dd,cT];omega,λ an=>?_⟩;simp only[dd,cT]at an;rw[g2 R,f2 R]
  ·have ai:48≤b.toNat∧b.toNat≤57:=by simp only[h5,xv,cO,decide_eq_true_eq,beq_iff_eq]at ak;omega
   have gS:om oE n b.toNat=some (oE,min (10*max n 0+(b.toNat-48)) 10000):=by rw[om,if_neg aia,if_neg R,if_neg R]
   have a8:=SE r aB oE _ (d++[b]) (aNT h ai);simp only[gQ,gS];rwa [dV]at a8
def aNX{l:List Int}{s:List UInt8}(h:kf l s=true):∀n∈l,n≤9999:=by intro n aF;simp only[kf,cO,rj]at h;have:=QW.1 h.2 n aF;simpa[o4]using this
def aNY{s:List UInt8}:∃(pre:List UInt8),s=pre++(mG s).2∧pre=(if(mG s).1=0 then[]else[h6 (mG s).1.toNat])∧(0≤(mG s).1∧(mG s).1<256)∧((mG s).1=0∨qB (mG s).1=true):=by
 cases s with
 |nil=>exact⟨[],rfl,rfl,by simp[mG],.inl rfl⟩
 |cons b r=>
  have ak:=b.toNat_lt;by_cases h:qB b.toNat=true
  ·have aV:(b.toNat:Int)≠0:=by intro e;rw[e]at h;revert h;decide
   refine⟨[b],?_,?_,?_,?_⟩<;>simp only[mG,h,if_true]
   ·rfl
   ·rw[if_neg aV];simp
   ·omega
   ·exact .inr trivial
  ·refine⟨[],?_,?_,?_,?_⟩<;>simp only[mG,h]
   ·rfl
   ·rfl
   ·simp
   ·exact .inl rfl
def aNZ{s:List UInt8}{p:Int}{l:List Int}{i:List UInt8}(h:wo s=(p,l,i,0)):(0≤p∧p<256)∧∃t,o' p l i=(t,0)∧t.length≤s.length∧(t.length=s.length→t=s):=by
 obtain⟨pre,ao,aI,pR,av⟩:=aNY (s:=s);unfold wo at h;split at h
 ·simp at h
 rename_i ca;split at h
 ·simp at h
 rename_i cc;simp only[bA,and_true]at h;obtain⟨rfl,rfl,rfl⟩:=h;simp only[Bool.not_eq_false]at ca cc;refine⟨pR,?_⟩;generalize mG s=mk at*;obtain⟨p,t⟩:=mk;dsimp only at*;obtain⟨hC,a2⟩:=SD t [] (-1);have aN0:=aNS (t:=t) (l:=(gQ (t.takeWhile h5) [] (-1)).1) (n:=(gQ (t.takeWhile h5) [] (-1)).2.1) (by rw[←a2])
 have aib:t.takeWhile h5++t.dropWhile h5=t:=List.takeWhile_append_dropWhile;have aN1:=SE (t.takeWhile h5) (ah_ h5 t) [] (-1) [] ah';rw[aN0]at ca cc⊢;dsimp only at*;generalize t.takeWhile h5=w at*;generalize t.dropWhile h5=q at*;have key:∀fs:List Int,fs≠[-1]→(∀y∈fs,-1≤y)→kf fs q=true→((fmtG true fs).length≤w.length∧((fmtG true fs).length=w.length→fmtG true fs=w))→
   ∃iR,o' p fs q=(iR,0)∧iR.length≤s.length∧(iR.length=s.length→iR=s):=by
  intro fs bG bH cG eZ;refine⟨pre++fmtG true fs++q,?_,?_,?_⟩
  ·unfold o';rw[if_neg,if_neg,if_neg,←aI]
   ·simp[cG]
   ·rw[GC];exact QW.2 λ y aZ=>by have:=bH y aZ;simp[mI];omega
   ·rintro(⟨j,J⟩|j|j)
    ·rcases av with h|h
     ·exact j h
     ·rw[J]at h;cases h
    ·rw[ca]at j;cases j
    ·exact bG j
  ·rw[ao,←aib];simp only[dd];omega
  ·intro an;rw[ao,←aib]at an⊢;simp only[dd]at an;rw[eZ.2 R,dV]
 by_cases hw:w=[]
 ·rw[if_pos hw]at cc⊢;exact key [] (by simp) (by simp) cc (by subst hw;simp[fmtG])
 ·rw[if_neg hw]at cc⊢;obtain⟨x,xs,f1,f2,f3,f4⟩:=aN1;rw[gM]at f1 f3 f4;rw[f1]at cc⊢;exact key _ (λ e=>hw (f3 e)) f2 cc (f4 (aNX cc))
def D_(s:oj):Prop:=s.dX=0∨(128≤s.bU∧s.aA≤191∧(s.dX=1∧2≤s.v∧s.v≤17407∧¬(864≤s.v∧s.v≤895)∨
 s.dX=2∧0≤s.v∧s.v≤271∧(s.v=0→160≤s.bU)∧(s.v=13→s.aA≤159)∨s.dX=3∧0≤s.v∧s.v≤4∧(s.v=0→144≤s.bU)∧(s.v=4→s.aA≤143)))
def aN2:∀n:Nat,n<256→((er n).dX=0∨(128≤(er n).bU∧(er n).aA≤191∧((er n).dX=1∧2≤(er n).v∧(er n).v≤17407∧¬(864≤(er n).v∧(er n).v≤895)∨
 (er n).dX=2∧0≤(er n).v∧(er n).v≤271∧((er n).v=0→160≤(er n).bU)∧((er n).v=13→(er n).aA≤159)∨(er n).dX=3∧0≤(er n).v∧(er n).v≤4∧((er n).v=0→144≤(er n).bU)∧((er n).v=4→(er n).aA≤143)))):=by decide+kernel
def aN3{b:Int}(aV:0≤b)(j:b≤255):D_ (er b):=by obtain⟨n,rfl⟩:=jk aV;exact aN2 n R
def aic{r:Int}(aV:0≤r)(j:r≤1114111)(J:¬(55296≤r∧r≤57343)):gH r=true:=by simp[gH,aV,j];omega
def aid{d:iz}(h:D_ d.s)(i:Int){b:Int}(aV:0≤b)(j:b≤255):D_ (fv d i b).s∧∃l,(fv d i b).out=d.out++l∧∀c∈l,gH c=true∧(c<128→c=b):=by
 unfold fv;split
 ·rename_i ah;obtain⟨ca,cc,c3⟩:=ah;unfold D_ at h⊢;refine⟨by simp only;omega,?_⟩;simp only;split
  ·refine⟨[d.s.v*64+b%64],rfl,?_⟩;intro c ah;rw[yP]at ah;subst ah;exact⟨aic R R R,R⟩
  ·exact⟨[],by simp,λ c ah=>by cases ah⟩
 ·refine⟨aN3 aV j,?_⟩;simp only;have aie:gH 65533=true:=by decide
  have key:∃l,(if 0<d.s.dX then d.out++[65533]else d.out)=d.out++l∧∀c∈l,gH c=true∧(c<128→c=b):=by
   split
   ·exact⟨[65533],rfl,λ c ah=>by rw[yP]at ah;subst ah;exact⟨aie,R⟩⟩
   ·exact⟨[],by simp,λ c ah=>by cases ah⟩
  obtain⟨l,an,hx⟩:=key;rw[an];split
  ·refine⟨l++[b],by simp,?_⟩;intro c ah;rw[fT,yP]at ah;rcases ah with ah|rfl
   ·exact hx c ah
   ·exact⟨aic aV R R,λ _=>rfl⟩
  ·split
   ·refine⟨l++[65533],by simp,?_⟩;intro c ah;rw[fT,yP]at ah;rcases ah with ah|rfl
    ·exact hx c ah
    ·exact⟨aie,R⟩
   ·exact⟨l,rfl,hx⟩
def aif:∀(l:List UInt8) (i:Nat) (d:iz),D_ d.s→D_ (gB l i d).s
 |[],_,_,h=>h
 |b::l,i,d,h=>by have:=b.toNat_lt;exact aif l (i+1) _ (aid h i R R).1
def aN4{b5:List UInt8}(h:hE b5=[])(b:UInt8):∀c∈hE (b5++[b]),gH c=true∧(c<128→c=b.toNat):=by
 have ak:=b.toNat_lt;have aM:kg (b5++[b])=fv (kg b5) ((0+b5.length:Nat)) b.toNat:=Sz b5 b 0 _;obtain⟨_,l,an,hx⟩:=aid (aif b5 0 ⟨k6,[],0⟩ (.inl rfl)) ((0+b5.length:Nat)) (b:=b.toNat) R R;have b':hE (b5++[b])=l:=by unfold hE;rw[aM];refine an.trans ?_;have:(gB b5 0 ⟨k6,[],0⟩).out=[]:=h;rw[this,gM]
 rw[b'];exact hx
def tE(e:dy):Prop:=D9 e∧tD e=0
def pe(l:List dy):Prop:=∀e∈l,tE e
def rZ:pe []:=λ e h=>by cases h
def Bb{e:dy}(h:tE e):pe [e]:=λ x al=>by rw[yP.1 al];exact h
def aih{a b:List dy}(h:pe a)(k:pe b):pe (a++b):=λ e he=>by
 rcases fT.1 he with j|j
 ·exact h e j
 ·exact k e j
def Hw{e:dy}(h:D9 e)(az:1≤e.k∧e.k≤5)(ai:p4 e=true):tE e:=⟨h,by unfold tD;rw[if_neg R,if_pos ai]⟩
def aii{c:Int}(aP:gH c=true)(j:32≤c)(J:c<127∨159<c):tE (rJ c):=by
 have ak:0≤c∧c≤1114111:=by simp[gH]at aP;omega
 refine Hw ⟨⟨by simp only[rJ];omega,by simp only[rJ];omega⟩,by simp[rJ],by simp[rJ]⟩ (by simp[rJ]) ?_;have ao:¬c<32:=R;rcases J with J|J
 ·have aI:¬127≤c:=R;simp only[p4,rJ,A8,if_true,aP,ao,aI,decide_false,decide_true,ly];rfl
 ·have aI:¬c≤159:=R;simp only[p4,rJ,A8,if_true,aP,ao,aI,decide_false,decide_true,yb];rfl
def aij{b:UInt8}(j:(b.toNat:Int)<32)(J:¬(b.toNat:Int)=24)(aw:¬(b.toNat:Int)=26)(bb:¬(b.toNat:Int)=27):tE (ys b):=by refine Hw ⟨by simp[ys],by simp only[ys];omega,by simp[ys]⟩ (by simp[ys]) ?_;have ao:¬32≤(b.toNat:Int):=R;simp only[p4,ys,Hp,GX,if_false,if_true,ao,J,aw,bb,decide_false,decide_true];rfl
def SF(b5:List UInt8):pe (oo b5):=by
 unfold oo;split
 ·exact rZ
 ·exact Bb (aii (by decide) R R)
def aik{p:df}(h:hE p.b5=[])(b:UInt8):pe (jU p b).2:=by
 unfold jU;split
 ·rename_i ah;intro e he;unfold jl at he;obtain⟨c,fq,rfl⟩:=FG.1 he;obtain⟨j,J⟩:=NY.1 fq;obtain⟨aw,bb⟩:=aN4 h b c j;simp only[wu,xv,decide_eq_true_eq]at J;have bu:0≤c:=by simp[gH]at aw;omega
  exact aii aw R R
 ·split
  ·exact SF _
  ·split
   ·exact SF _
   ·exact aih (SF _) (Bb (aij R R R R))
def ail{p:df}{b:UInt8}{q:df×List dy}(bn:lA p b=some q):pe q.2:=by
 unfold lA at bn
 repeat' split at bn
 all_goals first|cases bn|skip
 ·exact rZ
 ·exact rZ
 ·exact Bb (aij R R R R)
 ·exact rZ
 ·exact aik rfl b
def aim{b2:List UInt8}{m:Nat}{aA:Int}(h:pd b2 m aA=true):b2.length≤m∧b2.any (kE 32 aA)=false:=by simpa[pd]using h
def ain{p:df}(av:pd p.b2 3 47=true)(b:UInt8):pe (kD p b).2:=by
 unfold kD;cases bn:lA p b with
 |some q=>exact ail bn
 |none=>
  have ak:=Mc bn;have aio:=aim av;simp only;split
  ·exact rZ
  ·rename_i ah5;split
   ·exact rZ
   ·rename_i aip;split
    ·exact rZ
    ·rename_i aiq;simp only;split
     ·rename_i an;refine Bb (Hw ⟨by simp[AB],by simp only[AB];omega,by simp[AB]⟩ (by simp[AB]) ?_);have ao:¬3≤p.b2.length:=R;have aI:¬(b.toNat:Int)<48:=R;have bE:¬126<(b.toNat:Int):=R;cases fg:p.b2 with
      |nil=>
       rw[fg]at aip aiq;have g1:¬(b.toNat:Int)=91:=λ h=>aip ⟨rfl,h⟩
       have g2:¬(b.toNat:Int)=93:=λ h=>aiq ⟨rfl,h⟩
       simp only[p4,AB,D6,GX,if_true,if_false,aI,bE,g1,g2,decide_false,decide_true];rfl
      |cons x r=>rw[fg]at ao aio;simp only[p4,AB,D6,GX,if_true,if_false,aio.2,ao,aI,bE,decide_false,decide_true];rfl
     ·exact rZ
def aN5{p:df}(b:UInt8):pe (lB p b).2:=by
 unfold lB;cases bn:lA p b with
 |some q=>exact ail bn
 |none=>
  have ak:=Mc bn;simp only;split
  ·exact rZ
  ·simp only;split
   ·exact rZ
   ·split
    ·rename_i aV;obtain⟨pv,l,i,e,al⟩:∃pv l i e,wo p.b2=(pv,l,i,e):=⟨_,_,_,_,rfl⟩;rw[al]at aV⊢;simp only at aV;subst aV;obtain⟨ai,t,bq,_⟩:=aNZ al;refine Bb (Hw ⟨by simp[Dk],by simp only[Dk];omega,by simp only[Dk];omega⟩ (by simp[Dk]) ?_);have aI:¬(b.toNat:Int)<64:=R;have bE:¬126<(b.toNat:Int):=R;simp only[p4,Dk,D7,GX,if_true,if_false,bq,aI,bE,decide_false,decide_true];rfl
    ·exact rZ
def air{b2:List UInt8}(h:pd b2 256 255=true):tE (yt b2):=by obtain⟨j,J⟩:=aim h;refine Hw ⟨by simp[yt],by simp[yt],by simp[yt]⟩ (by simp[yt]) ?_;have ao:¬256<b2.length:=R;simp only[p4,yt,Hq,GX,if_true,if_false,J,ao,decide_false,decide_true];rfl
def aN6{p:df}(av:pd p.b2 256 255=true)(b:UInt8):pe (lC p b).2:=by
 unfold lC;split
 ·exact Bb (air av)
 ·repeat' split
  all_goals exact rZ
def aN7{p:df}(av:gG p=true)(b:UInt8):pe (ij p b).2:=by
 have gS:=ah3 av;unfold ij;split
 ·rename_i aV;unfold gG at av;rw[if_pos aV]at av;simp only[cO,beq_iff_eq,decide_eq_true_eq]at av;exact aik (qe.1 av.1.2) b
 ·obtain⟨bK,b5,b2⟩:=p;dsimp only at gS⊢;rename_i aV;split
  ·subst bK;rw[ah2,cO]at av;split
   ·exact Bb (air av.2)
   ·exact ain (by decide) b
  ·split
   ·subst bK;rw[SB,cO]at av;exact ain av.2 b
   ·split
    ·exact aN5 b
    ·obtain rfl:bK=3:=by simp only at aV;omega
     rw[Md,cO]at av;exact aN6 av.2 b
def ais:∀(s:List UInt8) {p:df},gG p=true→pe (iT s p).2
 |[],p,h=>rZ
 |b::r,p,h=>aih (aN7 h b) (ais r (ah6 h b))
def aN8(e:dy)(h:tE e)(H:aa):ct 50 [.agg [e.k,.i (.v (.int .i32 e.r)),.i (.v (.int .u8 (e.c))),.i (.v (.int .u8 (e.v))),.i (.str e.i),.i (.ae 1 (b3 e.bm) false),.i (.str e.t)]] H (↑(0:Int)):=by obtain⟨j,_,aw,_⟩:=Sy h.2;have:=aND e h.1 (λ _ H=>aKV e.v h.1.2.2 e.bm e.i R R H) H;rw[h.2]at this;exact this
def aN9:∀n,n<32→gH (Hc.getD n 0)=true:=by decide
def ait{m:k_}{r:Int}(h:gH r=true):gH (mapM m r)=true:=by
 unfold mapM;split
 ·exact h
 ·exact aN9 _ R
def aN_{r:Int}(h:gH r=true):-2147483648≤r∧r≤2147483647:=by have:=Dp.1 h;omega
def mN(m:M)(e:dy):M:=
 if e.k=1 then DV m (mapM m.md e.r)
 else if e.k=2 then DX m e.c
 else if e.k=3 then D3 m e.i e.c
 else if e.k=4 then D8 m e.i e.v e.bm e.c
 else if Hv e.t=true then{m with eH:=u1 (e.t.drop 2)}else m
def aiu{e:dy}(h:tE e)(az:e.k=1):gH e.r=true:=by
 have:=h.2;unfold tD at this;rw[if_neg R]at this;split at this
 ·rename_i ai;unfold p4 A8 at ai;rw[if_pos az]at ai;simp only[cO]at ai;exact ai.1.1.1
 ·cases this
def aiv{e:dy}(h:tE e)(az:e.k=4):∀x∈e.bm,x≤99999:=by
 have:=h.2;unfold tD at this;rw[if_neg R]at this;split at this
 ·rename_i ai;unfold p4 D7 at ai;rw[if_neg R,if_neg R,if_neg R,if_pos az]at ai;simp only[cO,decide_eq_true_eq]at ai;intro x al;have:=yL (ahX ai.1.1).2.2.2.2.1 x al;omega
 ·cases this
def bk.aN'{m:M}(h:bk m){t:List Int}(bq:t.length≤100000):bk {m with eH:=t}:=
 {w:=h.w,h:=h.h,G:=h.G,O:=h.O,aG:=h.aG,bP:=h.bP,a:=h.a,aE:=h.aE,cZ:=h.cZ,cv:=h.cv,back:=h.back,bK:=h.bK,hF:=h.hF,eH:=bq,di:=h.di}
def bk.mN{m:M}(h:bk m){e:dy}(he:tE e):bk (mN m e):=by
 unfold Go.VI.mN;split
 ·rename_i az;exact h.R9 (ait (aiu he az))
 ·split
  ·exact h.Sd _
  ·split
   ·exact h.Sm _ _
   ·split
    ·rename_i az;exact h.seq (aiv he az)
    ·split
     ·refine h.aN' ?_;have j:=ahU (e.t.drop 2);have J:=(Sy he.2).2.1;rw[ic]at j;omega
     ·exact h
def aOa{m:M}(hm:bk m)(e:dy)(he:tE e):hr 21 [uZ e] m (.be []) (mN m e):=by
 intro af aE ag aH;have az:=aNE he.2;have ah:=λ H=>aN8 e he H
 obtain⟨c7,eS,qM,_⟩:=Sy he.2;unfold mN;rw[yS];have dF:=h4.dF (m:=m) (af:=af) (ag:=ag) (aE:=aE) (aH:=aH) (T:=[.box [.i (.v (.int .i64 (e.k))),.i (.v (.int .i32 e.r)),.i (.v (.int .u8 (e.c))),.i (.v (.int .u8 (e.v))),.i (.str e.i),.i (.ae 1 (b3 e.bm) false),.i (.str e.t)]]);rcases az with az|az|az|az|az
 ·have aP:=ait (m:=m.md) (aiu he az);have jh:=λ H=>aLw m.md e.r he.1.1 H
  obtain⟨ap,ao,cM⟩:=mb (f:=51) rfl rfl rfl (aLP hm (mapM m.md e.r) (aN_ aP) aP) dF;rw[if_pos az];rw[az]at ah ao;rw[az];generalize mapM m.md e.r=r at*;rw[bp Ak];simp(disch:=omega)only[au,simprocAttr,CO,bM,bT,bC,ah,jh,ao];exact⟨_,rfl,cM.iX⟩
 ·obtain⟨ap,ao,cM⟩:=mb (f:=53) rfl rfl rfl (aLS hm e.c) dF;rw[if_neg R,if_pos az];rw[az]at ah ao;rw[az];rw[bp Ak];simp(disch:=omega)only[au,simprocAttr,CO,bM,bT,bC,ah,ao];exact⟨_,rfl,cM.iX⟩
 ·obtain⟨ap,ao,cM⟩:=mb (f:=54) rfl rfl rfl (aL5 hm e.i e.c) dF;rw[if_neg R,if_neg R,if_pos az];rw[az]at ah ao;rw[az];rw[bp Ak];simp(disch:=omega)only[au,simprocAttr,CO,bM,bT,bC,ah,ao];exact⟨_,rfl,cM.iX⟩
 ·obtain⟨ap,ao,cM⟩:=mb (f:=55) rfl rfl rfl (aNg hm e.r e.c e.v e.i e.bm e.t R (aiv he az)) dF;rw[if_neg R,if_neg R,if_neg R,if_pos az];rw[az]at ah ao;rw[az];rw[bp Ak];simp(disch:=omega)only[au,simprocAttr,CO,bM,bT,bC,ah,ao];exact⟨_,rfl,cM.iX⟩
 ·have du:=λ H=>aNv e.t R H
  rw[if_neg R,if_neg R,if_neg R,if_neg R];rw[az]at ah;rw[az];cases bq:Hv e.t with
  |true=>rw[bq]at du;simp only[if_true]at du⊢;rw[bp Ak];simp(disch:=omega)only[au,simprocAttr,CO,bM,bT,bC,ah,du];exact⟨_,rfl,eb.dF⟩
  |false=>rw[bq]at du;simp only[fK,if_false]at du⊢;rw[bp Ak];simp(disch:=omega)only[au,simprocAttr,CO,bM,bT,bC,ah,du];exact⟨_,rfl,eb.dF⟩
def mk(m:M)(g0 g1 X cH cr Y T K:U):List U:=[g0,g1,X,cH,cr,Y,.i (.v (.int .i64 m.aG.r)),.i (.v (.int .i64 m.aG.c)),.i (.v (.bool m.aG.p)),.i (.v (.int .i64 m.bP.aG.r)),.i (.v (.int .i64 m.bP.aG.c)),.i (.v (.bool m.bP.aG.p)),.i (.v (.int .i64 m.bP.a.c1)),.i (.v (.int .i64 m.bP.a.a_)),.i (.v (.int .i64 m.bP.a.cY)),.i (.v (.bool m.bP.c4)),.i (.v (.int .u8 m.bP.dn)),.i (.v (.int .u8 m.bP.s1)),.i (.v (.int .i64 m.bP.dM)),.i (.v (.int .i64 m.a.c1)),.i (.v (.int .i64 m.a.a_)),.i (.v (.int .i64 m.a.cY)),.i (.v (.bool m.md.ins)),.i (.v (.bool m.md.io)),.i (.v (.bool m.md.kG)),.i (.v (.bool m.md.c4)),.i (.v (.bool m.md.wr)),.i (.v (.bool m.md.kH)),.i (.v (.bool m.md.fP)),.i (.v (.bool m.md.kI)),.i (.v (.int .u8 m.md.dn)),.i (.v (.int .u8 m.md.s1)),.i (.v (.int .i64 m.md.dM)),.i (.v (.int .i64 m.cz)),.i (.v (.int .i64 m.b8)),T,K,.i (.v (.int .i64 m.bm.bK)),.i (.str m.bm.b5),.i (.str m.bm.b2),.i (.str (dQ m.eH)),.i (.str m.di)]
section
variable(m:M)(g0 g1 X cH cr Y T K:U)
def aOb:(mk m g0 g1 X cH cr Y T K).length=42:=rfl
def mk_one:(mk m g0 g1 X cH cr Y T K).all one=(one g0 &&(one g1 &&(one X &&(one cH &&(one cr &&(one Y &&(one T &&one K))))))):=by simp[mk,one]
def aOc(B:Nat)(H:aa):ew B H (mk m g0 g1 X cH cr Y T K)=mk m (ee B H g0) (ee B H g1) (ee B H X) (ee B H cH) (ee B H cr) (ee B H Y) (ee B H T) (ee B H K):=by simp[mk,ew,ee]
def aOd:(mk m g0 g1 X cH cr Y T K)[0]?=some (g0):=rfl
def aOe:(mk m g0 g1 X cH cr Y T K)[1]?=some (g1):=rfl
def aOf:(mk m g0 g1 X cH cr Y T K)[2]?=some (X):=rfl
def aOg:(mk m g0 g1 X cH cr Y T K)[3]?=some (cH):=rfl
def aOh:(mk m g0 g1 X cH cr Y T K)[4]?=some (cr):=rfl
def aOi:(mk m g0 g1 X cH cr Y T K)[5]?=some (Y):=rfl
def aOj:(mk m g0 g1 X cH cr Y T K)[6]?=some (.i (.v (.int .i64 m.aG.r))):=rfl
def aOk:(mk m g0 g1 X cH cr Y T K)[7]?=some (.i (.v (.int .i64 m.aG.c))):=rfl
def aOl:(mk m g0 g1 X cH cr Y T K)[8]?=some (.i (.v (.bool m.aG.p))):=rfl
def aOm:(mk m g0 g1 X cH cr Y T K)[9]?=some (.i (.v (.int .i64 m.bP.aG.r))):=rfl
def aOn:(mk m g0 g1 X cH cr Y T K)[10]?=some (.i (.v (.int .i64 m.bP.aG.c))):=rfl
def aOo:(mk m g0 g1 X cH cr Y T K)[11]?=some (.i (.v (.bool m.bP.aG.p))):=rfl
def aOp:(mk m g0 g1 X cH cr Y T K)[12]?=some (.i (.v (.int .i64 m.bP.a.c1))):=rfl
def aOq:(mk m g0 g1 X cH cr Y T K)[13]?=some (.i (.v (.int .i64 m.bP.a.a_))):=rfl
def aOr:(mk m g0 g1 X cH cr Y T K)[14]?=some (.i (.v (.int .i64 m.bP.a.cY))):=rfl
def aOs:(mk m g0 g1 X cH cr Y T K)[15]?=some (.i (.v (.bool m.bP.c4))):=rfl
def aOt:(mk m g0 g1 X cH cr Y T K)[16]?=some (.i (.v (.int .u8 m.bP.dn))):=rfl
def aOu:(mk m g0 g1 X cH cr Y T K)[17]?=some (.i (.v (.int .u8 m.bP.s1))):=rfl
def aOv:(mk m g0 g1 X cH cr Y T K)[18]?=some (.i (.v (.int .i64 m.bP.dM))):=rfl
def aOw:(mk m g0 g1 X cH cr Y T K)[19]?=some (.i (.v (.int .i64 m.a.c1))):=rfl
def aOx:(mk m g0 g1 X cH cr Y T K)[20]?=some (.i (.v (.int .i64 m.a.a_))):=rfl
def aOy:(mk m g0 g1 X cH cr Y T K)[21]?=some (.i (.v (.int .i64 m.a.cY))):=rfl
def aOz:(mk m g0 g1 X cH cr Y T K)[22]?=some (.i (.v (.bool m.md.ins))):=rfl
def aOA:(mk m g0 g1 X cH cr Y T K)[23]?=some (.i (.v (.bool m.md.io))):=rfl
def aOB:(mk m g0 g1 X cH cr Y T K)[24]?=some (.i (.v (.bool m.md.kG))):=rfl
def aOC:(mk m g0 g1 X cH cr Y T K)[25]?=some (.i (.v (.bool m.md.c4))):=rfl
def aOD:(mk m g0 g1 X cH cr Y T K)[26]?=some (.i (.v (.bool m.md.wr))):=rfl
def aOE:(mk m g0 g1 X cH cr Y T K)[27]?=some (.i (.v (.bool m.md.kH))):=rfl
def aOF:(mk m g0 g1 X cH cr Y T K)[28]?=some (.i (.v (.bool m.md.fP))):=rfl
def aOG:(mk m g0 g1 X cH cr Y T K)[29]?=some (.i (.v (.bool m.md.kI))):=rfl
def aOH:(mk m g0 g1 X cH cr Y T K)[30]?=some (.i (.v (.int .u8 m.md.dn))):=rfl
def aOI:(mk m g0 g1 X cH cr Y T K)[31]?=some (.i (.v (.int .u8 m.md.s1))):=rfl
def aOJ:(mk m g0 g1 X cH cr Y T K)[32]?=some (.i (.v (.int .i64 m.md.dM))):=rfl
def aOK:(mk m g0 g1 X cH cr Y T K)[33]?=some (.i (.v (.int .i64 m.cz))):=rfl
def aOL:(mk m g0 g1 X cH cr Y T K)[34]?=some (.i (.v (.int .i64 m.b8))):=rfl
def aOM:(mk m g0 g1 X cH cr Y T K)[35]?=some (T):=rfl
def aON:(mk m g0 g1 X cH cr Y T K)[36]?=some (K):=rfl
def aOO:(mk m g0 g1 X cH cr Y T K)[37]?=some (.i (.v (.int .i64 m.bm.bK))):=rfl
def aOP:(mk m g0 g1 X cH cr Y T K)[38]?=some (.i (.str m.bm.b5)):=rfl
def aOQ:(mk m g0 g1 X cH cr Y T K)[39]?=some (.i (.str m.bm.b2)):=rfl
def aOR:(mk m g0 g1 X cH cr Y T K)[40]?=some (.i (.str (dQ m.eH))):=rfl
def aOS:(mk m g0 g1 X cH cr Y T K)[41]?=some (.i (.str m.di)):=rfl
def aOT:eo 3 (mk m g0 g1 X cH cr Y T K)=[g0,g1,X]:=rfl
def aOU:eo 3 (eI 3 (mk m g0 g1 X cH cr Y T K))=[cH,cr,Y]:=rfl
def aOV:eo 3 (eI 6 (mk m g0 g1 X cH cr Y T K))=[.i (.v (.int .i64 m.aG.r)),.i (.v (.int .i64 m.aG.c)),.i (.v (.bool m.aG.p))]:=rfl
def aOW:eo 3 (eI 9 (mk m g0 g1 X cH cr Y T K))=[.i (.v (.int .i64 m.bP.aG.r)),.i (.v (.int .i64 m.bP.aG.c)),.i (.v (.bool m.bP.aG.p))]:=rfl
def aOX:eo 10 (eI 9 (mk m g0 g1 X cH cr Y T K))=[.i (.v (.int .i64 m.bP.aG.r)),.i (.v (.int .i64 m.bP.aG.c)),.i (.v (.bool m.bP.aG.p)),.i (.v (.int .i64 m.bP.a.c1)),.i (.v (.int .i64 m.bP.a.a_)),.i (.v (.int .i64 m.bP.a.cY)),.i (.v (.bool m.bP.c4)),.i (.v (.int .u8 m.bP.dn)),.i (.v (.int .u8 m.bP.s1)),.i (.v (.int .i64 m.bP.dM))]:=rfl
def aOY:eo 3 (eI 12 (mk m g0 g1 X cH cr Y T K))=[.i (.v (.int .i64 m.bP.a.c1)),.i (.v (.int .i64 m.bP.a.a_)),.i (.v (.int .i64 m.bP.a.cY))]:=rfl
def aOZ:eo 2 (eI 16 (mk m g0 g1 X cH cr Y T K))=[.i (.v (.int .u8 m.bP.dn)),.i (.v (.int .u8 m.bP.s1))]:=rfl
def aO0:eo 3 (eI 19 (mk m g0 g1 X cH cr Y T K))=[.i (.v (.int .i64 m.a.c1)),.i (.v (.int .i64 m.a.a_)),.i (.v (.int .i64 m.a.cY))]:=rfl
def aO1:eo 11 (eI 22 (mk m g0 g1 X cH cr Y T K))=[.i (.v (.bool m.md.ins)),.i (.v (.bool m.md.io)),.i (.v (.bool m.md.kG)),.i (.v (.bool m.md.c4)),.i (.v (.bool m.md.wr)),.i (.v (.bool m.md.kH)),.i (.v (.bool m.md.fP)),.i (.v (.bool m.md.kI)),.i (.v (.int .u8 m.md.dn)),.i (.v (.int .u8 m.md.s1)),.i (.v (.int .i64 m.md.dM))]:=rfl
def aO2:eo 2 (eI 30 (mk m g0 g1 X cH cr Y T K))=[.i (.v (.int .u8 m.md.dn)),.i (.v (.int .u8 m.md.s1))]:=rfl
def aO3:eo 3 (eI 37 (mk m g0 g1 X cH cr Y T K))=[.i (.v (.int .i64 m.bm.bK)),.i (.str m.bm.b5),.i (.str m.bm.b2)]:=rfl
def aO4:eo 42 (mk m g0 g1 X cH cr Y T K)=mk m g0 g1 X cH cr Y T K:=rfl
def aO5(a b c:U):a::b::c::eI 3 (mk m g0 g1 X cH cr Y T K)=mk m a b c cH cr Y T K:=rfl
def aO6(a b c:U):eo 3 (mk m g0 g1 X cH cr Y T K)++[a,b,c]++eI 6 (mk m g0 g1 X cH cr Y T K)=mk m g0 g1 X a b c T K:=rfl
def aO7(a:U):eo 2 (mk m g0 g1 X cH cr Y T K)++[a]++eI 3 (mk m g0 g1 X cH cr Y T K)=mk m g0 g1 a cH cr Y T K:=rfl
def aO8(a:U):eo 5 (mk m g0 g1 X cH cr Y T K)++[a]++eI 6 (mk m g0 g1 X cH cr Y T K)=mk m g0 g1 X cH cr a T K:=rfl
def aO9(a:U):eo 35 (mk m g0 g1 X cH cr Y T K)++[a]++eI 36 (mk m g0 g1 X cH cr Y T K)=mk m g0 g1 X cH cr Y a K:=rfl
def aO_(a:U):eo 36 (mk m g0 g1 X cH cr Y T K)++[a]++eI 37 (mk m g0 g1 X cH cr Y T K)=mk m g0 g1 X cH cr Y T a:=rfl
def aO'(x y:Int)(z:Bool):eo 6 (mk m g0 g1 X cH cr Y T K)++[.i (.v (.int .i64 x)),.i (.v (.int .i64 y)),.i (.v (.bool z))]++eI 9 (mk m g0 g1 X cH cr Y T K)=mk {m with aG:=⟨x,y,z⟩} g0 g1 X cH cr Y T K:=rfl
def aPa(x y:Int)(z:Bool):eo 9 (mk m g0 g1 X cH cr Y T K)++[.i (.v (.int .i64 x)),.i (.v (.int .i64 y)),.i (.v (.bool z))]++eI 12 (mk m g0 g1 X cH cr Y T K)=mk {m with bP:={m.bP with aG:=⟨x,y,z⟩}} g0 g1 X cH cr Y T K:=rfl
def aPb(x:Bool):eo 8 (mk m g0 g1 X cH cr Y T K)++[.i (.v (.bool x))]++eI 9 (mk m g0 g1 X cH cr Y T K)=mk {m with aG:={m.aG with p:=x}} g0 g1 X cH cr Y T K:=rfl
def aPc(x:Bool):eo 11 (mk m g0 g1 X cH cr Y T K)++[.i (.v (.bool x))]++eI 12 (mk m g0 g1 X cH cr Y T K)=mk {m with bP:={m.bP with aG:={m.bP.aG with p:=x}}} g0 g1 X cH cr Y T K:=rfl
def aPd(x:Int):eo 33 (mk m g0 g1 X cH cr Y T K)++[.i (.v (.int .i64 x))]++eI 34 (mk m g0 g1 X cH cr Y T K)=mk {m with cz:=x} g0 g1 X cH cr Y T K:=rfl
def aPe(x:Int):eo 34 (mk m g0 g1 X cH cr Y T K)++[.i (.v (.int .i64 x))]++eI 35 (mk m g0 g1 X cH cr Y T K)=mk {m with b8:=x} g0 g1 X cH cr Y T K:=rfl
def aPf(a:U):(mk m g0 g1 X cH cr Y T K).set 35 a=mk m g0 g1 X cH cr Y a K:=rfl
def aPg(a:U):(mk m g0 g1 X cH cr Y T K).set 36 a=mk m g0 g1 X cH cr Y T a:=rfl
end
def mO:=o @aOb (o @mk_one (o @aOc (o @aOd (o @aOe (o @aOf (o @aOg (o @aOh (o @aOi (o @aOj (o @aOk (o @aOl (o @aOm (o @aOn (o @aOo (o @aOp (o @aOq (o @aOr (o @aOs (o @aOt (o @aOu (o @aOv (o @aOw (o @aOx (o @aOy (o @aOz (o @aOA (o @aOB (o @aOC (o @aOD (o @aOE (o @aOF (o @aOG (o @aOH (o @aOI (o @aOJ (o @aOK (o @aOL (o @aOM (o @aON (o @aOO (o @aOP (o @aOQ (o @aOR (o @aOS (o @aOT (o @aOU (o @aOV (o @aOW (o @aOX (o @aOY (o @aOZ (o @aO0 (o @aO1 (o @aO2 (o @aO3 (o @aO4 (o @aO5 (o @aO6 (o @aO7 (o @aO8 (o @aO9 (o @aO_ (o @aO' (o @aPa (o @aPb (o @aPc (o @aPd (o @aPe (o @aPf (@aPg))))))))))))))))))))))))))))))))))))))))))))))))))))))))))))))))))))))
def SG:(E.kinds 42).getD 35 none=some 1:=aJ
def SH:(E.kinds 42).getD 36 none=some 1:=aJ
def aPh:(E.kinds 38).getD 0 none=some 1:=aJ
def fH(m:M):List U:=mk m (.i (.v (.int .i64 m.w))) (.i (.v (.int .i64 m.h))) (.i (.ae 1 (bX m.G) false)) (.i (.v (.int .i64 m.w))) (.i (.v (.int .i64 m.h))) (.i (.ae 1 (bX m.O) false)) (.i (.ae 1 (dl m.cv) false)) (.i (.ae 1 (bX m.back) false))
def aiw(m:M)(a af b ag:Nat)(h:m.fL=false):mk m (.i (.v (.int .i64 m.w))) (.i (.v (.int .i64 m.h))) (.x (.d a af 0 m.h)) (.i (.v (.int .i64 m.w))) (.i (.v (.int .i64 m.h))) (.x (.d b ag 0 m.h)) (.i (.ae 1 (dl m.cv) false)) (.i (.ae 1 (bX m.back) false))=aT m a af b ag:=by unfold mk aT;rw[h];rfl
def pf(g:List (List bh))(k:Nat):List bS:=aX (g.take k)++(g.drop k).map Dz
def aix(g:List (List bh))(k:Nat):(pf g k).length=g.length:=by rw[pf,dd,gj,lX,gE,ic];omega
def aPi(g:List (List bh)):pf g 0=(bX g).map p_:=by simp only[pf,nc,iy,bX,wa,show aX []=[]from rfl,gM];rfl
def aPj(g:List (List bh)):pf g g.length=aX g:=by simp[pf]
def aPk{g:List (List bh)}{k:Nat}(h:k<g.length):(pf g k)[k]?=some (.dG (.ae 5 (b_ g[k]) false)):=by rw[pf,ha (by rw[gj,gE];omega),gj,gE,NA R,qk,ji h];rfl
def aPl{g:List (List bh)}{k:Nat}(h:k<g.length):(pf g k).set k (.own (b_ g[k]))=pf g (k+1):=by
 have an:(aX (g.take k)).length=k:=by rw[gj,gE];omega
 rw[pf,xB _ _ R,an,qk,ji h,fk,CH,pf,GO h,←Dy];simp[aX]
def aPm(l:List bh)(an:l.length≤1000)(H:aa):cn 79 [.i (.ae 5 (b_ l) false)] H (.ref H.length 0 0 l.length) (H++[.ae 5 0 (b_ l) false]):=by have j:=eO l;unfold cn dj;simp only[e0,show E.ext 79=some (l8 5)from rfl,bz,bd,c_,reach,fp,dx,cB,co];simp[l8,j,show l.length≤1000000000 by omega,bd,reach,Chunk.refs,co,dm,bt,Chunk.cL,ef]
def aPn(g:List (List bh))(aP:g.length≤1000)(H:aa):cn 78 [.i (.ae 1 (bX g) false)] H (.x (.d H.length 0 0 g.length)) (H++[.ax 5 0 0 (pf g 0)]):=by have j:=f' g;unfold cn dj;simp only[e0,show E.ext 78=some (tl 5)from rfl,bz,bd,c_,reach,fp,dx,cB,co];simp[tl,j,show g.length≤1000000000 by omega,bd,cP.c,cP.to,reach,Chunk.refs,co,dm,bt,Chunk.cL,ef,aPi]
def aPo(g:List (List bh))(aP:g.length≤1000)(ai:∀r∈g,r.length≤1000):∀(m k:Nat),k+m=g.length→
  hT CR 0 [(3,.x (.d 0 0 0 g.length)),(8,g.length),(9,k)] [.ax 5 0 0 (pf g k)] 0 [(3,.x (.d 0 0 0 g.length)),(8,g.length),(9,g.length),(10,false)] [.ax 5 0 0 (aX g)]:=by
 intro m;induction m with
 |zero=>intro k az;obtain rfl:k=g.length:=R;rw[aPj];refine(cF CR 0).trans ?_;simp(disch:=omega)only[au,simprocAttr,Qg,c',cN]
 |succ m a8=>intro k az;have bf:k<g.length:=R;have oc:=aPk bf;have jd:=aPl bf;have mX:=aix g k;have aPp:=ai g[k] (mr bf);have ak:=aPm g[k] aPp;have e:=a8 (k+1) R;have aPq:=eO g[k];refine fZ ?_ e;clear e a8;generalize pf g (k+1)=aSa at*;generalize pf g k=eQ at*;generalize g[k]=row at*;refine(cF CR 0).trans ?_;simp(disch:=omega)only[au,simprocAttr,Qg,c',cN,ak,oc,jd,aPq,mX,ne_eq,aeW]
def aPr{g:Nat}{br:List U}{c n:Nat}{x:Chunk}{H:aa}(he:E.ext g=none)(ai:bz br=[])(al:x.refs=[])(ah:∃L,b4 E g br []=some (.x (.d c 0 0 n),L)∧L[c]?=some x):
  cn g br H (.x (.d H.length 0 0 n)) (H++[x]):=by
 obtain⟨L,ah,fh⟩:=ah;have j:=(ga (bt [])).2 br ai;have l6:=k7 al;have dc:=sx fh al;unfold cn dj;rw[ai];simp only[e0,he,reach,j,fp,ah,dx,rz,if_false,nc,sy,c_,bd,cP.c,dc];simp[co,cB,dm,bt,fh,l6,ef,cP.to,cP.c]
def SI(g:List (List bh))(aP:g.length≤1000)(ai:∀r∈g,r.length≤1000)(H:aa):cn 45 [.i (.ae 1 (bX g) false)] H (.x (.d H.length 0 0 g.length)) (H++[.ax 5 0 0 (aX g)]):=aPr rfl rfl rfl (by
 have ao:=aPn g aP;have an:=aPo g aP ai g.length 0 R;rw[show((0:Nat):Int)=0 from rfl]at an;have az:=aix g 0;rw[nI Tryz.func45 rfl CR.1];simp(disch:=omega)only[au,simprocAttr,Qg,c',cN,ao,an,aeW];exact⟨_,rfl,rfl⟩)
def aPs(l:List Bool)(an:l.length≤1000)(H:aa):cn 46 [.i (.ae 1 (dl l) false)] H (.ref H.length 0 0 l.length) (H++[.ae 1 0 (dl l) false]):=by have j:=kF l;unfold cn dj;simp only[e0,show E.ext 46=some (l8 1)from rfl,bz,bd,c_,reach,fp,dx,cB,co];simp[l8,j,show l.length≤1000000000 by omega,bd,reach,Chunk.refs,co,dm,bt,Chunk.cL,ef]
def aPt{m:M}(hm:bk m):∃a b L,b4 E 19 [.agg (fH m)] []=some (.agg (aT {m with fL:=false} a 0 b 0),L)∧a≠b∧L[a]?=some (.ax 5 0 0 (aX m.G))∧L[b]?=some (.ax 5 0 0 (aX m.O)):=by
 have hw:=hm.w;have aO:=hm.h;have la:=hm.G;have qE:=hm.O;have cM:=hm.back;have du:=hm.cv;have ao:=λ H=>SI m.G R (λ r ai=>by have:=la.2 r ai;omega) H
 have aI:=λ H=>SI m.O R (λ r ai=>by have:=qE.2 r ai;omega) H
 have bE:=λ H=>SI m.back R (λ r ai=>by have:=cM.2 r ai;omega) H
 have c6:=λ H=>aPs m.cv R H
 rw[la.1]at ao;rw[qE.1]at aI;have fr:=DB m.back;have z2:=AH m.back;have t1:=kF m.cv;have fo:=f' m.back;have dE:=gj m.back;unfold fH;rw[bp adj];simp(disch:=omega)only[au,simprocAttr,aEC,c',eN,mO,ao,aI,bE,c6,fr,z2,SG,SH,aPh];exact⟨2,3,_,Prod.ext (congrArg U.agg (aiw {m with fL:=false} 2 0 3 0 rfl)) rfl,by decide,rfl,rfl⟩
def aiy(a b s:Int)(H:aa):ct 31 [.agg [.i (.v (.int .u8 (a))),.i (.v (.int .u8 (b)))],s] H (↑(CF a b s)):=by unfold ct dj;simp only[e0,show E.ext 31=some x9 from rfl,bz,bd,c_,reach,fp,dx,cB,co];simp[x9,bd,reach,Chunk.refs,co,ef]
def aiz{a b s:Int}(h:(a=66∨a=48)∧(b=66∨b=48)∧(s=0∨s=1)):CF a b s=true:=by obtain⟨rfl|rfl,rfl|rfl,rfl|rfl⟩:=h<;>rfl
def aPu{r:List bh}(h:1≤r.length∧r.length≤132∧hp r=true)(H:aa):ct 34 [.i (.ae 5 (b_ r) false)] H false:=cu (by
 have e:=λ H=>Lm (l:=r) R h.2.1 h.2.2 H
 refine bw adp ?_;simp(disch:=omega)only[au,simprocAttr,aEH,cN,e];exact⟨_,rfl⟩)
def aPv(g:List (List bh))(aP:g.length<100000)(ai:∀r∈g,1≤r.length∧r.length≤132∧hp r=true):∀(n k:Nat),k+n=g.length→
  hT CU 0 [(0,.i (.ae 1 (bX g) false)),(1,.aR (.func 34) [] []),(7,g.length),(8,k)] [] 0 [(0,.i (.ae 1 (bX g) false)),(1,.aR (.func 34) [] []),(7,g.length),(8,g.length),(9,false)] []:=by
 intro n;induction n with
 |zero=>intro k az;obtain rfl:k=g.length:=R;refine(cF CU 0).trans ?_;simp(disch:=omega)only[au,simprocAttr,Qj,c',cN]
 |succ n a8=>
  intro k az;have fY:k<g.length:=R;have al:=AD (eT fY);have ao:=λ H=>aPu (ai g[k] (mr fY)) H
  refine fZ ?_ (a8 (k+1) R);clear a8;refine(cF CU 0).trans ?_;simp(disch:=omega)only[au,simprocAttr,Qj,c',cN,al,ao,aBe,aeX]
def aPw(g:List (List bh))(aP:g.length<100000)(ai:∀r∈g,1≤r.length∧r.length≤132∧hp r=true)(H:aa):ct 65 [.i (.ae 1 (bX g) false),.aR (.func 34) [] []] H (↑(-1:Int)):=cu (by
 have e:=aPv g aP ai g.length 0 R;rw[show((0:Nat):Int)=0 from rfl]at e;have an:=f' g;refine bw CU ?_;simp(disch:=omega)only[au,simprocAttr,Qj,c',cN,e,an,aeX];exact⟨_,rfl⟩)
def aPx(g:List (List bh))(aP:g.length<100000)(ai:∀r∈g,1≤r.length∧r.length≤132∧hp r=true)(H:aa):ct 33 [.i (.ae 1 (bX g) false),.aR (.func 34) [] []] H false:=cu (by
 have e:=λ H=>aPw g aP ai H
 refine bw ado ?_;simp(disch:=omega)only[au,simprocAttr,aEG,c',e];exact⟨_,rfl⟩)
def aiA{c:fO}{w h:Nat}(hw:w≤1000)(ah:uT c w h)(g:aD)(H:aa):ct 29 [.agg [c.r,c.c,c.p],.agg [w,h,.i g]] H true:=cu (by
 obtain⟨r,q,p⟩:=c;obtain⟨⟨j,J⟩,⟨aw,bb⟩,bu⟩:=ah;simp only at j J aw bb bu⊢;have gz:¬r<0:=R;have E1:¬q<0:=R;cases p with
 |false=>refine bw Qf ?_;simp(disch:=omega)only[au,simprocAttr,adm,j,J,aw,bb];exact⟨_,rfl⟩
 |true=>
  have bu:=bu rfl;refine bw Qf ?_;simp(disch:=omega)only[au,simprocAttr,adm,j,J,aw,bb,bu];exact⟨_,rfl⟩)
def aPy{m:M}(hm:bk m):gi 11 [.agg (fH m)] (↑(0:Int)):=by
 have hw:=hm.w;have aO:=hm.h;have ao:=λ H=>Rq m.w m.h hw aO m.G hm.G.1 hm.G.2 H
 have aI:=λ H=>Rq m.w m.h hw aO m.O hm.O.1 hm.O.2 H
 have bE:=λ g H=>aiA (c:=m.aG) (w:=m.w) (h:=m.h) R hm.aG g H
 have c6:=λ g H=>aiA (c:=m.bP.aG) (w:=m.w) (h:=m.h) R hm.bP g H
 have lq:=λ H=>ag9 hm.a H
 have Cl:=λ H=>ag9 hm.aE H
 have RC:=λ H=>aiy m.md.dn m.md.s1 m.md.dM H
 have aiB:=λ H=>aiy m.bP.dn m.bP.s1 m.bP.dM H
 rw[aiz hm.bK]at RC;rw[aiz hm.hF]at aiB;have Ss:=λ H=>afQ m.eH (by have:=hm.eH;omega) H
 have aPz:=λ H=>aPx m.back (by have:=hm.back.1;omega) hm.back.2 H
 obtain⟨t1,t2,t3⟩:=hm.cZ;have j:=kF m.cv;have J:=f' m.back;have aw:=hm.cv;have bb:=hm.back.1;have bu:((bX m.back).length:Int)≤500:=R;have dw:((dl m.cv).length:Int)=m.w:=R;unfold fH;refine bw adg ?_;simp(disch:=omega)only[au,simprocAttr,aEz,c',eN,mO,SG,SH,ao,aI,bE,c6,lq,Cl,RC,aiB,Ss,aPz,t1,t2,t3,bu,dw];exact⟨_,rfl⟩
def SJ{m:M}(hm:bk m)(H:aa):ct 11 [.agg (fH m)] H (↑(0:Int)):=gX rfl rfl rfl (aPy hm)
def yV(m:M):List aD:=[.v (.int .i64 m.w),.v (.int .i64 m.h),.ae 1 (bX m.G) false,.v (.int .i64 m.w),.v (.int .i64 m.h),.ae 1 (bX m.O) false,.v (.int .i64 m.aG.r),.v (.int .i64 m.aG.c),.v (.bool m.aG.p),.v (.int .i64 m.bP.aG.r),.v (.int .i64 m.bP.aG.c),.v (.bool m.bP.aG.p),.v (.int .i64 m.bP.a.c1),.v (.int .i64 m.bP.a.a_),.v (.int .i64 m.bP.a.cY),.v (.bool m.bP.c4),.v (.int .u8 m.bP.dn),.v (.int .u8 m.bP.s1),.v (.int .i64 m.bP.dM),.v (.int .i64 m.a.c1),.v (.int .i64 m.a.a_),.v (.int .i64 m.a.cY),.v (.bool m.md.ins),.v (.bool m.md.io),.v (.bool m.md.kG),.v (.bool m.md.c4),.v (.bool m.md.wr),.v (.bool m.md.kH),.v (.bool m.md.fP),.v (.bool m.md.kI),.v (.int .u8 m.md.dn),.v (.int .u8 m.md.s1),.v (.int .i64 m.md.dM),.v (.int .i64 m.cz),.v (.int .i64 m.b8),.ae 1 (dl m.cv) false,.ae 1 (bX m.back) false,.v (.int .i64 m.bm.bK),.str m.bm.b5,.str m.bm.b2,.str (dQ m.eH),.str m.di]
def aiC(m:M):kP (yV m)=fH m:=rfl
def SK(H:aa)(x:aD)(r:List U):fI H (.i x::r)=match fI H r with
 |some (xs,bx)=>some (x::xs,bx)
 |none=>none:=rfl
def aiD(H:aa)(k:cP)(r:List U):fI H (.x k::r)=match pj H k with
 |some (x,H1)=>match fI H1 r with
  |some (xs,bx)=>some (x::xs,bx)
  |none=>none
 |none=>none:=rfl
def aiE{m:M}{a af b ag aE aH:Nat}{H:aa}(r0:m.fL=false)(b0:H[a]?=some (.ax 5 af aE (aX m.G)))(cM:H[b]?=some (.ax 5 ag aH (aX m.O)))(cU:a≠b)(la:m.G.length=m.h)(qE:m.O.length=m.h):
  fI H (aT m a af b ag)=some (yV m,(H.set a (.fd af (bX m.G))).set b (.fd ag (bX m.O))):=by
 have I:∀(g:List (List bh)) (c gc s:Nat) (H:aa),H[c]?=some (.ax 5 gc s (aX g))→pj H (.d c gc 0 g.length)=some (.ae 1 (bX g) false,H.set c (.fd gc (bX g))):=by intro g c gc s H h;rw[Xw,h,Xx,if_pos rfl,DB,Xy,AH,iy,rH (by rw[f'];exact cQ _)]
 have f1:=I m.G a af aE H b0;have aPA:(H.set a (.fd af (bX m.G)))[b]?=some (.ax 5 ag aH (aX m.O)):=by rw[dC cU];exact cM
 have f2:=I m.O b ag aH _ aPA;rw[la]at f1;rw[qE]at f2;unfold aT;rw[r0];rw[SK,SK,aiD,f1];simp only[SK,aiD,f2,WZ];rfl
def Bc(m:M)(Z P:List U):aa:=[.box Z,.box (aT m 2 0 3 0),.ax 5 0 0 (aX m.G),.ax 5 0 0 (aX m.O),.box P]
def aiF{m:M}{Z P:List U}{c p d:Nat}{H:aa}(wG:∀a∈Z,∃x,a=.i x)(lZ:∀a∈P,∃x,a=.i x)(h:qI p m H)(ah:H[c]?=some (.box Z))(aM:H[d]?=some (.box P))(e7:c≠d)(x y z:aD):
  mT 0 [(4,.ptr (c) 0 0 0),(5,.ptr (p) 0 0 0),(6,.ptr (d) 0 0 0),(28,.i x),(29,.i y),(30,.i z)] H=([(4,.ptr (0) 0 0 0),(5,.ptr (1) 0 0 0),(6,.ptr (4) 0 0 0),(28,.i x),(29,.i y),(30,.i z)],Bc m Z P):=by
 obtain⟨A,af,B,ag,aE,aH,av,b0,cM,iC⟩:=h;have aiG:∀{q:Nat} {W:List U},(∀a∈W,∃x,a=.i x)→H[q]?=some (.box W)→q≠p∧q≠A∧q≠B:=by
  intro q W vT bn;refine⟨λ e=>?_,λ e=>?_,λ e=>?_⟩
  ·subst e;rw[av]at bn;cases bn;obtain⟨x,al⟩:=vT (.x (.d A af 0 m.h)) (by simp[aT]);cases al
  ·subst e;rw[b0]at bn;cases bn
  ·subst e;rw[cM]at bn;cases bn
 obtain⟨ca,cc,c3⟩:=aiG wG ah;obtain⟨d1,d2,d3⟩:=aiG lZ aM;have yM:p≠A:=λ e=>by subst e;rw[b0]at av;cases av
 have h5:p≠B:=λ e=>by subst e;rw[cM]at av;cases av
 have aPB:ew 0 H (aT m A af B ag)=aT m A 0 B 0:=by simp[aT,ew,ee,cP.c,b0,cM,qS]
 have g0:∀k,(ep 0 H 0 H)[k]?=(H[k]?).map (dN 0 H k):=λ k=>by rw[ul];simp
 have ch:(ep 0 H 0 H)[c]?=some (.box Z):=by rw[g0,ah];simp only[d',dN,A9 wG]
 have cw:(ep 0 H 0 H)[d]?=some (.box P):=by rw[g0,aM];simp only[d',dN,A9 lZ]
 have fl:(ep 0 H 0 H)[p]?=some (.box (aT m A 0 B 0)):=by rw[g0,av];simp only[d',dN,aPB]
 have jb:(ep 0 H 0 H)[A]?=some (.ax 5 0 0 (aX m.G)):=by rw[g0,b0];simp[dN]
 have ml:(ep 0 H 0 H)[B]?=some (.ax 5 0 0 (aX m.O)):=by rw[g0,cM];simp[dN]
 have wW:mg 0 H [(4,.ptr (c) 0 0 0),(5,.ptr (p) 0 0 0),(6,.ptr (d) 0 0 0),(28,.i x),(29,.i y),(30,.i z)]=[(4,.ptr (c) 0 0 0),(5,.ptr (p) 0 0 0),(6,.ptr (d) 0 0 0),(28,.i x),(29,.i y),(30,.i z)]:=by simp[mg,ee,r6,ah,av,aM]
 rw[Cy,wW];generalize ep 0 H 0 H=H1 at*;have lt:∀{q:Nat} {w:Chunk},H1[q]?=some w→¬H1.length≤q:=λ h=>e8.2 (bF.1 h).1
 have aPC:=(wV (aU:=λ _=>none) wG).2;have aPD:=(wV (aU:=λ _=>none) lZ).2;have aPE:=λ aU=>(wV (aU:=aU) wG).1
 have aPF:=λ aU=>(wV (aU:=aU) lZ).1
 have dc:mS 0 [(4,.ptr (c) 0 0 0),(5,.ptr (p) 0 0 0),(6,.ptr (d) 0 0 0),(28,.i x),(29,.i y),(30,.i z)] H1=[c,p,A,B,d]:=by simp[mS,bz,bd,reach,ch,cw,fl,jb,ml,jy,bC,aPC,aPD,Chunk.refs,lt ch,lt cw,lt fl,lt jb,lt ml,ca,cc,c3,d1,d2,d3,yM,h5,iC,e7,ba ca,ba cc,ba c3,ba d1,ba d2,ba d3,ba yM,ba h5,ba iC,ba e7]
 rw[CE (ig _),dc];have nC:bt [c,p,A,B,d] c=some 0:=by simp[bt]
 have ri:bt [c,p,A,B,d] p=some 1:=by simp[bt,ba ca]
 have yI:bt [c,p,A,B,d] A=some 2:=by simp[bt,ba cc,ba yM]
 have aPG:bt [c,p,A,B,d] B=some 3:=by simp[bt,ba c3,ba h5,ba iC]
 have aPH:bt [c,p,A,B,d] d=some 4:=by simp[bt,ba e7,d1,d2,d3]
 have em:=jx _ m A 0 B 0 _ _ yI aPG;simp only[vd,Bc,fk,fp,co,nC,ri,aPH,ch,cw,fl,jb,ml,d',iM,iq,yU,em,aPE,aPF]
noncomputable def Hx(I:Fr)(H:aa):Option (eD×Fr×aa):=uv E 0 8 (e4 Tryz.f8 0) (mT 0 I H)
def bk.fold:∀{l:List dy} {m:M},bk m→pe l→bk (l.foldl Go.VI.mN m)
 |[],_,h,_=>h
 |e::l,m,h,aP=>bk.fold (l:=l) (h.mN (aP e (by simp))) λ x al=>aP x (by simp[al])
def aPI{Z P:List U}(wG:∀a∈Z,∃x,a=.i x)(lZ:∀a∈P,∃x,a=.i x)(l:List dy)(an:l.length<100000)(aP:pe l):∀(n k:Nat) (m:M) (c p d:Nat) (H:aa),k+n=l.length→bk m→qI p m H→H[c]?=some (.box Z)→H[d]?=some (.box P)→c≠d→
  Hx [(4,.ptr (c) 0 0 0),(5,.ptr (p) 0 0 0),(6,.ptr (d) 0 0 0),(28,.i (.ae 7 (et l) false)),(29,.i (.v (.int .i64 (l.length)))),(30,.i (.v (.int .i64 (k))))] H=some (.exit 0,[(4,.ptr (0) 0 0 0),(5,.ptr (1) 0 0 0),(6,.ptr (4) 0 0 0),(28,.i (.ae 7 (et l) false)),(29,.i (.v (.int .i64 (l.length)))),(30,.i (.v (.int .i64 (l.length))))]++[(31,.i (.v (.bool (false))))],Bc ((l.drop k).foldl mN m) Z P):=by
 intro n;induction n with
 |zero=>intro k m c p d H az hm aQ ah aM e7;obtain rfl:k=l.length:=R;unfold Hx;rw[aiF wG lZ aQ ah aM e7,v7,nd,List.foldl_nil];generalize Bc m Z P=W;rw[cF Kq 0];simp(disch:=omega)only[au,simprocAttr,Gc,nH,ck]
 |succ n a8=>
  intro k m c p d H az hm aQ ah aM e7;have fY:k<l.length:=R;have al:(et l)[k]?=some (Dj l[k]):=by simp[et,fY]
  have he:=aP l[k] (mr fY);obtain⟨bx,ao,j,J⟩:=Hm (f:=21) (br:=[uZ l[k]]) (H:=Bc m Z P++[.box (kP (Dj l[k]))]) (p:=1) (A:=2) (B:=3) (af:=0) (ag:=0) rfl rfl rfl (aOa hm l[k] he) ⟨rfl,⟨0,rfl⟩,⟨0,rfl⟩,by decide⟩;have aI:=a8 (k+1) _ 0 1 4 bx R (hm.mN he) j (J.2.1 0 _ rfl (by decide) trivial) (J.2.1 4 _ rfl (by decide) trivial) (by decide);unfold Hx;rw[aiF wG lZ aQ ah aM e7,v7,ji fY,zo];refine fZ ?_ aI;clear aI a8;generalize l[k]=e at*;rw[yS]at ao;simp only[Dj]at al ao;simp only[Bc,ck,kP,fk,fp]at ao⊢;rw[cF Kq 0];simp(disch:=omega)only[au,simprocAttr,Gc,nH,al,ao,show∀I H,e3 E 0 8 (qN _) I H=Hx (norm [4,5,6,28,29,30] I) H from λ I H=>oZ rfl aJ aJ aJ aJ I H]
def iE(m:M)(s:List UInt8):M:={(jm m.bm s).2.foldl mN {m with fL:=false}with bm:=(jm m.bm s).1,fL:=false}
def bk.SL{m:M}(h:bk m)(q:df)(b:Bool):bk {m with bm:=q,fL:=b}:=
 {w:=h.w,h:=h.h,G:=h.G,O:=h.O,aG:=h.aG,bP:=h.bP,a:=h.a,aE:=h.aE,cZ:=h.cZ,cv:=h.cv,back:=h.back,bK:=h.bK,hF:=h.hF,eH:=h.eH,di:=h.di}
def WP(m:M):Prop:=bk m∧gG m.bm=true
def WP.aiH{m:M}(h:WP m)(s:List UInt8):pe (jm m.bm s).2:=by unfold jm;rw[Me h.2];exact ais s h.2
def WP.write{m:M}(h:WP m)(s:List UInt8):WP (iE m s):=by refine⟨(bk.fold (h.1.SL m.bm false) (h.aiH s)).SL _ _,?_⟩;show gG (jm m.bm s).1=true;unfold jm;rw[Me h.2];exact SC s h.2
def aPJ{g:Nat}{br:List U}{a b:Nat}{m:M}{x y:Chunk}{H:aa}(he:E.ext g=none)(ai:bz br=[])(al:x.refs=[])(aZ:y.refs=[])(cU:a≠b)(ah:∃L,b4 E g br []=some (.agg (aT m a 0 b 0),L)∧L[a]?=some x∧L[b]?=some y):
  cn g br H (.agg (aT m H.length 0 (H.length+1) 0)) (H++[x,y]):=by
 obtain⟨L,ah,fh,tv⟩:=ah;have j:=(ga (bt [])).2 br ai;have l6:=k7 al;have GU:=k7 aZ;have iw:bd (.agg (aT m a 0 b 0))=[a,b]:=rfl;have bG:=e8.2 (bF.1 fh).1;have bH:=e8.2 (bF.1 tv).1;have dc:reach L 64 [a,b] []=[a,b]:=by simp[reach,fh,tv,al,aZ,cU,ba cU,bG,bH]
 have ao:=jx (dm [] H.length [a,b]) m a 0 b 0 H.length (H.length+1) (by simp[dm,bt]) (by simp[dm,bt,ba cU,qv]);unfold cn dj;rw[ai];simp only[e0,he,reach,j,fp,ah,dx,rz,if_false,nc,sy,c_,iw,dc];simp[co,cB,ao,fh,tv,l6,GU,ef]
def aiI{m:M}(hm:bk m)(H:aa):cn 19 [.agg (fH m)] H (.agg (aT {m with fL:=false} H.length 0 (H.length+1) 0)) (H++[.ax 5 0 0 (aX m.G),.ax 5 0 0 (aX m.O)]):=by obtain⟨a,b,L,j,J,aw,bb⟩:=aPt hm;exact aPJ rfl rfl rfl rfl J ⟨L,j,aw,bb⟩
def aiJ(m:M):bz (fH m)=[]:=rfl
def aPK(m:M)(H:aa):fI H (fH m)=some (yV m,H):=by rw[←aiC];exact O6 (yV m)
def aPL(m:M)(H:aa):fI H (mk m (.i (.v (.int .i64 m.w))) (.i (.v (.int .i64 m.h))) (.i (.ae 1 (bX m.G) false)) (.i (.v (.int .i64 m.w))) (.i (.v (.int .i64 m.h))) (.i (.ae 1 (bX m.O) false)) (.i (.ae 1 (dl m.cv) false)) (.i (.ae 1 (bX m.back) false)))=some (yV m,H):=aPK m H
def aPM(m:M):(yV m).map U.i=mk m (.i (.v (.int .i64 m.w))) (.i (.v (.int .i64 m.h))) (.i (.ae 1 (bX m.G) false)) (.i (.v (.int .i64 m.w))) (.i (.v (.int .i64 m.h))) (.i (.ae 1 (bX m.O) false)) (.i (.ae 1 (dl m.cv) false)) (.i (.ae 1 (bX m.back) false)):=rfl
def aPN(m:M):jD [none,none,some 1,none,none,some 1,none,none,none,none,none,none,none,none,none,none,none,none,none,none,none,none,none,none,none,none,none,none,none,none,none,none,none,none,none,some 1,some 1,none,none,none,none,none] (mk m (.i (.v (.int .i64 m.w))) (.i (.v (.int .i64 m.h))) (.i (.ae 1 (bX m.G) false)) (.i (.v (.int .i64 m.w))) (.i (.v (.int .i64 m.h))) (.i (.ae 1 (bX m.O) false)) (.i (.ae 1 (dl m.cv) false)) (.i (.ae 1 (bX m.back) false)))=mk m (.i (.v (.int .i64 m.w))) (.i (.v (.int .i64 m.h))) (.i (.ae 1 (bX m.G) false)) (.i (.v (.int .i64 m.w))) (.i (.v (.int .i64 m.h))) (.i (.ae 1 (bX m.O) false)) (.i (.ae 1 (dl m.cv) false)) (.i (.ae 1 (bX m.back) false)):=rfl
def aPO:(E.kinds 76).getD 35 none=some 1:=aJ
def aPP:(E.kinds 76).getD 36 none=some 1:=aJ
def aPQ(m:M)(a af b ag:Nat):(aT m a af b ag).set 35 (.i (.ae 1 (dl m.cv) false))=aT m a af b ag:=rfl
def aPR(m:M)(a af b ag:Nat):(aT m a af b ag).set 36 (.i (.ae 1 (bX m.back) false))=aT {m with fL:=false} a af b ag:=rfl
def aPS(m:M)(a af b ag:Nat):eI 42 (aT m a af b ag)=[]:=rfl
def aPT(m:M)(g0 g1 X cH cr Y T K:U):eI 42 (mk m g0 g1 X cH cr Y T K)=[]:=rfl
def nR:=o @aPS (o @aPT (o @aPL (o @aPM (o @aPN (o SG (o SH (o aPO (o aPP (o @aPQ @aPR)))))))))
def Mg:List U:=[.i (.v (.int .i64 (0))),.i (.v (.int .i64 (0))),.i (.ae 0 [] true),.i (.v (.int .i64 (0))),.i (.v (.int .i64 (0))),.i (.ae 0 [] true),.i (.v (.int .i64 (0))),.i (.v (.int .i64 (0))),.i (.v (.bool (false))),.i (.v (.int .i64 (0))),.i (.v (.int .i64 (0))),.i (.v (.bool (false))),.i (.v (.int .i64 (0))),.i (.v (.int .i64 (0))),.i (.v (.int .i64 (0))),.i (.v (.bool (false))),.i (.v (.int .u8 0)),.i (.v (.int .u8 0)),.i (.v (.int .i64 (0))),.i (.v (.int .i64 (0))),.i (.v (.int .i64 (0))),.i (.v (.int .i64 (0))),.i (.v (.bool (false))),.i (.v (.bool (false))),.i (.v (.bool (false))),.i (.v (.bool (false))),.i (.v (.bool (false))),.i (.v (.bool (false))),.i (.v (.bool (false))),.i (.v (.bool (false))),.i (.v (.int .u8 0)),.i (.v (.int .u8 0)),.i (.v (.int .i64 (0))),.i (.v (.int .i64 (0))),.i (.v (.int .i64 (0))),.i (.ae 0 [] true),.i (.ae 0 [] true),.i (.v (.int .i64 (0))),.i (.str []),.i (.str []),.i (.str []),.i (.str [])]
def oW{m:M}(hw:WP m)(s:List UInt8)(aS:s.length<5000):gi 8 [.agg (fH m),.i (.str s)] (.agg (fH (iE m s))):=by
 have hm:=hw.1;have ao:=λ H=>aiI hm H
 have aI:=λ H=>SJ hm H
 obtain⟨bG,bH⟩:=Rd hw.2;have bE:=λ H=>aHs m.bm R R s R H
 have aP:=hw.aiH s;obtain⟨l,an⟩:∃l,(jm m.bm s).2=l:=⟨_,rfl⟩;obtain⟨q,bn⟩:∃q,(jm m.bm s).1=q:=⟨_,rfl⟩;have sJ:l.length<100000:=by have:=(Rc s (Rd hw.2)).2;rw[←an];unfold jm;rw[Me hw.2];omega
 obtain⟨m2,gq⟩:∃m2,iE m s=m2:=⟨_,rfl⟩;have jW:=hw.write s;rw[gq]at jW⊢;unfold iE at gq;unfold Lg wv at bE;rw[an]at aP;rw[an,bn]at gq;rw[an,bn]at bE;have fe:=Lf l;have aV:fH m=mk (m) (.i (.v (.int .i64 (m).w))) (.i (.v (.int .i64 (m).h))) (.i (.ae 1 (bX m.G) false)) (.i (.v (.int .i64 (m).w))) (.i (.v (.int .i64 (m).h))) (.i (.ae 1 (bX m.O) false)) (.i (.ae 1 (dl (m).cv) false)) (.i (.ae 1 (bX (m).back) false)):=rfl;rw[aV]at ao aI⊢;refine bw Kq ?_;simp(disch:=omega)only[au,simprocAttr,Gc,nH,mO,bM,bT,bC,Sn,nR,ao,aI,bE,fe,show∀I H,e3 E 0 8 (qN _) I H=Hx (norm [4,5,6,28,29,30] I) H from λ I H=>oZ rfl aJ aJ aJ aJ I H];have rr:bk {m with fL:=false}:=hm.SL m.bm false;have c6:=aPI (Z:=Mg) (P:=[.i (.v (.int .i64 (q.bK))),.i (.str q.b5),.i (.str q.b2)]) (by simp[Mg]) (by simp) l sJ aP l.length 0 {m with fL:=false} 1 4 5 [.box (mk (m) (.i (.v (.int .i64 (m).w))) (.i (.v (.int .i64 (m).h))) (.i (.ae 1 (bX (m).G) false)) (.i (.v (.int .i64 (m).w))) (.i (.v (.int .i64 (m).h))) (.i (.ae 1 (bX (m).O) false)) (.i (.ae 1 (dl (m).cv) false)) (.i (.ae 1 (bX (m).back) false))),.box Mg,.ax 5 0 0 (aX m.G),.ax 5 0 0 (aX m.O),.box (aT {m with fL:=false} 2 0 3 0),.box [.i (.v (.int .i64 (q.bK))),.i (.str q.b5),.i (.str q.b2)]] R rr ⟨2,0,3,0,0,0,rfl,rfl,rfl,by decide⟩ rfl rfl (by decide);rw[iy,show((0:Nat):Int)=0 from rfl]at c6;have hb:=bk.fold rr aP;obtain⟨m1,j⟩:∃m1,l.foldl mN {m with fL:=false}=m1:=⟨_,rfl⟩;rw[j]at c6 hb gq;simp only[Mg,Bc,ck]at c6;rw[c6];have EF:∀H:aa,H[2]?=some (.ax 5 0 0 (aX m1.G))→H[3]?=some (.ax 5 0 0 (aX m1.O))→fI H (aT m2 2 0 3 0)=some (yV m2,(H.set 2 (.fd 0 (bX m2.G))).set 3 (.fd 0 (bX m2.O))):=by subst gq;intro H b0 cM;exact aiE rfl b0 cM (by decide) hb.G.1 hb.O.1
 have aPU:({m1 with fL:=false,bm:=⟨q.bK,q.b5,q.b2⟩}:M)=m2:=gq;simp(disch:=omega)only[au,simprocAttr,Gc,nH,mO,bM,bT,bC,Sn,nR];rw[aPU,EF _ rfl rfl];simp(disch:=omega)only[au,simprocAttr,Gc,nH,mO,nR];exact⟨_,rfl⟩
def D'{m:M}(hw:WP m)(s:List UInt8)(aS:s.length<5000)(H:aa):ct 8 [.agg (fH m),.i (.str s)] H (.agg (fH (iE m s))):=gX rfl rfl rfl (oW hw s aS)
def aP4(r c:Int)(p:Bool):j1 Tryz.prog .neq 30 (.agg [.i (.v (.int .i64 r)),.i (.v (.int .i64 c)),.i (.v (.bool p))]) (.agg [.i (.v (.int .i64 r)),.i (.v (.int .i64 c)),.i (.v (.bool p))])=some (.i (.v (.bool false))):=by rw[F7];simp[i6,ye,yc,yd,oA,pg,oz,qP,U.bool]
structure ei (h:bh→bh):Prop where
 w:∀c,(h c).w=c.w
 a:∀c,(h c).a=c.a
 i:∀c,h (h c)=h c
 b:∀a_,h (qD a_)=qD a_
 c:∀a,h (cont a)=cont a
 m:∀r a c,h (mc r a (h c))=h (mc r a c)
section
variable{h:bh→bh}(aO:ei h)
include aO
def ei.Bd(l:List bh):(l.map h).map h=l.map h:=by
 rw[wa];exact zM λ c _=>aO.i c
def ei.o_(n:Nat)(a_:Int):(dq n a_).map h=dq n a_:=by simp[dq,aO.b]
def ei.pV(l:List bh)(k:Nat):(da l k).map h=da (l.map h) k:=by
 unfold da;rw[fA];cases e:l[k]? with
 |none=>rfl
 |some c=>
  simp only[d',aO.w,aO.a];split
  ·simp only[uM,aO.b]
  ·rfl
def ei.bi(l:List bh)(c:Nat):∀n,(iA l c n).map h=iA (l.map h) c n
 |0=>rfl
 |n+1=>by rw[iA,iA,aO.pV,ei.bi l c n]
def ei.fix(l:List bh):(k8 l).map h=k8 (l.map h):=by
 unfold k8;rw[fA,lX];cases e:l[l.length-1]? with
 |none=>rfl
 |some c=>
  simp only[d',aO.w,aO.a];split
  ·simp only[uM,aO.b]
  ·rfl
def ei.ins(l:List bh)(c n:Nat)(a:eh):(mJ l c n a).map h=mJ (l.map h) c n a:=by unfold mJ AF;rw[aO.fix];simp only[pP,uN,rK,aO.pV,aO.o_,lX]
def ei.del(l:List bh)(c n:Nat)(a:eh):(o7 l c n a).map h=o7 (l.map h) c n a:=by unfold o7;simp only[pP,uN,rK,aO.pV,aO.o_,lX]
def ei.era(l:List bh)(p q:Nat)(a:eh):(pS l p q a).map h=pS (l.map h) p q a:=by
 unfold pS;split
 ·rfl
 ·simp only[pP,uN,rK,aO.pV,aO.o_]
def ei.put(l:List bh)(c:Nat)(t:List Int)(w:Int)(a:eh):(o6 l c t w a).map h=(o6 (l.map h) c t w a).map h:=by unfold o6;split<;>simp only[uM,aO.bi,aO.Bd]
def eV(h:bh→bh)(g:List (List bh)):List (List bh):=g.map (List.map h)
def ei.ec(g:List (List bh)):eV h (eV h g)=eV h g:=by
 unfold eV;rw[wa];exact zM λ l _=>aO.Bd l
def ei.aiP(w:Nat)(a_:Int)(p q:Nat)(g:List (List bh)):eV h (il w a_ p q g)=il w a_ p q (eV h g):=by simp only[eV,il,pP,uN,rK,List.map_replicate,aO.o_]
def ei.up(w:Nat)(a_:Int)(p q k:Nat)(g:List (List bh)):eV h (rM w a_ p q k g)=rM w a_ p q k (eV h g):=by simp only[eV,rM,pP,uN,rK,List.map_replicate,aO.o_]
def ei.aP_(w:Nat)(a_:Int)(p q k:Nat)(g:List (List bh)):eV h (rN w a_ p q k g)=rN w a_ p q k (eV h g):=by simp only[eV,rN,pP,uN,rK,List.map_replicate,aO.o_]
def ei.yH(w:Nat)(a_:Int)(p q:Nat)(k:Int)(g:List (List bh)):eV h (qJ w a_ p q k g)=qJ w a_ p q k (eV h g):=by
 unfold qJ;split
 ·exact aO.up ..
 ·exact aO.aP_ ..
def aiQ(p:Nat)(k:Int)(g:List (List bh)):eV h (jn p k g)=jn p k (eV h g):=by
 unfold jn rO eV;split
 ·simp only[uN,rK]
 ·rfl
def aiR(b aj:List (List bh)):eV h (tx b aj)=tx (eV h b) (eV h aj):=by simp only[tx,uP,eV,rK,pP,dd,lX]
def dK(h:bh→bh)(m:M):M:={m with G:=eV h m.G,O:=eV h m.O,back:=eV h m.back,bm:=⟨0,[],[]⟩,fL:=false}
def lc{x y:M}(j:eV h x.G=eV h y.G)(J:eV h x.O=eV h y.O)(aw:eV h x.back=eV h y.back)(bb:(x.w,x.h,x.aG,x.bP,x.a,x.md,x.cz,x.b8,x.cv,x.eH,x.di)=(y.w,y.h,y.aG,y.bP,y.a,y.md,y.cz,y.b8,y.cv,y.eH,y.di)):dK h x=dK h y:=by obtain⟨⟩:=x;obtain⟨⟩:=y;simp only[bA]at bb;simp only[dK]at*;simp[j,J,aw,bb]
def eu(h:bh→bh)(f:M→M):Prop:=∀m,dK h (f m)=dK h (f (dK h m))
def eu.comp{f g:M→M}(aK:eu h f)(aP:eu h g):eu h λ m=>f (g m):=λ m=>by rw[aK (g m),aP m,←aK]
def dz{c:Prop} [Decidable c]{a b bY bV:M}(j:dK h a=dK h bY)(J:dK h b=dK h bV):dK h (if c then a else b)=dK h (if c then bY else bV):=by split<;>assumption
def Be(m:M):fx (dK h m)=(fx m).map h:=by show(eV h m.G).getD m.aG.r.toNat []=(m.G.getD m.aG.r.toNat []).map h;simp only[eV,oV,fA];cases m.G[m.aG.r.toNat]?<;>rfl
def Mh(g:List (List bh))(k:Nat)(r:List bh):eV h (g.set k r)=(eV h g).set k (r.map h):=by simp[eV,uM]
include aO
def ei.mf:eu h λ m=>m:=λ m=>lc (aO.ec _).symm (aO.ec _).symm (aO.ec _).symm rfl
def ei.cells{f:M→M}(j:∀m,(f m).G=m.G∧(f m).O=m.O∧(f m).back=m.back)(J:∀m,((f m).w,(f m).h,(f m).aG,(f m).bP,(f m).a,(f m).md,(f m).cz,(f m).b8,(f m).cv,(f m).eH,(f m).di)=((f (dK h m)).w,(f (dK h m)).h,(f (dK h m)).aG,(f (dK h m)).bP,(f (dK h m)).a,(f (dK h m)).md,(f (dK h m)).cz,(f (dK h m)).b8,(f (dK h m)).cv,(f (dK h m)).eH,(f (dK h m)).di)):eu h f:=λ m=>by obtain⟨hC,a2,a3⟩:=j m;obtain⟨fo,dE,I3⟩:=j (dK h m);exact lc (by rw[hC,fo];exact(aO.ec _).symm) (by rw[a2,dE];exact(aO.ec _).symm) (by rw[a3,I3];exact(aO.ec _).symm) (J m)
def ei.uU{f:M→List bh}{u:M→fO}(j:∀m,(f m).map h=(f (dK h m)).map h)(J:∀m,u m=u (dK h m)):eu h λ m=>{m with aG:=u m,G:=m.G.set m.aG.r.toNat (f m)}:=λ m=>by
 refine lc ?_ (aO.ec _).symm (aO.ec _).symm ?_
 ·show eV h (m.G.set m.aG.r.toNat (f m))=eV h ((eV h m.G).set m.aG.r.toNat (f (dK h m)));rw[Mh,Mh,aO.ec,j]
 ·show(m.w,m.h,u m,m.bP,m.a,m.md,m.cz,m.b8,m.cv,m.eH,m.di)=(m.w,m.h,u (dK h m),m.bP,m.a,m.md,m.cz,m.b8,m.cv,m.eH,m.di);rw[J]
def ei.wJ(p q:Nat):eu h λ m=>yJ m p q:=
 aO.uU (f:=λ m=>pS (fx m) p q m.a) (u:=λ m=>{m.aG with p:=false}) (λ m=>by rw[Be,aO.era,aO.era,aO.Bd];rfl) (λ _=>rfl)
def ei.G9(ins:Bool)(n:Nat):eu h λ m=>sL m ins n:=
 aO.uU (f:=λ m=>if ins=true then mJ (fx m) m.aG.c.toNat n m.a else o7 (fx m) m.aG.c.toNat n m.a) (u:=λ m=>{m.aG with p:=false}) (λ m=>by
  split
  ·rw[Be,aO.ins,aO.ins,aO.Bd];rfl
  ·rw[Be,aO.del,aO.del,aO.Bd];rfl) (λ _=>rfl)
def ei.tA(n:Int):eu h λ m=>tA m n:=λ m=>by
 refine dz ?_ (dz ?_ (dz ?_ (aO.mf m)))
 ·exact aO.wJ m.aG.c.toNat m.w m
 ·exact aO.wJ 0 (m.aG.c.toNat+1) m
 ·exact aO.wJ 0 m.w m
def ei.LQ{f:M→List (List bh)}(j:∀m,eV h (f m)=eV h (f (dK h m))):eu h λ m=>{m with G:=f m}:=λ m=>lc (j m) (aO.ec _).symm (aO.ec _).symm rfl
def ei.rows(p q:Nat):eu h λ m=>AS m p q:=aO.LQ (f:=λ m=>il m.w m.a.a_ p q m.G) λ m=>by show eV h (il m.w m.a.a_ p q m.G)=eV h (il m.w m.a.a_ p q (eV h m.G));rw[aO.aiP,aO.aiP,aO.ec]
def ei.uV(n:Int):eu h λ m=>uV m n:=λ m=>by
 refine dz ?_ (dz ?_ (dz ?_ (dz ?_ (aO.mf m))))
 ·exact aO.rows (m.aG.r.toNat+1) m.h m
 ·exact aO.rows 0 m.aG.r.toNat m
 ·exact aO.rows 0 m.h m
 ·exact lc (aO.ec _).symm (aO.ec _).symm rfl rfl
def ei.yK(n:Int):eu h λ m=>yK m n:=eu.comp (aO.tA n) (aO.uV n)
def ei.k'(k:Bool){fw hO:M→Int}(j:∀m,fw m=fw (dK h m))(J:∀m,hO m=hO (dK h m)):eu h λ m=>k' m (fw m) (hO m) k:=λ m=>by
 refine lc ?_ (aO.ec _).symm ?_ rfl
 ·show eV h (qJ m.w m.a.a_ (fw m).toNat m.b8.toNat (eB (hO m) (-(m.b8-fw m)) (m.b8-fw m)) m.G)=eV h (qJ m.w m.a.a_ (fw (dK h m)).toNat m.b8.toNat (eB (hO (dK h m)) (-(m.b8-fw (dK h m))) (m.b8-fw (dK h m))) (eV h m.G));rw[←j,←J,aO.yH,aO.yH,aO.ec]
 ·show eV h (if k &&(decide (m.cz=0) &&!m.md.fP)then tx m.back (jn (fw m).toNat (eB (hO m) (-(m.b8-fw m)) (m.b8-fw m)) m.G)else m.back)=eV h (if k &&(decide (m.cz=0) &&!m.md.fP)then tx (eV h m.back) (jn (fw (dK h m)).toNat (eB (hO (dK h m)) (-(m.b8-fw (dK h m))) (m.b8-fw (dK h m))) (eV h m.G))else eV h m.back);rw[←j,←J];split
  ·rw[aiR,aiR,aiQ,aiQ,aO.ec,aO.ec]
  ·exact(aO.ec _).symm
def ei.aG{u:M→fO}(j:∀m,u m=u (dK h m)):eu h λ m=>{m with aG:=u m}:=λ m=>lc (aO.ec _).symm (aO.ec _).symm (aO.ec _).symm (by
 show(m.w,m.h,u m,m.bP,m.a,m.md,m.cz,m.b8,m.cv,m.eH,m.di)=(m.w,m.h,u (dK h m),m.bP,m.a,m.md,m.cz,m.b8,m.cv,m.eH,m.di);rw[j])
def ei.feed:eu h mL:=λ m=>by
 refine dz ?_ ?_
 ·exact(eu.comp (aO.k' true (fw:=λ m=>m.cz) (hO:=λ _=>1) (λ _=>rfl) (λ _=>rfl)) (aO.aG (u:=λ m=>(o8 m.aG (cj m)).1) λ _=>rfl)) m
 ·exact aO.aG (u:=λ m=>(o8 m.aG (cj m)).1) (λ _=>rfl) m
def ei.rev:eu h Hj:=λ m=>by
 refine dz ?_ ?_
 ·exact(eu.comp (aO.k' false (fw:=λ m=>m.cz) (hO:=λ _=>-1) (λ _=>rfl) (λ _=>rfl)) (aO.aG (u:=λ m=>(rQ m.aG (cj m)).1) λ _=>rfl)) m
 ·exact aO.aG (u:=λ m=>(rQ m.aG (cj m)).1) (λ _=>rfl) m
def ei.me:eu h nj:=aO.aG (u:=λ m=>{m.aG with c:=0,p:=false}) λ _=>rfl
def ei.Hu(n:Int):eu h λ m=>uY m n:=λ m=>by refine dz ?_ (aO.mf m);exact(eu.comp aO.me (aO.k' false (fw:=λ m=>m.aG.r) (hO:=λ _=>n) (λ _=>rfl) (λ _=>rfl))) m
def ei.SP(f:List Bool→Int→Int):∀k,eu h λ m=>nP f k m
 |0=>aO.mf
 |k+1=>λ m=>(eu.comp (ei.SP f k) (aO.aG (u:=λ m=>{m.aG with c:=f m.cv m.aG.c,p:=false}) λ _=>rfl)) m
def ei.RX(n:Int):eu h λ m=>AT m n:=λ m=>by
 refine dz ?_ (dz ?_ (aO.mf m))
 ·exact lc (aO.ec _).symm (aO.ec _).symm (aO.ec _).symm rfl
 ·exact lc (aO.ec _).symm (aO.ec _).symm (aO.ec _).symm rfl
def ei.RZ(n:Int):eu h λ m=>AU m n:=λ m=>by refine dz ?_ (aO.mf m);exact lc (aO.ec _).symm (aO.ec _).symm (aO.ec _).symm rfl
def ei.R1(l:List Int):eu h λ m=>DO m l:=λ m=>by refine dz ?_ (aO.mf m);exact lc (aO.ec _).symm (aO.ec _).symm (aO.ec _).symm rfl
def ei.Hi:eu h D0:=λ m=>lc (aO.ec _).symm (aO.ec _).symm (aO.ec _).symm rfl
def ei.D2:eu h yO:=λ m=>lc (aO.ec _).symm (aO.ec _).symm (aO.ec _).symm rfl
def ei.md{u:M→k_}(j:∀m,u m=u (dK h m)):eu h λ m=>{m with md:=u m}:=λ m=>lc (aO.ec _).symm (aO.ec _).symm (aO.ec _).symm (by
 show(m.w,m.h,m.aG,m.bP,m.a,u m,m.cz,m.b8,m.cv,m.eH,m.di)=(m.w,m.h,m.aG,m.bP,m.a,u (dK h m),m.cz,m.b8,m.cv,m.eH,m.di);rw[j])
end
section
variable{h:bh→bh}(aO:ei h)
include aO
def ei.io:eu h Hh:=λ m=>dz (aO.me m) (aO.mf m)
def ei.Sd(c:Int):eu h λ m=>DX m c:=λ m=>by
 refine dz ?_ (dz ?_ (dz ?_ (dz ?_ (dz ?_ (dz ?_ (aO.mf m))))))
 ·exact aO.aG (u:=λ m=>ni m.aG (-1) (cj m)) (λ _=>rfl) m
 ·exact aO.aG (u:=λ m=>{m.aG with c:=ou m.cv m.aG.c,p:=false}) (λ _=>rfl) m
 ·exact(eu.comp aO.io aO.feed) m
 ·exact aO.me m
 ·exact aO.md (u:=λ m=>{m.md with dM:=1}) (λ _=>rfl) m
 ·exact aO.md (u:=λ m=>{m.md with dM:=0}) (λ _=>rfl) m
def ei.getD(l:List bh)(k:Nat)(a:eh):(l.map h).getD k (cont a)=h (l.getD k (cont a)):=by
 simp only[oV,fA];cases l[k]? with
 |none=>exact(aO.c a).symm
 |some c=>rfl
def ei.hs(m:M):Go.VI.hs (dK h m)=Go.VI.hs m:=by unfold Go.VI.hs;rw[Be];show(if 0≤hV m∧(((fx m).map h).getD (hV m).toNat (cont m.a)).w=0 then hV m-1 else hV m)=_;rw[aO.getD,aO.w]
def ei.mark(r:Int):eu h λ m=>rV m r:=λ m=>by show dK h (rV m r)=dK h (rV (dK h m) r);unfold rV;rw[aO.hs m];refine dz (aO.mf m) ?_;refine lc ?_ (aO.ec _).symm (aO.ec _).symm rfl;show eV h (m.G.set m.aG.r.toNat ((fx m).set (Go.VI.hs m).toNat (mc r m.a ((fx m).getD (Go.VI.hs m).toNat (cont m.a)))))=eV h ((eV h m.G).set m.aG.r.toNat ((fx (dK h m)).set (Go.VI.hs m).toNat (mc r m.a ((fx (dK h m)).getD (Go.VI.hs m).toNat (cont m.a)))));rw[Be,aO.getD,Mh,Mh,aO.ec,uM,uM,aO.Bd,aO.m]
def ei.yM:eu h qL:=λ m=>dz ((eu.comp aO.feed aO.me) m) (aO.mf m)
def ei.wO:eu h wO:=aO.aG (u:=λ m=>{m.aG with p:=false}) λ _=>rfl
def ei.h5(w:Int):eu h λ m=>uW m w:=λ m=>by refine dz (dz ((eu.comp aO.feed aO.me) m) ?_) (aO.mf m);exact aO.aG (u:=λ m=>{m.aG with c:=m.w-w,p:=false}) (λ _=>rfl) m
def ei.L0(w:Int):eu h λ m=>wN m w:=λ m=>by refine dz ?_ (aO.mf m);exact aO.uU (f:=λ m=>mJ (fx m) m.aG.c.toNat w.toNat m.a) (u:=λ m=>m.aG) (λ m=>by rw[Be,aO.ins,aO.ins,aO.Bd];rfl) (λ _=>rfl) m
def ei.R7(r w:Int):eu h λ m=>AY m r w:=
 aO.uU (f:=λ m=>o6 (fx m) m.aG.c.toNat [r] w m.a) (u:=λ m=>m.aG) (λ m=>by rw[Be,aO.put];rfl) (λ _=>rfl)
def ei.R8(w:Int):eu h λ m=>He m w:=λ m=>by
 refine dz ?_ ?_
 ·exact aO.aG (u:=λ m=>{m.aG with c:=m.w-1,p:=m.md.wr}) (λ _=>rfl) m
 ·exact aO.aG (u:=λ m=>{m.aG with c:=m.aG.c+w}) (λ _=>rfl) m
def ei.R9(r:Int):eu h λ m=>DV m r:=λ m=>by refine dz (aO.mf m) (dz (aO.mark r m) ?_);exact(eu.comp (aO.R8 (wid r)) (eu.comp (aO.R7 r (wid r)) (eu.comp (aO.L0 (wid r)) (eu.comp (aO.h5 (wid r)) (eu.comp aO.wO aO.yM))))) m
def ei.Sm(s:List UInt8)(c:Int):eu h λ m=>D3 m s c:=λ m=>by
 refine dz ?_ (dz (aO.Hi m) (dz (aO.D2 m) (dz ((eu.comp aO.feed aO.me) m) (dz (aO.feed m) (dz (aO.rev m) (dz ?_ (dz ?_ (aO.mf m))))))))
 ·exact aO.md (u:=λ m=>pY m.md s c) (λ _=>rfl) m
 ·exact lc (aO.ec _).symm (aO.ec _).symm (aO.ec _).symm rfl
 ·exact lc rfl rfl rfl rfl
def ei.mod(p n:Int)(on:Bool):eu h λ m=>D1 m p n on:=λ m=>by
 refine dz ?_ (dz ?_ (dz ?_ (dz (dz ?_ ?_) ?_)))
 ·exact aO.md (u:=λ m=>hf p on m.md n) (λ _=>rfl) m
 ·exact lc (aO.ec _).symm (aO.ec _).symm (aO.ec _).symm rfl
 ·exact aO.md (u:=λ m=>hf p on m.md n) (λ _=>rfl) m
 ·exact lc rfl (aO.ec _).symm (aO.ec _).symm rfl
 ·exact lc (aO.ec _).symm (aO.ec _).symm (aO.ec _).symm rfl
 ·exact lc (aO.ec _).symm (aO.ec _).symm (aO.ec _).symm rfl
def ei.u0(v:Int)(on:Bool):∀l,eu h λ m=>u0 m v on l
 |[]=>aO.mf
 |n::l=>eu.comp (ei.u0 v on l) (aO.mod v n on)
def ei.Sv(c:Int)(l:List Int):eu h λ m=>yR m c l:=λ m=>by
 have AG:∀n,dK h {m with aG:=iB m.aG n (cj m)}=dK h {dK h m with aG:=iB (dK h m).aG n (cj (dK h m))}:=λ n=>aO.aG (u:=λ m=>iB m.aG n (cj m)) (λ _=>rfl) m
 have aW:∀n,dK h {m with aG:=ni m.aG n (cj m)}=dK h {dK h m with aG:=ni (dK h m).aG n (cj (dK h m))}:=λ n=>aO.aG (u:=λ m=>ni m.aG n (cj m)) (λ _=>rfl) m
 have C:∀n,dK h (A5 m n)=dK h (A5 (dK h m) n):=λ n=>aO.aG (u:=λ m=>uR ⟨m.aG.r,n-1,false⟩ (cj m)) (λ _=>rfl) m
 have T:=aO.aG (u:=λ m=>⟨toR (bW l 0 1) (cj m),k9 (bW l 1 1) (cj m),false⟩) (λ _=>rfl) m;refine dz (aO.G9 true _ m)<|dz (AG _)<|dz (AG _)<|dz (aW _)<|dz (aW _)<|dz ?_<|dz ?_<|dz (C _)<|dz T<|dz (aO.SP _ _ m)<|dz (aO.yK _ m)<|dz (aO.tA _ m)<|dz (aO.Hu _ m)<|dz (aO.Hu _ m)<|dz (aO.G9 false _ m)<|dz ?_<|dz ?_<|dz ?_<|dz (aO.SP _ _ m)<|dz (C _)<|dz (aW _)<|dz ?_<|dz (AG _)<|dz T<|dz (aO.RX _ m)<|dz (aO.RZ _ m)<|dz (aO.R1 l m)<|dz (aO.Hi m)<|dz (aO.D2 m) (aO.mf m)
 ·exact(eu.comp aO.me (aO.aG (u:=λ m=>iB m.aG (0-bW l 0 1) (cj m)) λ _=>rfl)) m
 ·exact(eu.comp aO.me (aO.aG (u:=λ m=>iB m.aG (bW l 0 1) (cj m)) λ _=>rfl)) m
 ·exact aO.k' true (fw:=λ m=>m.cz) (hO:=λ _=>bW l 0 1) (λ _=>rfl) (λ _=>rfl) m
 ·exact aO.k' false (fw:=λ m=>m.cz) (hO:=λ _=>0-bW l 0 1) (λ _=>rfl) (λ _=>rfl) m
 ·exact aO.wJ m.aG.c.toNat (min (m.aG.c+bW l 0 1) m.w).toNat m
 ·exact aO.aG (u:=λ m=>⟨toR (bW l 0 1) (cj m),k9 (m.aG.c+1) (cj m),false⟩) (λ _=>rfl) m
def ei.seq(s:List UInt8)(v:Int)(bm:List Int)(c:Int):eu h λ m=>D8 m s v bm c:=λ m=>by refine dz (aO.mf m) (dz (aO.u0 v _ bm m) (dz (aO.mf m) (dz ?_ (aO.Sv c bm m))));exact lc (aO.ec _).symm (aO.ec _).symm (aO.ec _).symm rfl
def ei.mN(e:dy):eu h λ m=>mN m e:=λ m=>by refine dz (aO.R9 _ m) (dz (aO.Sd _ m) (dz (aO.Sm _ _ m) (dz (aO.seq _ _ _ _ m) (dz ?_ (aO.mf m)))));exact lc (aO.ec _).symm (aO.ec _).symm (aO.ec _).symm rfl
def ei.fold:∀(l:List dy),eu h λ m=>l.foldl Go.VI.mN m
 |[]=>aO.mf
 |e::l=>eu.comp (ei.fold l) (aO.mN e)
def ei.r3(l:List dy){m b1:M}(e:dK h m=dK h b1):dK h (l.foldl Go.VI.mN m)=dK h (l.foldl Go.VI.mN b1):=by rw[aO.fold l m,aO.fold l b1,e]
end
def Mi:ei id:=⟨λ _=>rfl,λ _=>rfl,λ _=>rfl,λ _=>rfl,λ _=>rfl,λ _ _ _=>rfl⟩
def aP'(g:List (List bh)):eV id g=g:=by simp[eV]
def aQa{m b1:M}(e:dK id m=dK id b1)(av:m.bm=b1.bm)(ak:m.fL=b1.fL):m=b1:=by obtain⟨⟩:=m;obtain⟨⟩:=b1;simp only at av ak;simp only[dK,aP',M.mk.injEq]at e;simp[e,av,ak]
def SQ(h:bh→bh)(aO:ei h)(m:M)(s:List UInt8):dK h (iE m s)=dK h ((jm m.bm s).2.foldl mN m):=
 (show dK h (iE m s)=dK h ((jm m.bm s).2.foldl mN {m with fL:=false})from rfl).trans (aO.r3 _ rfl)
def aQb(m:M)(a b:List UInt8):iE (iE m a) b=iE m (a++b):=by
 have aK:=aNQ m.bm a b;refine aQa ?_ ?_ rfl
 ·rw[SQ id Mi,SQ id Mi,aK];show dK id ((jm (jm m.bm a).1 b).2.foldl mN (iE m a))=_;rw[List.foldl_append];exact Mi.r3 _ (SQ id Mi m a)
 ·show(jm (jm m.bm a).1 b).1=(jm m.bm (a++b)).1;rw[aK]
def WP.new{w h:Nat}(hw:1≤w∧w≤132)(aO:1≤h∧h≤60):WP (iD w h):=⟨bk.new hw aO,rfl⟩
def Mj{m:M}{a b:Nat}{H:aa}(hm:bk m)(ak:m.fL=false)(b0:H[a]?=some (.ax 5 0 0 (aX m.G)))(cM:H[b]?=some (.ax 5 0 0 (aX m.O)))(cU:a≠b):fI H (aT m a 0 b 0)=some (yV m,(H.set a (.fd 0 (bX m.G))).set b (.fd 0 (bX m.O))):=aiE ak b0 cM cU hm.G.1 hm.O.1
def SR(w h:Nat)(hw:1≤w∧w≤132)(aO:1≤h∧h≤60)(H:aa):cn 7 [w,h] H (.be [.agg (aT (iD w h) H.length 0 (H.length+1) 0),↑(0:Int)]) (H++[.ax 5 0 0 (aX (iD w h).G),.ax 5 0 0 (aX (iD w h).O)]):=aho w h hw aO H
def SS{m:M}(h:m.fL=false):({m with fL:=false}:M)=m:=by obtain⟨⟩:=m;simp only at h;subst h;rfl
def aQc:(iE (iE (iD 3 1) [97,27,91]) [67,98]).G=[[⟨[97],1,⟨-1,-1,0⟩⟩,⟨[32],1,⟨-1,-1,0⟩⟩,⟨[98],1,⟨-1,-1,0⟩⟩]]:=aJ
def Ea(H:aa):ct 6 [] H true:=cu (by
 have ao:=λ H=>SR 3 1 (by decide) (by decide) H
 rw[show((3:Nat):Int)=3 from rfl,show((1:Nat):Int)=1 from rfl]at ao;have hw:=WP.new (w:=3) (h:=1) (by decide) (by decide);have aP:=aQc;have ak:(iD 3 1).fL=false:=rfl;obtain⟨N,kx⟩:∃N,iD 3 1=N:=⟨_,rfl⟩;rw[kx]at ao hw aP ak;have aI:=λ H=>D' hw [97,27,91] (by decide) H
 have jW:=hw.write [97,27,91];obtain⟨ST,GV⟩:∃ST,iE N [97,27,91]=ST:=⟨_,rfl⟩;rw[GV]at aI jW aP;have bE:=λ H=>D' jW [67,98] (by decide) H
 obtain⟨SU,aQd⟩:∃SU,iE ST [67,98]=SU:=⟨_,rfl⟩;rw[aQd]at bE aP;have aiS:bX SU.G=[[.ae 5 [[.str [97],.v (.int .i64 1),.v (.int .i64 (-1)),.v (.int .i64 (-1)),.v (.int .i64 0)],[.str [32],.v (.int .i64 1),.v (.int .i64 (-1)),.v (.int .i64 (-1)),.v (.int .i64 0)],[.str [98],.v (.int .i64 1),.v (.int .i64 (-1)),.v (.int .i64 (-1)),.v (.int .i64 0)]] false]]:=by rw[aP];rfl
 simp only[fH]at aI bE;refine bw ada ?_;simp(disch:=omega)only[au,simprocAttr,adb,c',cN,mO,bM,bT,bC,nR,ao,aI,bE,aiS,c_];rw[SS ak,Mj hw.1 ak rfl rfl (by decide)];simp(disch:=omega)only[au,simprocAttr,adb,c',cN,mO,bM,bT,bC,nR,ao,aI,bE,aiS,c_];exact⟨_,rfl⟩)
def Hy(m:M):∀a∈fH m,∃x,a=.i x:=by intro a aB;rw[←aiC]at aB;obtain⟨x,_,rfl⟩:=FG.1 aB;exact⟨x,rfl⟩
def aQe{m:M}{a b:Nat}{H:aa}(ak:m.fL=false)(b0:H[a]?=some (.fd 0 (bX m.G)))(cM:H[b]?=some (.fd 0 (bX m.O)))(la:m.G.length=m.h)(qE:m.O.length=m.h):ew 0 H (aT m a 0 b 0)=fH m:=by
 have ao:((bX m.G).drop 0).take m.h=bX m.G:=by rw[iy,rH (by rw[f'];omega)]
 have aI:((bX m.O).drop 0).take m.h=bX m.O:=by rw[iy,rH (by rw[f'];omega)]
 simp only[aT,ew,ee,cP.c,rz,if_false,b0,cM,Xz,if_true,ao,aI,ak];rfl
def aiT{t u:M}{c d:Nat}{C:List U}{H:aa}(ah:H[c]?=some (.box C))(j:ew 0 H C=fH t)(aM:H[d]?=some (.box (fH u)))(e7:c≠d)(x y z v:aD):mT 0 [(5,.ptr (c) 0 0 0),(7,.ptr (d) 0 0 0),(8,.i x),(45,.i y),(46,.i z),(47,.i v)] H=([(5,.ptr (0) 0 0 0),(7,.ptr (1) 0 0 0),(8,.i x),(45,.i y),(46,.i z),(47,.i v)],[.box (mk (t) (.i (.v (.int .i64 (t).w))) (.i (.v (.int .i64 (t).h))) (.i (.ae 1 (bX (t).G) false)) (.i (.v (.int .i64 (t).w))) (.i (.v (.int .i64 (t).h))) (.i (.ae 1 (bX (t).O) false)) (.i (.ae 1 (dl (t).cv) false)) (.i (.ae 1 (bX (t).back) false))),.box (mk (u) (.i (.v (.int .i64 (u).w))) (.i (.v (.int .i64 (u).h))) (.i (.ae 1 (bX (u).G) false)) (.i (.v (.int .i64 (u).w))) (.i (.v (.int .i64 (u).h))) (.i (.ae 1 (bX (u).O) false)) (.i (.ae 1 (dl (u).cv) false)) (.i (.ae 1 (bX (u).back) false)))]):=by
 have wW:mg 0 H [(5,.ptr (c) 0 0 0),(7,.ptr (d) 0 0 0),(8,.i x),(45,.i y),(46,.i z),(47,.i v)]=[(5,.ptr (c) 0 0 0),(7,.ptr (d) 0 0 0),(8,.i x),(45,.i y),(46,.i z),(47,.i v)]:=by simp[mg,ee,r6,ah,aM]
 have ch:(ep 0 H 0 H)[c]?=some (.box (fH t)):=by rw[ul,ah];simp only[d',dN,j]
 have cw:(ep 0 H 0 H)[d]?=some (.box (fH u)):=by rw[ul,aM];simp only[d',dN,A9 (Hy u)]
 rw[Cy,wW];generalize ep 0 H 0 H=H1 at*;have bG:=e8.2 (bF.1 ch).1;have bH:=e8.2 (bF.1 cw).1;have dc:mS 0 [(5,.ptr (c) 0 0 0),(7,.ptr (d) 0 0 0),(8,.i x),(45,.i y),(46,.i z),(47,.i v)] H1=[c,d]:=by simp[mS,bz,bd,reach,ch,cw,jy,aiJ,bG,bH,e7,ba e7]
 rw[CE (ig _),dc];have nC:bt [c,d] c=some 0:=by simp[bt]
 have ri:bt [c,d] d=some 1:=by simp[bt,ba e7]
 simp only[vd,fk,fp,co,nC,ri,ch,cw,d',iM,iq,(wV (Hy _)).1];rfl
noncomputable def Hz(I:Fr)(H:aa):Option (eD×Fr×aa):=uv E 0 3 (e4 Tryz.f3 0) (mT 0 I H)
def HA(w h:Nat):gv:=⟨w,h,0,h,false⟩
def SW(c:fO)(w h:Nat):fO:=⟨(uR c (HA w h)).r,(uR c (HA w h)).c,false⟩
def wX(m:M)(w h:Nat):M:={m with fL:=false,w:=w,h:=h,G:=pT m.G w h,O:=pT m.O w h,cz:=0,b8:=h,aG:=SW m.aG w h,bP:={m.bP with aG:=SW m.bP.aG w h},cv:=wF m.cv w}
def aiV{w h:Nat}(hw:1≤w∧w≤132)(aO:1≤h∧h≤60):hU (HA w h):=by unfold hU HA;simp only;omega
def aiW(c:fO){w h:Nat}(hw:1≤w∧w≤132)(aO:1≤h∧h≤60):uT (SW c w h) w h:=by
 have j:=pU (n:=c.r) (bU:=0) (aA:=(h:Int)-1) R;have J:=pU (n:=c.c) (bU:=0) (aA:=(w:Int)-1) R;refine⟨⟨j.1,?_⟩,⟨J.1,?_⟩,λ h=>by cases h⟩
 ·show eB c.r 0 ((h:Int)-1)<h;omega
 ·show eB c.c 0 ((w:Int)-1)<w;omega
def SX{g:List (List bh)}{gW w:Nat}(aP:jV gW g):∀k,jV w (pT g w k)
 |0=>λ r ai=>by cases ai
 |k+1=>λ r ai=>by
  rw[pT]at ai;rcases fT.1 ai with ai|ai
  ·exact SX aP k r ai
  ·rw[yP]at ai;subst ai;unfold Ry;split
   ·rename_i l an;exact⟨agc _ _,((wH.1 (aP l (jG an)).2).rP w).p⟩
   ·exact⟨by simp[dq],(eJ.o_ (by decide) w).p⟩
def bk.SY{m:M}(h:bk m){w k:Nat}(hw:1≤w∧w≤132)(aO:1≤k∧k≤60):bk (wX m w k):=
 {w:=hw,h:=aO,G:=⟨LC _ _ _,SX h.G.2 _⟩,O:=⟨LC _ _ _,SX h.O.2 _⟩,aG:=aiW _ hw aO,bP:=aiW _ hw aO,a:=h.a,aE:=h.aE,cZ:=by simp only[wX];omega,cv:=agq _ _,back:=h.back,bK:=h.bK,hF:=h.hF,eH:=h.eH,di:=h.di}
def WP.SY{m:M}(h:WP m){w k:Nat}(hw:1≤w∧w≤132)(aO:1≤k∧k≤60):WP (wX m w k):=⟨h.1.SY hw aO,h.2⟩
def aQh{m:M}(hm:bk m)(H:aa):cn 19 [.agg (fH m)] H (.agg (mk {m with fL:=false} m.w m.h (.x (.d H.length 0 0 m.h)) m.w m.h (.x (.d (H.length+1) 0 0 m.h)) (.i (.ae 1 (dl m.cv) false)) (.i (.ae 1 (bX m.back) false)))) (H++[.ax 5 0 0 (aX m.G),.ax 5 0 0 (aX m.O)]):=by exact(aiI hm H).trans (by rw[←aiw _ _ _ _ _ rfl])
def aQi(m:M)(g0 g1 X cH cr Y T K a b c d e f:U):a::b::c::d::e::f::eI 6 (mk m g0 g1 X cH cr Y T K)=mk m a b c d e f T K:=rfl
def aQj{m:M}(hm:bk m)(w h:Nat)(hw:1≤w∧w≤132)(aO:1≤h∧h≤60):gi 10 [.agg (fH m),w,h] (.be [.agg (fH (wX m w h)),↑(0:Int)]):=by
 have ao:=λ H=>agf m.w m.h w h hm.w hm.h hw aO m.G hm.G.1 hm.G.2 H
 have aI:=λ H=>agf m.w m.h w h hm.w hm.h hw aO m.O hm.O.1 hm.O.2 H
 have bE:=λ H=>aQh hm H
 have c6:=λ H=>RD m.aG (aiV hw aO) H
 have lq:=λ H=>RD m.bP.aG (aiV hw aO) H
 have Cl:=λ H=>aJb m.cv (by rw[hm.cv];have:=hm.w;omega) w R H
 obtain⟨m2,gq⟩:∃m2,wX m w h=m2:=⟨_,rfl⟩;have aP:fH m2=mk m2 (.i (.v (.int .i64 w))) (.i (.v (.int .i64 h))) (.i (.ae 1 (bX (pT m.G w h)) false)) (.i (.v (.int .i64 w))) (.i (.v (.int .i64 h))) (.i (.ae 1 (bX (pT m.O w h)) false)) (.i (.ae 1 (dl (wF m.cv w)) false)) (.i (.ae 1 (bX m.back) false)):=by rw[←gq];rfl
 simp only[HA]at c6 lq;unfold fH at bE⊢;refine bw adf ?_;simp(disch:=omega)only[au,simprocAttr,aEy,eN,mO,bM,bT,bC,nR,aQi,ao,aI,bE,c6,lq,Cl];exact⟨_,rfl⟩
def aQk{m:M}(hm:bk m)(w h:Nat)(hw:1≤w∧w≤132)(aO:1≤h∧h≤60)(H:aa):ct 10 [.agg (fH m),w,h] H (.be [.agg (fH (wX m w h)),↑(0:Int)]):=gX rfl rfl rfl (aQj hm w h hw aO)
abbrev Bf:=List UInt8×Nat×Nat×Bool
def aiX(x:Bf):List aD:=[.str x.1,.v (.int .u8 x.2.1),.v (.int .u8 x.2.2.1),.v (.bool x.2.2.2)]
def p6(l:List Bf):List (List aD):=l.map aiX
def SZ(l:List Bf):(p6 l).length=l.length:=by simp[p6]
noncomputable def r1(I:Fr)(H:aa):Option (eD×Fr×aa):=uv E 0 4 (e4 Tryz.f4 0) (mT 0 I H)
def aQl(t:M)(T:aa)(x y z:aD):mT 0 [(3,.ptr (0) 0 0 0),(21,.i x),(22,.i y),(23,.i z)] (.box (fH t)::T)=([(3,.ptr (0) 0 0 0),(21,.i x),(22,.i y),(23,.i z)],[.box (mk (t) (.i (.v (.int .i64 (t).w))) (.i (.v (.int .i64 (t).h))) (.i (.ae 1 (bX (t).G) false)) (.i (.v (.int .i64 (t).w))) (.i (.v (.int .i64 (t).h))) (.i (.ae 1 (bX (t).O) false)) (.i (.ae 1 (dl (t).cv) false)) (.i (.ae 1 (bX (t).back) false)))]):=by
 have ah:(Chunk.box (fH t)::T)[0]?=some (.box (fH t)):=rfl;generalize Chunk.box (fH t)::T=H at*;have wW:mg 0 H [(3,.ptr (0) 0 0 0),(21,.i x),(22,.i y),(23,.i z)]=[(3,.ptr (0) 0 0 0),(21,.i x),(22,.i y),(23,.i z)]:=by simp[mg,ee,r6,ah]
 have ch:(ep 0 H 0 H)[0]?=some (.box (fH t)):=by rw[ul,ah];simp only[d',dN,A9 (Hy t)]
 rw[Cy,wW];generalize ep 0 H 0 H=H1 at*;have bG:=e8.2 (bF.1 ch).1;have dc:mS 0 [(3,.ptr (0) 0 0 0),(21,.i x),(22,.i y),(23,.i z)] H1=[0]:=by simp[mS,bz,bd,reach,ch,jy,aiJ,bG]
 rw[CE (ig _),dc];have nC:bt [0] 0=some 0:=rfl;simp only[vd,fk,fp,co,nC,ch,d',iM,iq,(wV (Hy _)).1];rfl
def aQm{t:M}(ak:t.fL=false)(x y z:aD):mT 0 [(3,.ptr (2) 0 0 0),(21,.i x),(22,.i y),(23,.i z)] [.ax 5 0 0 (aX t.G),.ax 5 0 0 (aX t.O),.box (aT t 0 0 1 0)]=([(3,.ptr (0) 0 0 0),(21,.i x),(22,.i y),(23,.i z)],[.box (aT t 1 0 2 0),.ax 5 0 0 (aX t.G),.ax 5 0 0 (aX t.O)]):=by
 have wW:∀H:aa,H[2]?=some (.box (aT t 0 0 1 0))→mg 0 H [(3,.ptr (2) 0 0 0),(21,.i x),(22,.i y),(23,.i z)]=[(3,.ptr (2) 0 0 0),(21,.i x),(22,.i y),(23,.i z)]:=λ H ah=>by simp[mg,ee,r6,ah]
 have ch:ep 0 [.ax 5 0 0 (aX t.G),.ax 5 0 0 (aX t.O),.box (aT t 0 0 1 0)] 0 [.ax 5 0 0 (aX t.G),.ax 5 0 0 (aX t.O),.box (aT t 0 0 1 0)]=[.ax 5 0 0 (aX t.G),.ax 5 0 0 (aX t.O),.box (aT t 0 0 1 0)]:=by simp[ep,dN,aT,ew,ee,cP.c,qS,ak]
 rw[Cy,wW _ rfl,ch];have dc:mS 0 [(3,.ptr (2) 0 0 0),(21,.i x),(22,.i y),(23,.i z)] [.ax 5 0 0 (aX t.G),.ax 5 0 0 (aX t.O),.box (aT t 0 0 1 0)]=[2,0,1]:=by simp[mS,bz,bd,reach,jy,bC,Chunk.refs]
 rw[CE (ig _),dc];simp[vd,co,bt,jx,Chunk.cL]
def aQn{l:List Bf}(an:l.length≤8){k:Nat}{s:List UInt8}{a b:Nat}{r:Bool}(az:l[k]?=some (s,a,b,r))(aB:a<256)(ak:b<256){t:M}{C:List U}{T:aa}(hw:WP t)(oU:C=fH t∧T=[]∨t.fL=false∧C=aT t 1 0 2 0∧T=[.ax 5 0 0 (aX t.G),.ax 5 0 0 (aX t.O)]):
  (∃ap,d_ E 0 4 (e4 Tryz.f4 0) [(3,.ptr (0) 0 0 0),(21,.i (.ae 4 (p6 l) false)),(22,.i (.v (.int .i64 (l.length)))),(23,.i (.v (.int .i64 (k))))] (.box C::T)=some (.ret,[(2,.i (.v (.bool (true))))],ap))∨∃t2:M,WP t2∧∃cW,d_ E 0 4 (e4 Tryz.f4 0) [(3,.ptr (0) 0 0 0),(21,.i (.ae 4 (p6 l) false)),(22,.i (.v (.int .i64 (l.length)))),(23,.i (.v (.int .i64 (k))))] (.box C::T)=r1 [(3,.ptr (0) 0 0 0),(21,.i (.ae 4 (p6 l) false)),(22,.i (.v (.int .i64 (l.length)))),(23,.i (.v (.int .i64 (k+1))))] (.box (mk (t2) (.i (.v (.int .i64 (t2).w))) (.i (.v (.int .i64 (t2).h))) (.i (.ae 1 (bX (t2).G) false)) (.i (.v (.int .i64 (t2).w))) (.i (.v (.int .i64 (t2).h))) (.i (.ae 1 (bX (t2).O) false)) (.i (.ae 1 (dl (t2).cv) false)) (.i (.ae 1 (bX (t2).back) false)))::cW):=by
 have mX:=(bF.1 az).1;have al:(p6 l)[k]?=some [.str s,.v (.int .u8 a),.v (.int .u8 b),.v (.bool r)]:=by simp[p6,az,aiX]
 have hlen:=SZ l;have bf:(k:Int)<l.length:=R;generalize p6 l=aW at*;by_cases aSg:s.length≤60
 ·have ao:=λ H=>D' hw s R H
  have jW:=hw.write s;obtain⟨u,hu⟩:∃u,iE t s=u:=⟨_,rfl⟩;rw[hu]at ao jW;right;cases r with
  |false=>
   have bE:=λ H=>SJ jW.1 H
   have fm:(bX u.back).length≤500:=by rw[f'];exact jW.1.back.1
   have aQo:=jW.1.di;refine⟨u,jW,?_⟩;simp only[fH]at ao bE;rcases oU with⟨rfl,rfl⟩|⟨r0,rfl,rfl⟩
   ·simp only[fH];rw[cF wc 0];simp(disch:=omega)only[au,simprocAttr,sE,c',kB,mO,bM,bT,bC,nR,al,ao,bE,show∀I H,e3 E 0 4 (qN _) I H=r1 (norm [3,21,22,23] I) H from λ I H=>oZ rfl aJ aJ aJ aJ I H];exact⟨_,rfl⟩
   ·rw[cF wc 0];simp(disch:=omega)only[au,simprocAttr,sE,c',kB,mO,bM,bT,bC,nR,al,ao,bE,show∀I H,e3 E 0 4 (qN _) I H=r1 (norm [3,21,22,23] I) H from λ I H=>oZ rfl aJ aJ aJ aJ I H];rw[Mj hw.1 r0 rfl rfl (by decide)];simp(disch:=omega)only[au,simprocAttr,sE,c',kB,mO,bM,bT,bC,nR,al,ao,bE,show∀I H,e3 E 0 4 (qN _) I H=r1 (norm [3,21,22,23] I) H from λ I H=>oZ rfl aJ aJ aJ aJ I H];exact⟨_,rfl⟩
  |true=>
   obtain⟨w,Ec,m_⟩:∃w:Nat,Int.tmod (a:Int) 20+1=(w:Int)∧1≤w∧w≤132:=⟨a%20+1,by rw[LG R];omega,R⟩;obtain⟨h,Ed,vL⟩:∃h:Nat,Int.tmod (b:Int) 8+1=(h:Int)∧1≤h∧h≤60:=⟨b%8+1,by rw[LG R];omega,R⟩;have aI:=λ H=>aQk jW.1 w h m_ vL H
   have rW:=jW.SY m_ vL;have ch:(wX u w h).w=w:=rfl;have cw:(wX u w h).h=h:=rfl;obtain⟨v,bi⟩:∃v,wX u w h=v:=⟨_,rfl⟩;rw[bi]at aI rW ch cw;clear bi;subst ch cw;have bE:=λ H=>SJ rW.1 H
   have fm:(bX v.back).length≤500:=by rw[f'];exact rW.1.back.1
   have aQo:=rW.1.di;refine⟨v,rW,?_⟩;simp only[fH]at ao aI bE;rcases oU with⟨rfl,rfl⟩|⟨r0,rfl,rfl⟩
   ·simp only[fH];rw[cF wc 0];simp(disch:=omega)only[au,simprocAttr,sE,c',kB,mO,bM,bT,bC,nR,al,ao,aI,bE,Ec,Ed,show∀I H,e3 E 0 4 (qN _) I H=r1 (norm [3,21,22,23] I) H from λ I H=>oZ rfl aJ aJ aJ aJ I H];exact⟨_,rfl⟩
   ·rw[cF wc 0];simp(disch:=omega)only[au,simprocAttr,sE,c',kB,mO,bM,bT,bC,nR,al,ao,aI,bE,Ec,Ed,show∀I H,e3 E 0 4 (qN _) I H=r1 (norm [3,21,22,23] I) H from λ I H=>oZ rfl aJ aJ aJ aJ I H];rw[Mj hw.1 r0 rfl rfl (by decide)];simp(disch:=omega)only[au,simprocAttr,sE,c',kB,mO,bM,bT,bC,nR,al,ao,aI,bE,Ec,Ed,show∀I H,e3 E 0 4 (qN _) I H=r1 (norm [3,21,22,23] I) H from λ I H=>oZ rfl aJ aJ aJ aJ I H];exact⟨_,rfl⟩
 ·left;have aQp:60<(s.length:Int):=R;rw[cF wc 0];simp(disch:=omega)only[au,simprocAttr,sE,c',kB,al,aQp,Ea,show∀I H,e3 E 0 4 (qN _) I H=r1 (norm [3,21,22,23] I) H from λ I H=>oZ rfl aJ aJ aJ aJ I H];exact⟨_,rfl⟩
def aQq{l:List Bf}(an:l.length≤8)(ak:∀x∈l,x.2.1<256∧x.2.2.1<256):∀(n k:Nat) (t:M) (C:List U) (T:aa),k+n=l.length→WP t→(C=fH t∧T=[]∨t.fL=false∧C=aT t 1 0 2 0∧T=[.ax 5 0 0 (aX t.G),.ax 5 0 0 (aX t.O)])→∀I H,mT 0 I H=([(3,.ptr (0) 0 0 0),(21,.i (.ae 4 (p6 l) false)),(22,.i (.v (.int .i64 (l.length)))),(23,.i (.v (.int .i64 (k))))],.box C::T)→
  ∃ex bN ap,r1 I H=some (ex,bN,ap)∧(ex=.ret∧bN=[(2,.i (.v (.bool (true))))]∨ex=.exit 0):=by
 intro n;induction n with
 |zero=>
  intro k t C T az hw oU I H aP;obtain rfl:k=l.length:=R;have hlen:=SZ l;unfold r1;rw[aP,v7];generalize p6 l=aW at*;have e:d_ E 0 4 (e4 Tryz.f4 0) [(3,.ptr 0 0 0 0),(21,.i (.ae 4 aW false)),(22,.i (.v (.int .i64 (l.length)))),(23,.i (.v (.int .i64 (l.length))))] (.box C::T)=some (.exit 0,[(3,.ptr 0 0 0 0),(21,.i (.ae 4 aW false)),(22,.i (.v (.int .i64 (l.length)))),(23,.i (.v (.int .i64 (l.length)))),(24,.i (.v (.bool (false))))],.box C::T):=by rw[cF wc 0];simp(disch:=omega)only[au,simprocAttr,sE,c',kB,show∀I H,e3 E 0 4 (qN _) I H=r1 (norm [3,21,22,23] I) H from λ I H=>oZ rfl aJ aJ aJ aJ I H]
  exact⟨_,_,_,e,.inr rfl⟩
 |succ n a8=>
  intro k t C T az hw oU I H aP;obtain⟨⟨s,a,b,r⟩,al⟩:∃x,l[k]?=some x:=⟨_,eT R⟩;obtain⟨aB,jJ⟩:=ak _ (jG al);unfold r1;rw[aP,v7];rcases aQn an al aB jJ hw oU with⟨ap,e⟩|⟨t2,jW,cW,e⟩
  ·exact⟨_,_,_,e,.inl ⟨rfl,rfl⟩⟩
  ·rw[e];exact a8 (k+1) t2 (fH t2) [] R jW (.inl ⟨rfl,rfl⟩) _ _ (aQl t2 cW _ _ _)
def fD(l:List Bf)(ak:∀x∈l,x.2.1<256∧x.2.2.1<256)(an:l.length≤9223372036854775807):gi 4 [.i (.ae 4 (p6 l) false)] true:=by
 have hlen:=SZ l;by_cases gD:l.length≤8
 ·have S0:¬8<(l.length:Int):=R;have ao:=λ H=>SR 10 4 (by decide) (by decide) H
  have kx:=WP.new (w:=10) (h:=4) (by decide) (by decide);have r0:(iD 10 4).fL=false:=rfl;rw[show((10:Nat):Int)=10 from rfl,show((4:Nat):Int)=4 from rfl]at ao;generalize iD 10 4=N at*;have ai:=aQq gD ak l.length 0 N _ _ R kx (.inr ⟨r0,rfl,rfl⟩) [(3,.ptr (2) 0 0 0),(21,.i (.ae 4 (p6 l) false)),(22,.i (.v (.int .i64 (l.length)))),(23,.i (.v (.int .i64 (0))))] [.ax 5 0 0 (aX N.G),.ax 5 0 0 (aX N.O),.box (aT N 0 0 1 0)] (aQm r0 _ _ _);obtain⟨ex,bN,ap,aI,J⟩:=ai;generalize p6 l=aW at*;refine bw wc ?_;simp(disch:=omega)only[au,simprocAttr,sE,c',kB,mO,bM,bT,bC,nR,hlen,S0,ao,show∀I H,e3 E 0 4 (qN _) I H=r1 (norm [3,21,22,23] I) H from λ I H=>oZ rfl aJ aJ aJ aJ I H];rw[SS r0,aI];rcases J with⟨rfl,rfl⟩|rfl
  ·simp(disch:=omega)only[au,simprocAttr,sE,c',kB];exact⟨_,rfl⟩
  ·simp(disch:=omega)only[au,simprocAttr,sE,c',kB,Ea];exact⟨_,rfl⟩
 ·have S0:8<(l.length:Int):=R;refine bw wc ?_;simp(disch:=omega)only[au,simprocAttr,sE,c',kB,hlen,S0,Ea];exact⟨_,rfl⟩
def aiY:∀{l:List (List UInt8×Int×Int×Bool)},(∀a∈l,a.1.length≤maxLen∧(0≤a.2.1∧a.2.1≤255)∧(0≤a.2.2.1∧a.2.2.1≤255))→∃cs:List Bf,cs.length=l.length∧(∀x∈cs,x.2.1<256∧x.2.2.1<256)∧p6 cs=l.map λ a=>[.str a.1,.v (.int .u8 a.2.1),.v (.int .u8 a.2.2.1),.v (.bool a.2.2.2)]
 |[],_=>⟨[],rfl,by simp,rfl⟩
 |(s,a,b,r)::l,h=>by
  obtain⟨cs,e,j,J⟩:=aiY (l:=l) λ b ak=>h b (xK _ ak)
  obtain⟨_,aB,ak⟩:=h _ LS;simp only at aB ak;obtain⟨m,rfl⟩:=jk aB.1;obtain⟨n,rfl⟩:=jk ak.1;refine⟨(s,m,n,r)::cs,by simp[e],?_,?_⟩
  ·intro x al;rcases mU.1 al with rfl|al
   ·exact⟨by simp only;omega,by simp only;omega⟩
   ·exact j x al
  ·simp only[p6,fk]at J⊢;rw[J];rfl
def cvP(l:List (List UInt8×Int×Int×Bool))(aF:l.length≤maxLen)(h:∀a∈l,a.1.length≤maxLen∧(0≤a.2.1∧a.2.1≤255)∧(0≤a.2.2.1∧a.2.2.1≤255)):
  gi 4 [.i (.ae 4 (l.map λ a=>[.str a.1,.v (.int .u8 a.2.1),.v (.int .u8 a.2.2.1),.v (.bool a.2.2.2)]) false)] true:=by
 obtain⟨cs,j,J,aw⟩:=aiY h;rw[←aw];have al:maxLen≤9223372036854775807:=by unfold maxLen;omega
 exact fD cs J R
end Go.VI
namespace Go.VI
open Go.Lib
open Go.Proofs
open Go.RowKit
open Go.Shelf
set_option maxRecDepth 100000
set_option maxHeartbeats 40000000
set_option linter.unusedVariables false
set_option linter.unusedSimpArgs false
set_option linter.defProp false
def Ml{ad:cb}{ac:b9}{H:aa}{a:U}{vs:Array Value}(h:oM ad ac H [a] vs):∃x,vs=#[x]∧a7 ad ac H a x:=by
 obtain⟨aS,ai⟩:=h;obtain⟨l⟩:=vs
 match l,aS with
 |[x],_=>exact⟨x,rfl,ai 0 a rfl⟩
def aQr{ad:cb}{a:aD}{v:Value}(h:ds ad a v):v.oneCell'=true:=by
 cases h
 ·assumption
 all_goals rfl
section
variable{E:Env}{ad:cb}{ac:b9}{H:aa}{w:World}
def HB(aq:b6 E ad ac H w){fN:World}(ak:Below w.heap.size w fN):cl E ad ac H w H fN λ aN aC=>aN=ad∧aC=ac:=by
 have hold:=ak.block;refine⟨ad,ac,⟨λ b aj h=>?_,λ c x al=>(aq.b7 c x al).mono (λ _=>rfl) (λ _ _ h=>h) (fb.refl _ _ _) λ r b n h=>hold b (aq.sep _ _ _ h).2.1,aq.inj,λ c b n h=>?_,aq.e_⟩,
  ⟨ak.os,ak.tape,ak.output,ak.size,λ b h _=>hold b h,λ _ _ h=>h,λ b h=>.inl h,λ c b n h=>.inr ⟨_,_,h⟩⟩,fb.refl _ _ _,rfl,rfl⟩
 ·have:=aq.dT b aj h;rw[hold b (j6.1 this).1];exact this
 ·obtain⟨j,J,aw⟩:=aq.sep _ _ _ h;exact⟨j,xf J ak.size,aw⟩
end
section
variable{E:Env}{ad:cb}{ac:b9}{H:aa}{w:World}
def S1(aq:b6 E ad ac H w){ar:World}(ak:Below w.heap.size w ar){g:Nat}(aP:w.heap.size≤g){cs:Array Value}{elem:TypeId}{bl:Nat×Nat}(rc:ar.heap[g]?=some (.cells cs elem bl))(gK:vf bl cs.size)
  {ay:Nat}{rows:List (List aD)}(bg:0<ay)(aK:Flat ay rows)(el:∀(i:Nat) (r:List aD) (k:Nat) (a:aD),rows[i]?=some r→r[k]?=some a→ds ad a (cs.getD (i*ay+k) undef))(hle:rows.length*ay≤cs.size){cap:Nat}(j7:rows.length≤cap)(eX:cap*ay≤cs.size):
  cl E ad ac H w (H++[.ae ay 0 rows false]) ar λ aN aC=>a7 aN aC (H++[.ae ay 0 rows false]) (.ref H.length 0 0 rows.length) (.slice (some ⟨g,0,none⟩) rows.length cap):=by
 have uO:g<ar.heap.size:=(j6.1 rc).1;have hold:=ak.block;have hm:fb ad ac H ad (fS ac H.length g cs.size) (H++[.ae ay 0 rows false]):=by
  refine mV (λ _ _ h=>h) (by simp) λ c ah=>?_
  exact jc.same (by rw[en ah]) (λ r=>by simp[fS,show c≠H.length by omega])
 have hy:∀(c:fj) b n,fS ac H.length g cs.size c=some (b,n)→(c=⟨H.length,0⟩∧b=g∧n=cs.size)∨ac c=some (b,n):=by
  intro c b n h;unfold fS at h;split at h
  ·cases h;exact .inl ⟨by assumption,rfl,rfl⟩
  ·exact .inr h
 refine⟨ad,fS ac H.length g cs.size,⟨λ b aj ak=>?_,λ c x al=>?_,λ c cp b n dO j J=>?_,λ c b n h=>?_,aq.e_⟩,⟨ak.os,ak.tape,ak.output,ak.size,λ b js _=>hold b js,λ _ _ h=>h,λ b h=>.inl h,λ c b n h=>?_⟩,hm,?_⟩
 ·have:=aq.dT b aj ak;have bf:b<w.heap.size:=(j6.1 this).1;rw[hold b bf];exact this
 ·by_cases ah:c<H.length
  ·rw[en ah]at al;refine(aq.b7 c x al).mono (λ r=>by simp[fS,show c≠H.length by omega]) (λ _ _ h=>h) hm λ r b n h=>hold b (aq.sep _ _ _ h).2.1
  ·have:c=H.length:=by have:=(bF.1 al).1;simp at this;omega
   subst this;simp at al;subst al;exact⟨λ e=>R,aK,.inr ⟨g,cs,elem,bl,by simp[fS],rc,gK,hle,λ h=>(by cases h),el⟩⟩
 ·rcases hy _ _ _ j with⟨rfl,rfl,rfl⟩|ao
  ·rcases hy _ _ _ J with⟨e,_,_⟩|aI
   ·exact e.symm
   ·have:=(aq.sep _ _ _ aI).2.1;omega
  ·rcases hy _ _ _ J with⟨e,rfl,_⟩|aI
   ·have:=(aq.sep _ _ _ ao).2.1;omega
   ·exact aq.inj _ _ _ _ _ ao aI
 ·rcases hy _ _ _ h with⟨rfl,rfl,rfl⟩|ao
  ·refine⟨?_,uO,by simp⟩;cases cd:ad b with
   |none=>rfl
   |some aj=>have:=(j6.1 (aq.dT _ _ cd)).1;omega
  ·have:=aq.sep _ _ _ ao;exact⟨this.1,xf this.2.1 ak.size,by simp;omega⟩
 ·rcases hy _ _ _ h with⟨rfl,rfl,rfl⟩|ao
  ·exact .inl aP
  ·exact .inr ⟨_,_,ao⟩
 ·refine .ref _ _ _ _ _ (by simp) (λ PT c9 hK h=>?_) (λ _ _ _ h=>by simp at h) ⟨_,_,rfl⟩ (λ _ _ _ _ h=>R);simp at h;obtain⟨rfl,rfl,rfl⟩:=h;exact⟨R,_,_,rfl,.inr ⟨g,cs.size,by simp[fS],R,by simpa using eX,.inl (by simp)⟩⟩
def Mm(aq:b6 E ad ac H w){ar:World}(ak:Below w.heap.size w ar){z:Nat}(bg:0<z)(a:Option Addr):cl E ad ac H w (H++[.ae z 0 [] false]) ar λ aN aC=>a7 aN aC (H++[.ae z 0 [] false]) (.ref H.length 0 0 0) (.slice a 0 0):=by
 refine(HB aq ak).trans λ ej dY dt _ _ _=>?_
 have fC:dY H.length=none:=by
  cases h:dY H.length with
  |none=>rfl
  |some p=>have:=dt.Bz (b:=p.1) (n:=p.2) h;omega
 have hm:fb ej dY H ej dY (H++[.ae z 0 [] false]):=mV (λ _ _ h=>h) (by simp) λ c ah=>jc.same (by rw[en ah]) (λ _=>rfl)
 refine⟨ej,dY,⟨dt.dT,λ c x al=>?_,dt.inj,λ c b n h=>by have:=dt.sep c b n h;exact⟨this.1,this.2.1,by simp;omega⟩,dt.e_⟩,Trans.refl _ _ _,hm,?_⟩
 ·by_cases ah:c<H.length
  ·rw[en ah]at al;exact(dt.b7 c x al).mono (λ _=>rfl) (λ _ _ h=>h) hm (λ _ _ _ _=>rfl)
  ·have:c=H.length:=by have:=(bF.1 al).1;simp at this;omega
   subst this;simp at al;subst al;exact⟨λ e=>R,λ i r h=>by simp at h,.inl ⟨fC,rfl⟩⟩
 ·refine .ref _ _ _ _ _ (by simp) (λ PT c9 hK h=>?_) (λ _ _ _ h=>by simp at h) ⟨_,_,rfl⟩ (λ _ _ _ _ h=>R);simp at h;obtain⟨rfl,rfl,rfl⟩:=h;exact⟨by simp,_,_,rfl,.inl ⟨fC,rfl⟩⟩
def aiZ(P:Program)(f:FuncId)(z:Nat)(T:TypeId):Prop:=
 (∀(jg:Addr) (n c:Nat) (fR:List Value) (w:World),fR.length=n*z→n≤1000000000→(∀ab u,fR[ab]?=some u→w.cell? (jg.add ab)=some u)→(∀u∈fR,u.oneCell'=true)→
  Calls P f #[.slice (some jg) n c] w λ e ar=>∃hi,e=.returned hi∧ar.ownsRow w.heap.size T z hi n fR∧Below w.heap.size w ar)∧
 ∀(n c:Nat) (w:World),Calls P f #[.slice none n c] w λ e ar=>e=.returned (.slice none 0 0)∧ar=w
def S2{E:Env}{f:FuncId}{z:Nat}{T:TypeId}(bg:0<z)(cg:aiZ E.P f z T):sB E f (l8 z):=by
 intro args H r ap ai ad ac w vs aq b0;unfold l8 at ai;split at ai
 ·rename_i fr rows ex;split at ai
  ·rename_i ah;obtain⟨rfl,fq⟩:=ah;cases ai;obtain⟨y,rfl,iJ⟩:=Ml b0;cases iI iJ with
   |nil _ _ a cap al=>
    cases a with
    |none=>
     refine(cg.2 0 cap w).mono λ e ar ⟨j,J⟩=>?_
     subst j J;exact⟨_,rfl,Mm aq (wY _ _) bg none⟩
    |some jg=>
     refine(cg.1 jg 0 cap [] w (by simp) (by decide) (λ ab u a'=>by cases a') (λ u hu=>by cases hu)).mono λ e ar ⟨hi,he,ku,sM⟩=>?_
     subst he;obtain⟨_,bi⟩:=ku;rcases bi with⟨rfl,_⟩|⟨g,Pa,lY,rfl,HC,kv,HD,_,ey,_⟩
     ·exact⟨_,rfl,Mm aq sM bg none⟩
     ·exact⟨_,rfl,S1 aq sM HC kv (ps _) bg (λ i r h=>by simp at h) (λ i r k a h=>by simp at h) (by simp) HD R⟩
   |ae _ _ _ b off cap cs elem bl dB cd j7 al iw j J=>
    have aQs:=aq.dT b _ cd;have vt:∀i k,i<rows.length→k<fr→cs[off+i*fr+k]?=some (dB i k)∧(dB i k).oneCell'=true:=by intro i k aA az;have qp:rows[i]?=some rows[i]:=eT aA;have hlen:=iw i _ qp;have ai0:rows[i][k]?=some rows[i][k]:=eT R;exact⟨j i _ k _ qp ai0,aQr (J i _ k _ qp ai0)⟩
    have MG:∀ab,ab/fr*fr+ab%fr=ab:=λ ab=>by rw[vi];exact zi _ _
    have t_:∀ab,ab<rows.length*fr→cs[off+ab]?=some (dB (ab/fr) (ab%fr))∧(dB (ab/fr) (ab%fr)).oneCell'=true:=by intro ab a';have:=vt (ab/fr) (ab%fr) ((H9 bg).2 a') (EN _ bg);rw[tT,MG]at this;exact this
    have ai1:∀ab u,((hg (rows.length*fr)).map λ ab=>dB (ab/fr) (ab%fr))[ab]?=some u→ab<rows.length*fr∧u=dB (ab/fr) (ab%fr):=by
     intro ab u a';rw[fA]at a';by_cases bf:ab<rows.length*fr
     ·rw[JK bf]at a';simp only[d',bj]at a';exact⟨bf,a'.symm⟩
     ·rw[sl (by simp;omega)]at a';cases a'
    refine(cg.1 ⟨b,off,none⟩ rows.length cap ((hg (rows.length*fr)).map λ ab=>dB (ab/fr) (ab%fr)) w (by simp) fq (λ ab u a'=>?_) (λ u hu=>?_)).mono λ e ar ⟨hi,he,ku,sM⟩=>?_
    ·obtain⟨bf,rfl⟩:=ai1 ab u a';rw[Addr.add_lit];simp[sf,aQs,(t_ ab bf).1]
    ·obtain⟨ab,a'⟩:=List.getElem?_of_mem hu;obtain⟨bf,rfl⟩:=ai1 ab u a';exact(t_ ab bf).2
    ·subst he;obtain⟨_,bi⟩:=ku;rcases bi with⟨rfl,hA⟩|⟨g,Pa,lY,rfl,HC,kv,HD,_,ey,qF⟩
     ·obtain rfl:rows=[]:=qe.1 hA;exact⟨_,rfl,Mm aq sM bg none⟩
     ·have hle:rows.length*fr≤lY.size:=by rw[ey];exact j5 _ HD
      refine⟨_,rfl,S1 aq sM HC kv (ps _) bg iw (λ i r k a aA az=>?_) hle HD R⟩;have zs:i<rows.length:=(bF.1 aA).1;have mX:k<fr:=by have:=(bF.1 az).1;rw[iw i r aA]at this;exact this
      have a':i*fr+k<rows.length*fr:=by have:(i+1)*fr≤rows.length*fr:=j5 _ zs;rw[hj]at this;omega
      have aM:(i*fr+k)/fr=i:=by rw[vi,Nat.mul_add_div bg,Nat.div_eq_of_lt mX,fc]
      have aQt:(i*fr+k)%fr=k:=by rw[vi,Nat.mul_add_mod,Dg mX]
      have:(lY.toList.take (rows.length*fr))[i*fr+k]?=some (dB i k):=by rw[qF,fA,JK a'];simp only[d',bj];rw[aM,aQt]
      rw[Rx a']at this;have ahm:lY[i*fr+k]?=some (dB i k):=by simpa using this
      rw[dp,ahm];exact J i r k a aA az
  ·cases ai
 ·cases ai
def aQu{E:Env}{f:FuncId}{z:Nat}{T:TypeId}(cg:aiZ E.P f 1 T):sB E f (tl z):=by
 intro args H r ap ai ad ac w vs aq b0;unfold tl at ai;split at ai
 ·rename_i fr rows ex;split at ai
  ·rename_i ah;obtain⟨rfl,fq⟩:=ah;cases ai;refine(S2 (E:=E) (f:=f) (T:=T) (by decide) cg [.i (.ae 1 rows ex)] H (.ref H.length 0 0 rows.length) (H++[.ae 1 0 rows false]) (by unfold l8;exact if_pos ⟨rfl,fq⟩) ad ac w vs aq b0).mono λ e ar ⟨x,he,k⟩=>?_
   exact⟨x,he,Nl (z:=z) aq k⟩
  ·cases ai
 ·rename_i c g aj n;unfold Pk at ai;split at ai;rotate_left
  ·cases ai
  rename_i d new H1 aS;split at ai;rotate_left
  ·cases ai
  rename_i py;simp only[bj,bA]at ai;obtain⟨rfl,rfl⟩:=ai;obtain⟨y,rfl,iJ⟩:=Ml b0;obtain⟨g2,off,s2,c9,_,m',b',fC,rfl,eA,a,cap,rfl,mw,ka,pC,re⟩:=IN E.P aq iJ aS;have ft:d<H.length:=(bF.1 m').1;have pz:∀(i:Nat) (y:bS),i<new.length→c9[off+i]?=some y→mj ad ac w z d (off+i) y (eA.getD i undef):=λ i y aA aZ=>pC i y (by rw[fC i aA];exact aZ)
  have Nv:(H.set d (Chunk.ax z g2 (s2+1) (e' c9 off new.length))).length=H.length:=by simp
  have s5:∀ar:World,new=[]→Below w.heap.size w ar→cl E ad ac H w (H.set d (Chunk.ax z g2 (s2+1) (e' c9 off new.length))++[.ax z 0 0 new]) ar λ aN aC=>a7 aN aC (H.set d (Chunk.ax z g2 (s2+1) (e' c9 off new.length))++[.ax z 0 0 new]) (.x (.d (H.set d (Chunk.ax z g2 (s2+1) (e' c9 off new.length))).length 0 0 new.length)) (.slice none 0 0):=by
   intro ar aV ak;subst aV;refine(HB aq ak).trans λ ej dY dt _ _ ao=>?_
   obtain⟨rfl,rfl⟩:=ao;obtain⟨e2,ez,ie,gT,j',_⟩:=BX dt m' (g1:=g2) (s1:=s2+1) (ub:=e' c9 off 0) (.inr ⟨rfl,R,by rw[sk]⟩) (by rw[sk];exact cQ _) (λ i y aZ=>by rw[sk]at aZ;exact aZ);obtain⟨jK,jL,E6,xM,BW,E7⟩:=Nr ie z none;exact⟨jK,jL,E6,gT.trans xM,j'.trans BW,E7⟩
  cases a with
  |none=>
   have aV:new=[]:=by
    cases new with
    |nil=>rfl
    |cons q l=>obtain⟨jg,j,_⟩:=re 0 (by simp);cases j
   refine(cg.2 new.length cap w).mono λ e ar ⟨j,J⟩=>?_
   subst j J;exact⟨_,rfl,s5 _ aV (wY _ _)⟩
  |some jg=>
   refine(cg.1 jg new.length cap eA.toList w (by simp[ka]) py (λ ab u a'=>?_) (λ u hu=>?_)).mono λ e ar ⟨hi,he,ku,sM⟩=>?_
   ·have jO:ab<new.length:=by have:=(bF.1 a').1;simpa[ka]using this
    obtain⟨aSh,j,J⟩:=re ab jO;cases j;rw[J];simp only[mW]at a';rw[dp,a'];rfl
   ·obtain⟨ab,a'⟩:=List.getElem?_of_mem hu;have jO:ab<new.length:=by have:=(bF.1 a').1;simpa[ka]using this
    simp only[mW]at a';have:=(pC ab _ (eT jO)).one;rwa [dp,a']at this
   subst he;obtain⟨_,bi⟩:=ku;rcases bi with⟨rfl,hA⟩|⟨ag,Pa,lY,rfl,HC,kv,HD,_,ey,qF⟩
   ·exact⟨_,rfl,s5 _ (qe.1 hA) sM⟩
   ·refine⟨_,rfl,?_⟩;rw[Nv];have qm:∀ab,ab<new.length→lY.getD ab undef=eA.getD ab undef:=by
     intro ab a';have j:(lY.toList.take (new.length*1))[ab]?=eA.toList[ab]?:=by rw[qF]
     rw[Rx R,mW,mW]at j;rw[dp,dp,j]
    refine BT aq (c:=H.length) (d:=d) (p:=0) (rows:=[]) (cs:=#[]) (eA:=eA) (fo:=ag) (iO:=lY) (ao:=T) (vv:=(0,0)) (ar:=ar) (n:=new.length) (off:=off) (eF:=new) (g1:=0) (s1:=0) (z:=z) (g2:=g2) (s2:=s2) (c9:=c9)
      R m' b' (by simp) (by rw[ha (by simp)];simp) (by rw[en (by simpa using ft)];simp[ft]) (λ e j J=>?_) (λ h=>R) kv (ps _) R (.inr HC) (λ b ak _=>sM.block b ak) sM.size sM.os sM.tape sM.output
     pz (λ ab y a'=>by simp at a') (λ ab y a'=>?_) (λ aC g'=>?_)
    ·by_cases aw:e<H.length
     · rw[en (by simpa using aw),dC (ba J)]
     · rw[sl (by simp;omega),sl R]
    ·have lm:=(bF.1 a').1;exact .inl ⟨ab,lm,R,by rw[←fC ab lm];exact a',qm ab lm⟩
    ·refine .x _ _ ⟨by simp,⟨_,_,rfl⟩,λ db aY dH eF h=>?_⟩ (.d (show(H.set d (Chunk.ax z g2 (s2+1) (e' c9 off new.length))++[Chunk.ax z 0 0 new])[H.length]?=some (.ax z 0 0 new)from by rw[ha (by simp)];simp));rw[ha (by simp)]at h;simp at h;obtain⟨rfl,rfl,rfl,rfl⟩:=h;exact⟨cQ _,λ _=>⟨R,_,_,rfl,.inr ⟨_,_,g',R,R,.inl rfl⟩⟩⟩
 ·cases ai
end
def aQv(jg:Addr)(n c:Nat)(fR:List Value)(w:World)(bg:fR.length=n*1)(py:n≤1000000000)(ah:∀ab u,fR[ab]?=some u→w.cell? (jg.add ab)=some u)(j:∀u∈fR,u.oneCell'=true):
  Calls Tryz.prog 46 #[.slice (some jg) n c] w λ e ar=>∃hi,e=.returned hi∧ar.ownsRow w.heap.size 4 1 hi n fR∧Below w.heap.size w ar:=by
 obtain⟨i0,aA,pr,j8,kw⟩:=info_parts (show(Tryz.prog.info? 4).map (λ i=>(i.zero,i.size,i.bytes))=some (some (.bool false),1,1)from aJ);have HE:∀(w:World) (a:Option Addr) (n c dO cp:Nat),(binOp .eql 38 (.slice a n c) (.slice none dO cp)).run Tryz.prog w=.ok (.bool a.isNone) w:=λ w a n c dO cp=>HF w _ _ a n c dO cp Tryz.underlying38
 have ai2:∀w,ua Tryz.prog (underlying 38) w=.ok (TypeDesc.slice 4) w:=run_underlying Tryz.underlying38;have A:Aside (∀ab u,fR[ab]?=some u→w.cell? (jg.add ab)=some u):=ah;clear ah
 go_enter Tryz.func46,Tryz.ntmps46
 go_wp2_with (at_builtin;refine wpList_append_own _ rfl _ _ 38 rfl w.heap.size 4 i0 _ 1 1 Tryz.underlying38 aA pr j8 kw rfl (by decide) _ _ _ rfl (World.ownsRow_made w #[] 0 (cQ _) (ig _) rfl) jg n c fR rfl bg ?HG ?HH ?HI ?HJ ?HK ?_)
 case HG=>intro ab u a';exact Lib.cell?_alloc_some _ (A.out ab u a')
 case HH=>exact j
 case HI=>unfold maxLen;omega
 case HJ=>omega
 case HK=>simp
 intro hi gg ku HL xO
 go_wp2
 go_ret
 exact⟨hi,rfl,by simpa using ku,((wY _ w).alloc (cQ _) _).grown HL (by simp) (by intro k az;simp[Value.ownBlock]at az;omega)⟩
def aQw(n c:Nat)(w:World):Calls Tryz.prog 46 #[.slice none n c] w λ e ar=>e=.returned (.slice none 0 0)∧ar=w:=by
 have HE:∀(w:World) (a:Option Addr) (n c dO cp:Nat),(binOp .eql 38 (.slice a n c) (.slice none dO cp)).run Tryz.prog w=.ok (.bool a.isNone) w:=λ w a n c dO cp=>HF w _ _ a n c dO cp Tryz.underlying38
 go_enter Tryz.func46,Tryz.ntmps46
 go_wp2
 go_ret
 exact⟨rfl,rfl⟩
def aQx:sB E 46 (l8 1):=S2 (T:=4) (by decide) ⟨aQv,aQw⟩
def aQy(jg:Addr)(n c:Nat)(fR:List Value)(w:World)(bg:fR.length=n*1)(py:n≤1000000000)(ah:∀ab u,fR[ab]?=some u→w.cell? (jg.add ab)=some u)(j:∀u∈fR,u.oneCell'=true):
  Calls Tryz.prog 78 #[.slice (some jg) n c] w λ e ar=>∃hi,e=.returned hi∧ar.ownsRow w.heap.size 65 1 hi n fR∧Below w.heap.size w ar:=by
 obtain⟨i0,aA,pr,j8,kw⟩:=info_parts (show(Tryz.prog.info? 65).map (λ i=>(i.zero,i.size,i.bytes))=some (some (.slice none 0 0),1,24)from aJ);have HE:∀(w:World) (a:Option Addr) (n c dO cp:Nat),(binOp .eql 26 (.slice a n c) (.slice none dO cp)).run Tryz.prog w=.ok (.bool a.isNone) w:=λ w a n c dO cp=>HF w _ _ a n c dO cp Tryz.underlying26
 have ai2:∀w,ua Tryz.prog (underlying 26) w=.ok (TypeDesc.slice 65) w:=run_underlying Tryz.underlying26;have A:Aside (∀ab u,fR[ab]?=some u→w.cell? (jg.add ab)=some u):=ah;clear ah
 go_enter Tryz.func78,Tryz.ntmps78
 go_wp2_with (at_builtin;refine wpList_append_own _ rfl _ _ 26 rfl w.heap.size 65 i0 _ 1 24 Tryz.underlying26 aA pr j8 kw rfl (by decide) _ _ _ rfl (World.ownsRow_made w #[] 0 (cQ _) (ig _) rfl) jg n c fR rfl bg ?HG ?HH ?HI ?HJ ?HK ?_)
 case HG=>intro ab u a';exact Lib.cell?_alloc_some _ (A.out ab u a')
 case HH=>exact j
 case HI=>unfold maxLen;omega
 case HJ=>omega
 case HK=>simp
 intro hi gg ku HL xO
 go_wp2
 go_ret
 exact⟨hi,rfl,by simpa using ku,((wY _ w).alloc (cQ _) _).grown HL (by simp) (by intro k az;simp[Value.ownBlock]at az;omega)⟩
def aQz(n c:Nat)(w:World):Calls Tryz.prog 78 #[.slice none n c] w λ e ar=>e=.returned (.slice none 0 0)∧ar=w:=by
 have HE:∀(w:World) (a:Option Addr) (n c dO cp:Nat),(binOp .eql 26 (.slice a n c) (.slice none dO cp)).run Tryz.prog w=.ok (.bool a.isNone) w:=λ w a n c dO cp=>HF w _ _ a n c dO cp Tryz.underlying26
 go_enter Tryz.func78,Tryz.ntmps78
 go_wp2
 go_ret
 exact⟨rfl,rfl⟩
def aQA:sB E 78 (tl 5):=aQu (T:=65) ⟨aQy,aQz⟩
def aQB(jg:Addr)(n c:Nat)(fR:List Value)(w:World)(bg:fR.length=n*5)(py:n≤1000000000)(ah:∀ab u,fR[ab]?=some u→w.cell? (jg.add ab)=some u)(j:∀u∈fR,u.oneCell'=true):
  Calls Tryz.prog 79 #[.slice (some jg) n c] w λ e ar=>∃hi,e=.returned hi∧ar.ownsRow w.heap.size 67 5 hi n fR∧Below w.heap.size w ar:=by
 obtain⟨i0,aA,pr,j8,kw⟩:=info_parts (show(Tryz.prog.info? 67).map (λ i=>(i.zero,i.size,i.bytes))=some (some (.agg #[.string ⟨#[]⟩,.int .i64 0,.int .i64 0,.int .i64 0,.int .i64 0]),5,48)from aJ);have HE:∀(w:World) (a:Option Addr) (n c dO cp:Nat),(binOp .eql 65 (.slice a n c) (.slice none dO cp)).run Tryz.prog w=.ok (.bool a.isNone) w:=λ w a n c dO cp=>HF w _ _ a n c dO cp Tryz.underlying65
 have ai2:∀w,ua Tryz.prog (underlying 65) w=.ok (TypeDesc.slice 67) w:=run_underlying Tryz.underlying65;have A:Aside (∀ab u,fR[ab]?=some u→w.cell? (jg.add ab)=some u):=ah;clear ah
 go_enter Tryz.func79,Tryz.ntmps79
 go_wp2_with (at_builtin;refine wpList_append_own _ rfl _ _ 65 rfl w.heap.size 67 i0 _ 5 48 Tryz.underlying65 aA pr j8 kw rfl (by decide) _ _ _ rfl (World.ownsRow_made w #[] 0 (cQ _) (ig _) rfl) jg n c fR rfl bg ?HG ?HH ?HI ?HJ ?HK ?_)
 case HG=>intro ab u a';exact Lib.cell?_alloc_some _ (A.out ab u a')
 case HH=>exact j
 case HI=>unfold maxLen;omega
 case HJ=>omega
 case HK=>simp
 intro hi gg ku HL xO
 go_wp2
 go_ret
 exact⟨hi,rfl,by simpa using ku,((wY _ w).alloc (cQ _) _).grown HL (by simp) (by intro k az;simp[Value.ownBlock]at az;omega)⟩
def aQC(n c:Nat)(w:World):Calls Tryz.prog 79 #[.slice none n c] w λ e ar=>e=.returned (.slice none 0 0)∧ar=w:=by
 have HE:∀(w:World) (a:Option Addr) (n c dO cp:Nat),(binOp .eql 65 (.slice a n c) (.slice none dO cp)).run Tryz.prog w=.ok (.bool a.isNone) w:=λ w a n c dO cp=>HF w _ _ a n c dO cp Tryz.underlying65
 go_enter Tryz.func79,Tryz.ntmps79
 go_wp2
 go_ret
 exact⟨rfl,rfl⟩
def aQD:sB E 79 (l8 5):=S2 (T:=67) (by decide) ⟨aQB,aQC⟩
def ld(x:Int):Bool:=(x !=66) &&(x !=48)
def HM(x:Int)(w:World):Calls Tryz.prog 63 #[.int .u8 x] w λ e ar=>e=.returned (.bool (ld x))∧ar=w:=by
 go_enter Tryz.func63,Tryz.ntmps63
 unfold ld;by_cases h:x=66
 ·subst h
  go_wp2
  go_ret
  exact⟨rfl,rfl⟩
 ·have j:(x !=66)=true:=by simpa using h
  go_wp2
  go_ret
  exact⟨by simp[j],rfl⟩
def aQE(a b:Int)(B c:Nat)(w:World)(aV:w.cell? ⟨B,0,none⟩=some (.int .u8 a))(j:w.cell? ⟨B,1,none⟩=some (.int .u8 b)):
  Calls Tryz.prog 119 #[.slice (some ⟨B,0,none⟩) 2 c,.func (.func 63) #[] #[]] w λ e ar=>e=.returned (.int .i64 (if ld a=true then 0 else if ld b=true then 1 else-1))∧ar=w:=by
 cases aB:ld a with
 |true=>
  rw[if_pos rfl]
  go_enter Tryz.func119,Tryz.ntmps119
  go_wp2
  refine wp_loop_rounds 3 ?_;rw[rounds_succ]
  go_wp2_with (go_at_call 63;refine(HM a w).mono ?_;rw[aB];rintro e ar ⟨rfl,rfl⟩)
  go_wp2
  go_ret
  exact⟨rfl,rfl⟩
 |false=>
  rw[if_neg (by simp)];cases ak:ld b with
  |true=>
   rw[if_pos rfl]
   go_enter Tryz.func119,Tryz.ntmps119
   go_wp2
   refine wp_loop_rounds 3 ?_;rw[rounds_succ]
   go_wp2_with (go_at_call 63;refine(HM a w).mono ?_;rw[aB];rintro e ar ⟨rfl,rfl⟩)
   go_wp2
   rw[rounds_succ]
   go_wp2_with (go_at_call 63;refine(HM b ar).mono ?_;rw[ak];rintro e ar ⟨rfl,rfl⟩)
   go_wp2
   go_ret
   exact⟨rfl,rfl⟩
  |false=>
   rw[if_neg (by simp)]
   go_enter Tryz.func119,Tryz.ntmps119
   go_wp2
   refine wp_loop_rounds 3 ?_;rw[rounds_succ]
   go_wp2_with (go_at_call 63;refine(HM a w).mono ?_;rw[aB];rintro e ar ⟨rfl,rfl⟩)
   go_wp2
   rw[rounds_succ]
   go_wp2_with (go_at_call 63;refine(HM b ar).mono ?_;rw[ak];rintro e ar ⟨rfl,rfl⟩)
   go_wp2
   rw[rounds_succ]
   go_wp2
   go_ret
   exact⟨rfl,rfl⟩
def aQF(a b s:Int):CF a b s=((!ld a) &&(!ld b) &&(s==0||s==1)):=by unfold CF ld;simp[bne]
def S3(a b:Int)(B c:Nat)(w:World)(aV:w.cell? ⟨B,0,none⟩=some (.int .u8 a))(j:w.cell? ⟨B,1,none⟩=some (.int .u8 b)):
  Calls Tryz.prog 62 #[.slice (some ⟨B,0,none⟩) 2 c,.func (.func 63) #[] #[]] w λ e ar=>e=.returned (.bool (ld a||ld b))∧ar=w:=by
 cases aB:ld a<;>cases ak:ld b
 all_goals
  go_enter Tryz.func62,Tryz.ntmps62
  go_wp2_with (go_at_call 119;refine(aQE a b B c w aV j).mono ?_;simp only[aB,ak,fK,if_true,if_false];rintro e ar ⟨rfl,rfl⟩)
  go_wp2
  go_ret
  exact⟨rfl,rfl⟩
def aQG(a b s:Int)(w:World):Calls Tryz.prog 31 #[.agg #[.int .u8 a,.int .u8 b],.int .i64 s] w λ e ar=>e=.returned (.bool (CF a b s))∧Below w.heap.size w ar:=by
 rw[aQF];cases cU:ld a||ld b with
 |true=>
  have ai:((!ld a) &&(!ld b) &&(s==0||s==1))=false:=by cases j:ld a<;>cases J:ld b<;>simp_all
  rw[ai]
  go_enter Tryz.func31,Tryz.ntmps31
  go_wp2_with (go_at_call 62;refine(S3 a b w.heap.size _ _ ((HN w _ _ 0).trans rfl) ((HN w _ _ 1).trans rfl)).mono ?_;rw[cU];rintro e ar ⟨rfl,rfl⟩)
  go_wp2
  go_ret
  exact⟨rfl,(wY _ w).alloc (cQ _) _⟩
 |false=>
  have ai:((!ld a) &&(!ld b) &&(s==0||s==1))=(s==0||s==1):=by cases j:ld a<;>cases J:ld b<;>simp_all
  rw[ai];by_cases aV:s=0
  ·subst aV
   go_enter Tryz.func31,Tryz.ntmps31
   go_wp2_with (go_at_call 62;refine(S3 a b w.heap.size _ _ ((HN w _ _ 0).trans rfl) ((HN w _ _ 1).trans rfl)).mono ?_;rw[cU];rintro e ar ⟨rfl,rfl⟩)
   go_wp2
   go_ret
   exact⟨rfl,(wY _ w).alloc (cQ _) _⟩
  ·have Sw:(s==0)=false:=by simpa using aV
   go_enter Tryz.func31,Tryz.ntmps31
   go_wp2_with (go_at_call 62;refine(S3 a b w.heap.size _ _ ((HN w _ _ 0).trans rfl) ((HN w _ _ 1).trans rfl)).mono ?_;rw[cU];rintro e ar ⟨rfl,rfl⟩)
   go_wp2
   go_ret
   exact⟨by simp[Sw],(wY _ w).alloc (cQ _) _⟩
def aQH:sB E 31 x9:=by
 intro args H r ap ai ad ac w vs aq b0;unfold x9 at ai;split at ai
 ·rename_i a b s;cases ai;obtain⟨x,y,rfl,j,J⟩:=Pl b0;obtain rfl:=fz J;cases j with
  |agg _ cs an az=>
   have xR:=fz (az 0 _ rfl);have bG:=fz (az 1 _ rfl);obtain⟨l⟩:=cs
   match l,an with
   |[gA,ca],_=>
    simp at xR bG;subst xR bG;refine(aQG a b s w).mono λ e ar ⟨j,J⟩=>?_
    subst j;obtain⟨aN,aC,ch,cw,fl,rfl,rfl⟩:=HB aq J;exact⟨_,rfl,_,_,ch,cw,fl,.i _ _ (.v _ rfl)⟩
 ·cases ai
end Go.VI
namespace Go.VI
open Go.Lib
open Go.Proofs
open Go.RowKit
open Go.Shelf
open Go.Sort
set_option maxRecDepth 100000
set_option maxHeartbeats 40000000
set_option linter.unusedVariables false
set_option linter.unusedSimpArgs false
set_option linter.defProp false
variable{E:Env}{aU:Ren}{ad:cb}{ac:b9}{H:aa}{w:World}
def ai3{ops:Array Oper}{rest:List Oper}{aj:Oper}{a:Act}{Q:Exit→Act→World→Prop}(E_:aj.guard=none)(s x:Operand)(t t2:TypeId)
  (b':aj.op=.call {callee:=.builtin .append,args:=#[s,x],argTypes:=#[t,t2]}) {aE ai4 v:U} {ap:aa} (h:hI E H t t2 aE ai4=some (v,ap)) (aq:b6 E ad ac H w)
  (cS ls:Value) (aS:a.eval s=cS) (al:a.eval x=ls) (fX:a7 ad ac H aE cS) (rx:a7 ad ac H ai4 ls)
  (k:∀u ar aN aC,b6 E aN aC ap ar→Trans ad ac w aN aC ar→fb ad ac H aN aC ap→a7 aN aC ap v u→wpList E.P ops Q rest (a.put aj.dst u) ar):wpList E.P ops Q (aj::rest) a w:=
 wpList_plain E_ λ _ jt=>by obtain⟨u,ar,ai,aN,aC,bG,bH,cG,eZ⟩:=NC (ed:=aj.type) aq h fX rx;unfold Oper.wp execOp;simp only[b',resolve,invoke,builtin,dU,eL,ek,List.map_toArray,fk,fp,aS,al,ai];exact jt _ _ (k u ar aN aC bG bH cG eZ)
def aQI(aq:b6 E ad ac H w){fN:World}{cs:Array Value}{elem:TypeId}{bl:Nat×Nat}(b':fN.os=w.os)(bq:fN.tape=w.tape)(hu:fN.output=w.output)(ey:w.heap.size<fN.heap.size)
  (hold:∀b,b<w.heap.size→fN.heap[b]?=w.heap[b]?)(fC:fN.heap[w.heap.size]?=some (.cells cs elem bl)):
  ∃aN,b6 E aN ac H fN∧Trans ad ac w aN ac fN∧fb ad ac H aN ac H∧aN w.heap.size=some (.cells cs elem bl):=by
 have tC:ad w.heap.size=none:=by
  cases cd:ad w.heap.size with
  |none=>rfl
  |some aj=>have:=aq.dT _ _ cd;simp at this
 let aN:cb:=λ b=>if b=w.heap.size then some (.cells cs elem bl)else ad b
 have hle:ad.le aN:=by
  intro b aj ak;have:b≠w.heap.size:=λ e=>by rw[e,tC]at ak;cases ak
  simp only[aN,if_neg this,ak]
 have hm:fb ad ac H aN ac H:=mV hle (cQ _) λ c ah=>jc.same rfl λ _=>rfl
 refine⟨aN,⟨λ b aj ak=>?_,λ c x al=>(aq.b7 c x al).mono (λ _=>rfl) hle hm λ r b n h=>hold b (aq.sep _ _ _ h).2.1,aq.inj,λ c b n h=>?_,λ g cells aP=>(aq.e_ g cells aP).mono hle⟩,
  ⟨b',bq,hu,Nat.le_of_lt ey,λ b ak _=>hold b ak,hle,λ b ak=>?_,λ c b n h=>.inr ⟨_,_,h⟩⟩,hm,by simp[aN]⟩
 ·by_cases e:b=w.heap.size
  ·subst e;simp only[aN,if_true,bj]at ak;rw[fC,ak]
  ·simp only[aN,if_neg e]at ak;have:=aq.dT b aj ak;rw[hold b (j6.1 this).1];exact this
 ·obtain⟨j,J,aw⟩:=aq.sep _ _ _ h;exact⟨by simp only[aN,if_neg (show b≠w.heap.size by omega),j],R,aw⟩
 ·by_cases e:b=w.heap.size
  ·exact .inr (.inl R)
  ·simp only[aN,if_neg e]at ak;exact .inl ak
def aQJ{t t2:TypeId}{s r:U}{ap:aa}{l:List UInt8}{ex:Bool}(bq:∃e,e5 E.P t=some e)(h:hI E H t t2 s (.i (.str l))=some (r,ap)):
  hI E H t t s (.i (.ae 1 (l.map λ b=>[aD.v (.int .u8 b.toNat)]) ex))=some (r,ap):=by
 obtain⟨e,he⟩:=bq;unfold hI at h⊢;rw[he]at h⊢;simp only[kU,hP]at h⊢;simp only[he,Pw,true_or,true_and];split at h
 ·rename_i z b dZ db new gd j J aw bb;simp only[bj,bA]at bb;obtain⟨rfl,rfl,rfl⟩:=bb;simp only[j,J,aw];split at h
  ·rename_i ah;obtain⟨ca,cc,c3,fD,c5,lr⟩:=ah;rw[if_pos ⟨ca,cc,c3,c5,lr⟩];exact h
  ·cases h
 ·cases h
def aQK{g:Nat}(aq:b6 E ad ac H w)(aP:E.e_ g=some o0)(ab:Nat)(a':ab<20):w.cell? ⟨g,ab,none⟩=some (.int .u64 (sA.getD ab 0)):=by
 have h:=(aq.e_ g _ aP).1;generalize ah:o0=cells at h;generalize av:CG (some ⟨g,0,none⟩)=p at h;cases h with
 |gl _ _ b off cs elem bl dB cd j J=>
  simp at av;obtain⟨rfl,aV⟩:=av;subst ah;have jO:o0[ab]?=some (.v (.int .u64 (sA.getD ab 0))):=by
   have:ab<sA.length:=by rw[Lib.pow10Tab_length];exact a'
   simp[o0,G',this]
  have ao:=j ab _ jO;have aI:=J ab _ jO;generalize dB ab=q at ao aI;cases aI with
  |v x al=>have c8:off=0:=R;subst c8;rw[cq]at ao;simp[sf,aq.dT _ _ cd,ao]
variable{E:Env}{aU:Ren}{ad:cb}{ac:b9}{H:aa}{w:World}
def aQL{P:Program}(L:LaysM.n284 P aU)(u:Nat)(j:1≤u)(J:u<18446744073709551616)(w:World)
  (yW:∀ab,ab<20→w.cell? ⟨aU.g 17,ab,none⟩=some (.int .u64 (sA.getD ab 0))):
  Calls P (aU.f 284) #[.int .u64 u] w λ e ar=>e=.returned (.int .i64 (wZ u))∧ar=w:=by
 have mixed:=L.mixed;have t53:=L.t53;have a53:=L.a53;have z53:=L.z53;have v53:=L.v53
 have t3:=L.t3;have a3:=L.a3;have z3:=L.z3;have v3:=L.v3
 have t212:=L.t212;have a212:=L.a212;have z212:=L.z212;have v212:=L.v212
 have t0:=L.t0;have a0:=L.a0;have z0:=L.z0;have v0:=L.v0
 have t4:=L.t4;have a4:=L.a4;have z4:=L.z4;have v4:=L.v4
 have aSi:∀args w,(callFunc (aU.f 129) args).run P w=.ok (.enter (aU.f 129) args) w:=enters_of L.f129 aJ rfl;have aSj:∀args w,(callFunc (aU.f 317) args).run P w=.ok (.enter (aU.f 317) args) w:=enters_of L.f317 aJ rfl;have aSk:∀args w,(callFunc (aU.f 318) args).run P w=.ok (.enter (aU.f 318) args) w:=enters_of L.f318 aJ rfl;obtain⟨Ee,aQM⟩:=Lib.numDigits_eq u j J;have fh:Lib.bitLen u≤64:=Lib.bitLen_le u 64 (cQ _) J;have el:w.cell? ⟨(aU.g 17),Lib.l10 (Lib.bitLen u),none⟩=some (.int .u64 ((10^Lib.l10 (Lib.bitLen u):Nat):Int)):=by rw[yW _ R,Lib.pow10Tab_at _ R]
 have aQN:((u:Int)).toNat=u:=R;generalize bn:Lib.l10 (Lib.bitLen u)=q at Ee aQM el;generalize du:10^q=T at Ee el;have nb:q<20:=R;have aQO:=Lib.hid Ee;clear Ee yW
 go_enter L.f284,Body.n284_ntmps aU
 go_wp2_with (first
  |(go_at_fn (aU.f 129);refine(Any.bits_Len64 {L with} _ _ R R).mono ?_;rintro e ar ⟨rfl,rfl⟩)
  |(go_at_fn (aU.f 317);refine(Any.internal_strconv_log10Pow2 {L with} _ (by first|exact fh|(rw[aQN];exact fh)) _).mono ?_;rintro e ar ⟨rfl,rfl⟩)
  |(go_at_fn (aU.f 318);refine(Any.internal_strconv_bool2_int {L with} _ _).mono ?_;rintro e ar ⟨rfl,rfl⟩))
 all_goals go_ret
 all_goals (
  refine⟨?_,rfl⟩;have Ee:=aQO.out
  congr 2
  split at Ee<;>simp_all<;>omega)
def aQP(L:LaysM.n288 E.P aU)(u:Nat)(hu:u<100)(aq:b6 E ad ac H w){s r:U}{ap:aa}{bP:Value}(fX:a7 ad ac H s bP)
  (h:hI E H (aU.t 37) (aU.t 9) s (.i (.str (nF u)))=some (r,ap)):
  Calls E.P (aU.f 288) #[bP,.int .u64 u,.int .i64 10] w λ e ar=>∃x,e=.returned x∧cl E ad ac H w ap ar λ aN aC=>a7 aN aC ap r x:=by
 have mixed:=L.mixed;have t5:=L.t5;have a5:=L.a5;have z5:=L.z5;have v5:=L.v5
 have t37:=L.t37;have S4:=run_underlying L.t37;have a37:=L.a37;have z37:=L.z37;have v37:=L.v37
 have t53:=L.t53;have a53:=L.a53;have z53:=L.z53;have v53:=L.v53
 have t3:=L.t3;have a3:=L.a3;have z3:=L.z3;have v3:=L.v3
 have t4:=L.t4;have a4:=L.a4;have z4:=L.z4;have v4:=L.v4
 have t9:=L.t9;have a9:=L.a9;have z9:=L.z9;have v9:=L.v9
 have t171:=L.t171;have a171:=L.a171;have z171:=L.z171;have v171:=L.v171
 have t0:=L.t0;have a0:=L.a0;have z0:=L.z0;have v0:=L.v0
 have t173:=L.t173;have a173:=L.a173;have z173:=L.z173;have v173:=L.v173
 have aSl:∀args w,(callFunc (aU.f 283) args).run E.P w=.ok (.enter (aU.f 283) args) w:=enters_of L.f283 aJ rfl
 go_enter L.f288,Body.n288_ntmps aU
 go_wp2_with (first
  |(go_at_fn (aU.f 283);refine(Any.internal_strconv_small {L with} u hu _).mono ?_;rintro e ar ⟨rfl,rfl⟩)
  |(at_builtin;refine ai3 rfl _ _ (aU.t 37) (aU.t 9) rfl h aq _ _ rfl rfl fX (.i _ _ (.str _)) ?_))
 intro x gg ej dY dt lW hb n2
 go_wp2
 go_ret
 exact⟨x,rfl,ej,dY,dt,lW,hb,n2⟩
def aQQ(L:LaysM.n288 E.P aU)(u:Nat)(hu:100≤u)(Ef:u<18446744073709551616)(aq:b6 E ad ac H w){s r:U}{ap:aa}{bP:Value}(fX:a7 ad ac H s bP)
  (yW:∀ab,ab<20→w.cell? ⟨aU.g 17,ab,none⟩=some (.int .u64 (sA.getD ab 0)))
  (h:hI E H (aU.t 37) (aU.t 9) s (.i (.str (nF u)))=some (r,ap)):
  Calls E.P (aU.f 288) #[bP,.int .u64 u,.int .i64 10] w λ e ar=>∃x,e=.returned x∧cl E ad ac H w ap ar λ aN aC=>a7 aN aC ap r x:=by
 have mixed:=L.mixed;have t5:=L.t5;have a5:=L.a5;have z5:=L.z5;have v5:=L.v5
 have t37:=L.t37;have S4:=run_underlying L.t37;have a37:=L.a37;have z37:=L.z37;have v37:=L.v37
 have t53:=L.t53;have a53:=L.a53;have z53:=L.z53;have v53:=L.v53
 have t3:=L.t3;have a3:=L.a3;have z3:=L.z3;have v3:=L.v3
 have t4:=L.t4;have a4:=L.a4;have z4:=L.z4;have v4:=L.v4
 have t9:=L.t9;have a9:=L.a9;have z9:=L.z9;have v9:=L.v9
 have t171:=L.t171;have a171:=L.a171;have z171:=L.z171;have v171:=L.v171
 have t0:=L.t0;have a0:=L.a0;have z0:=L.z0;have v0:=L.v0
 have t173:=L.t173;have a173:=L.a173;have z173:=L.z173;have v173:=L.v173
 have aSm:∀args w,(callFunc (aU.f 284) args).run E.P w=.ok (.enter (aU.f 284) args) w:=enters_of L.f284 aJ rfl;have aSn:∀args w,(callFunc (aU.f 285) args).run E.P w=.ok (.enter (aU.f 285) args) w:=enters_of L.f285 aJ rfl;have ai5:1≤u:=R;have aSo:wZ u≤20:=by have:=Lib.numDigits_eq u ai5 Ef;split at this<;>omega
 have AN:E.P.arrayLen (aU.t 171)=24:=by simp[Program.arrayLen,L.t171]
 have H5:∀W,(vk (aU.t 171) (.pointer (some ⟨w.heap.size,0,none⟩)) none (some (.int .i64 (wZ u:Int))) none).run E.P W=.ok (.slice (some ⟨w.heap.size,0,none⟩) (wZ u) 24) W:=λ W=>by
  rw[run_sliceAt_array_h W (aU.t 171) ⟨w.heap.size,0,none⟩ (by simp[Program.arrayLen,Program.elem,L.t171]) .i64 (wZ u:Int) R (by rw[AN];omega)]
  go_simp
 have vq:=Lib.holds_zero0 w (aU.t 171) (wZ u) R;have S5:=Any.internal_strconv_formatBase10 {L with} w.heap.size 0 24 u (zx (wZ u) 0) (w.alloc (.cells Bg (aU.t 171))) vq (by rw[S6];exact Lib.lt_pow_nDigits u) Ef (by rw[S6];omega);rw[S6]at S5;have ai6:=Lib.hid vq;have aSp:(100:Int)≤(u:Int):=R;have aQR:∀aj:Obj,∀ab,ab<20→(w.alloc aj).cell? ⟨aU.g 17,ab,none⟩=some (.int .u64 (sA.getD ab 0)):=λ aj ab a'=>by have aV:=yW ab a';have bf:=World.block_lt_of_cell? w _ aV;rw[World.cell?_of_block (z1 w aj _ bf)];exact aV
 clear vq AN
 go_enter L.f288,Body.n288_ntmps aU
 go_wp2_with (first
  |(go_at_fn (aU.f 284);refine(aQL {L with} u ai5 Ef _ (aQR _)).mono ?_;rintro e ar ⟨rfl,rfl⟩))
 go_at_fn (aU.f 285)
 refine S5.mono ?_;rintro e ar ⟨rfl,k,hi,yX,rfl,gU⟩;have S7:∀ab S8,(Mn (nF u))[ab]?=some S8→((putRow (λ(b:UInt8)=>j4 .u8 (b.toNat:Int)) (w.alloc (.cells Bg (aU.t 171))) w.heap.size 0 yX).drewN k).cell? ((⟨w.heap.size,0,none⟩:Addr).add ab)=some S8:=by
  intro ab S8 a';have jO:ab<(nF u).length:=by have bu:=(bF.1 a').1;rwa [Lib.byteCells_length]at bu
  have lq:(Mn (nF u))[ab]?=some (j4 .u8 ((nF u)[ab].toNat:Int)):=by simp[Mn,jO]
  rw[lq]at a';cases a';rw[Lib.row_is_numeral gU ab jO,Lib.add_plain,World.cell?_drewN];exact cell?_putRow (λ(b:UInt8)=>j4 .u8 (b.toNat:Int)) _ w.heap.size 0 _ yX ai6.out (by rw[gU.size,S6]) ab (by rw[gU.size];rw[Q8]at jO;exact jO)
 obtain⟨os,vx⟩:=Lib.fin_at w (.cells Bg (aU.t 171)) yX k 0;have Fy:((putRow (λ(b:UInt8)=>j4 .u8 (b.toNat:Int)) (w.alloc (.cells Bg (aU.t 171))) w.heap.size 0 yX).drewN k).os=w.os:=by rw[vx];rfl
 have n5:((putRow (λ(b:UInt8)=>j4 .u8 (b.toNat:Int)) (w.alloc (.cells Bg (aU.t 171))) w.heap.size 0 yX).drewN k).tape=w.tape:=by rw[vx];rfl
 have ai7:((putRow (λ(b:UInt8)=>j4 .u8 (b.toNat:Int)) (w.alloc (.cells Bg (aU.t 171))) w.heap.size 0 yX).drewN k).output=w.output:=by rw[vx];rfl
 have ai8:∀b,b<w.heap.size→((putRow (λ(b:UInt8)=>j4 .u8 (b.toNat:Int)) (w.alloc (.cells Bg (aU.t 171))) w.heap.size 0 yX).drewN k).heap[b]?=w.heap[b]?:=λ b ak=>by rw[vx];exact Lib.heap_grow_old w k os b ak
 have W8:0<(nF u).length:=by
  rw[Q8];have gy:=Lib.lt_pow_nDigits u;rcases Nat.eq_zero_or_pos (wZ u)with e|e
  ·rw[e]at gy;omega
  ·exact e
 generalize (putRow (λ(b:UInt8)=>j4 .u8 (b.toNat:Int)) (w.alloc (.cells Bg (aU.t 171))) w.heap.size 0 yX).drewN k=Jt at S7 Fy n5 ai7 ai8⊢;clear vx ai6 S5;obtain⟨cs,elem,bl,fC⟩:∃cs elem bl,Jt.heap[w.heap.size]?=some (.cells cs elem bl):=by
  have aV:=S7 0 (j4 .u8 ((nF u)[0].toNat:Int)) (by simp[Mn,W8]);simp only[sf,Lib.add_plain]at aV;split at aV
  ·rename_i cs elem bl aO;exact⟨cs,elem,bl,aO⟩
  ·cases aV
 have Ie:w.heap.size<Jt.heap.size:=(j6.1 fC).1;obtain⟨ej,dt,lW,hb,TY⟩:=aQI aq Fy n5 ai7 Ie ai8 fC;have bZ:ds ej (.ae 1 ((nF u).map λ b=>[aD.v (.int .u8 b.toNat)]) false) (.slice (some ⟨w.heap.size,0,none⟩) (wZ u) 24):=by
  have an:((nF u).map λ b=>[aD.v (.int .u8 b.toNat)]).length=wZ u:=by rw[lX,Q8]
  rw[←an];refine .ae 1 _ false w.heap.size 0 24 cs elem bl (λ i _=>.int .u8 ((nF u).getD i 0).toNat) TY (by rw[an];omega) (λ e=>by cases e) (λ i r aA=>?_) (λ i r ab a aA aB=>?_) (λ i r ab a aA aB=>?_)
  all_goals
   simp only[fA,c0]at aA;obtain⟨b,ak,rfl⟩:=aA
  ·rfl
  ·have a':ab=0:=by have:=(bF.1 aB).1;simp at this;omega
   subst a';have aV:=S7 i (.int .u8 b.toNat) (by simp[Mn,ak]);simp only[sf,Lib.add_plain,fC]at aV;simp[G',ak];simpa using aV
  ·have a':ab=0:=by have:=(bF.1 aB).1;simp at this;omega
   subst a';simp at aB;subst aB;simp[G',ak];exact .v _ rfl
 have h9:=aQJ (ex:=false) ⟨aU.t 5,by simp[e5,L.t37]⟩ h
 go_wp2_with (at_builtin;refine ai3 rfl _ _ (aU.t 37) (aU.t 37) rfl h9 dt _ _ rfl rfl (hb _ _ fX) (.i _ _ bZ) ?_)
 intro x rs e2 ez tY s4 gq ia
 go_wp2
 go_ret
 exact⟨x,rfl,e2,ez,tY,lW.trans s4,hb.trans gq,ia⟩
variable{E:Env}{aU:Ren}{ad:cb}{ac:b9}{H:aa}{w:World}
def aQS(L:LaysM.n249 E.P aU)(u:Nat)(Ef:u≤9223372036854775807)(aq:b6 E ad ac H w){s r:U}{ap:aa}{bP:Value}(fX:a7 ad ac H s bP)
  (yW:∀ab,ab<20→w.cell? ⟨aU.g 17,ab,none⟩=some (.int .u64 (sA.getD ab 0)))
  (h:hI E H (aU.t 37) (aU.t 9) s (.i (.str (nF u)))=some (r,ap)):
  Calls E.P (aU.f 249) #[bP,.int .i64 u,.int .i64 10] w λ e ar=>∃x,e=.returned x∧cl E ad ac H w ap ar λ aN aC=>a7 aN aC ap r x:=by
 have mixed:=L.mixed;have t5:=L.t5;have a5:=L.a5;have z5:=L.z5;have v5:=L.v5
 have t37:=L.t37;have S4:=run_underlying L.t37;have a37:=L.a37;have z37:=L.z37;have v37:=L.v37
 have t2:=L.t2;have a2:=L.a2;have z2:=L.z2;have v2:=L.v2
 have t3:=L.t3;have a3:=L.a3;have z3:=L.z3;have v3:=L.v3
 have t53:=L.t53;have a53:=L.a53;have z53:=L.z53;have v53:=L.v53
 have t4:=L.t4;have a4:=L.a4;have z4:=L.z4;have v4:=L.v4
 have aSq:∀args w,(callFunc (aU.f 288) args).run E.P w=.ok (.enter (aU.f 288) args) w:=enters_of L.f288 aJ rfl;have B':Calls E.P (aU.f 288) #[bP,.int .u64 u,.int .i64 10] w λ e ar=>∃x,e=.returned x∧cl E ad ac H w ap ar λ aN aC=>a7 aN aC ap r x:=by
  by_cases aQT:u<100
  ·exact aQP {L with} u aQT aq fX h
  ·exact aQQ {L with} u R R aq fX yW h
 have aF:¬((u:Int)<0):=R
 go_enter L.f249,Body.n249_ntmps aU
 go_wp2_with (go_at_fn (aU.f 288);refine(B').mono ?_;rintro e fN ⟨v2,rfl,b0⟩)
 go_wp2
 first|go_ret|go_ret2
 exact⟨v2,rfl,b0⟩
def aQU(L:LaysM.n176 E.P aU)(u:Nat)(Ef:u≤9223372036854775807)(aq:b6 E ad ac H w){s r:U}{ap:aa}{bP:Value}(fX:a7 ad ac H s bP)
  (yW:∀ab,ab<20→w.cell? ⟨aU.g 17,ab,none⟩=some (.int .u64 (sA.getD ab 0)))
  (h:hI E H (aU.t 37) (aU.t 9) s (.i (.str (nF u)))=some (r,ap)):
  Calls E.P (aU.f 176) #[bP,.int .i64 u,.int .i64 10] w λ e ar=>∃x,e=.returned x∧cl E ad ac H w ap ar λ aN aC=>a7 aN aC ap r x:=by
 have mixed:=L.mixed;have t5:=L.t5;have a5:=L.a5;have z5:=L.z5;have v5:=L.v5
 have t37:=L.t37;have S4:=run_underlying L.t37;have a37:=L.a37;have z37:=L.z37;have v37:=L.v37
 have t2:=L.t2;have a2:=L.a2;have z2:=L.z2;have v2:=L.v2
 have t3:=L.t3;have a3:=L.a3;have z3:=L.z3;have v3:=L.v3
 have aSr:∀args w,(callFunc (aU.f 249) args).run E.P w=.ok (.enter (aU.f 249) args) w:=enters_of L.f249 aJ rfl;have B':=aQS {L with} u Ef aq fX yW h
 go_enter L.f176,Body.n176_ntmps aU
 go_wp2_with (go_at_fn (aU.f 249);refine(B').mono ?_;rintro e fN ⟨v2,rfl,b0⟩)
 go_wp2
 go_ret
 exact⟨v2,rfl,b0⟩
def aQV(L:LaysM.n176 E.P aU)(aP:E.e_ (aU.g 17)=some o0):sB E (aU.f 176) (Af E.P (aU.t 37) (aU.t 9)):=by
 intro args H r ap ai ad ac w vs aq b0;unfold Af at ai;split at ai
 ·rename_i s n b;split at ai
  ·rename_i ah;obtain⟨rfl,aV,j⟩:=ah;obtain⟨x,y,z,rfl,iJ,tS,OO⟩:=asp b0;obtain rfl:=fz tS;obtain rfl:=fz OO;obtain⟨u,rfl⟩:∃u:Nat,n=u:=⟨n.toNat,R⟩;rw[Xg]at ai;exact aQU L u R aq iJ (λ ab a'=>aQK aq aP ab a') ai
  ·cases ai
 ·cases ai
end Go.VI
namespace Go.VI
open Go.Proofs
open Go.Shelf
set_option maxRecDepth 100000
set_option maxHeartbeats 40000000
set_option linter.unusedVariables false
set_option linter.unusedSimpArgs false
set_option linter.defProp false
def Tryz.ai9:HO:=⟨λ|176=>196|249=>221|288=>229|283=>232|284=>233|285=>234|286=>235|129=>237|317=>236|318=>238|319=>239|320=>240|337=>241|338=>242|n=>n,λ|37=>22|2=>2|3=>3|53=>226|4=>4|9=>9|171=>256|0=>0|173=>259|212=>263|51=>241|5=>5|20=>20|213=>264|46=>184|232=>267|233=>268|n=>n,λ|17=>4|18=>5|19=>6|n=>n⟩
def Tryz.aQW:Go.Proofs.LaysM.n176 Tryz.prog Tryz.ai9:={
 mixed:=aJ
 f129:=Tryz.func237.trans (congrArg some aJ)
 f176:=Tryz.func196.trans (congrArg some aJ)
 f249:=Tryz.func221.trans (congrArg some aJ)
 f283:=Tryz.func232.trans (congrArg some aJ)
 f284:=Tryz.func233.trans (congrArg some aJ)
 f285:=Tryz.func234.trans (congrArg some aJ)
 f286:=Tryz.func235.trans (congrArg some aJ)
 f288:=Tryz.func229.trans (congrArg some aJ)
 f317:=Tryz.func236.trans (congrArg some aJ)
 f318:=Tryz.func238.trans (congrArg some aJ)
 f319:=Tryz.func239.trans (congrArg some aJ)
 f320:=Tryz.func240.trans (congrArg some aJ)
 f337:=Tryz.func241.trans (congrArg some aJ)
 f338:=Tryz.func242.trans (congrArg some aJ)
 t0:=Tryz.underlying0
 a0:=Tryz.isAgg0
 z0:=Tryz.sizeOf0
 v0:=Tryz.zeroValue0
 t2:=Tryz.underlying2
 a2:=Tryz.isAgg2
 z2:=Tryz.sizeOf2
 v2:=Tryz.zeroValue2
 t3:=Tryz.underlying3
 a3:=Tryz.isAgg3
 z3:=Tryz.sizeOf3
 v3:=Tryz.zeroValue3
 t4:=Tryz.underlying4
 a4:=Tryz.isAgg4
 z4:=Tryz.sizeOf4
 v4:=Tryz.zeroValue4
 t5:=Tryz.underlying5
 a5:=Tryz.isAgg5
 z5:=Tryz.sizeOf5
 v5:=Tryz.zeroValue5
 t9:=Tryz.underlying9
 a9:=Tryz.isAgg9
 z9:=Tryz.sizeOf9
 v9:=Tryz.zeroValue9
 t20:=Tryz.underlying20
 a20:=Tryz.isAgg20
 z20:=Tryz.sizeOf20
 v20:=Tryz.zeroValue20
 t37:=Tryz.underlying22
 a37:=Tryz.isAgg22
 z37:=Tryz.sizeOf22
 v37:=Tryz.zeroValue22
 t46:=Tryz.underlying184
 a46:=Tryz.isAgg184
 z46:=Tryz.sizeOf184
 v46:=Tryz.zeroValue184
 t51:=Tryz.underlying241
 a51:=Tryz.isAgg241
 z51:=Tryz.sizeOf241
 v51:=Tryz.zeroValue241
 t53:=Tryz.underlying226
 a53:=Tryz.isAgg226
 z53:=Tryz.sizeOf226
 v53:=Tryz.zeroValue226
 t171:=Tryz.underlying256
 a171:=Tryz.isAgg256
 z171:=Tryz.sizeOf256
 v171:=Tryz.zeroValue256
 t173:=Tryz.underlying259
 a173:=Tryz.isAgg259
 z173:=Tryz.sizeOf259
 v173:=Tryz.zeroValue259
 t212:=Tryz.underlying263
 a212:=Tryz.isAgg263
 z212:=Tryz.sizeOf263
 v212:=Tryz.zeroValue263
 t213:=Tryz.underlying264
 a213:=Tryz.isAgg264
 z213:=Tryz.sizeOf264
 t232:=Tryz.underlying267
 a232:=Tryz.isAgg267
 z232:=Tryz.sizeOf267
 v232:=Tryz.zeroValue267
 t233:=Tryz.underlying268
 a233:=Tryz.isAgg268
 z233:=Tryz.sizeOf268
 v233:=Tryz.zeroValue268
 g17:=aJ
 g18:=aJ
 g19:=aJ
 i0:=aJ
 i2:=aJ
 i3:=aJ
 i4:=aJ
 i5:=aJ
 i9:=aJ
 i20:=aJ
 i37:=aJ
 i46:=aJ
 i51:=aJ
 i53:=aJ
 i171:=aJ
 i173:=aJ
 i212:=aJ
 i232:=aJ
 i233:=aJ
 m17:=aJ
 m18:=aJ
 m19:=by kernel_rfl}
def Tryz.ai_:HO:=⟨λ|171=>214|243=>225|246=>230|283=>232|284=>233|285=>234|286=>235|129=>237|317=>236|318=>238|319=>239|320=>240|337=>241|338=>242|n=>n,λ|3=>3|9=>9|2=>2|4=>4|171=>256|0=>0|53=>226|37=>22|5=>5|173=>259|212=>263|51=>241|20=>20|213=>264|46=>184|232=>267|233=>268|n=>n,λ|17=>4|18=>5|19=>6|n=>n⟩
def Tryz.aQX:Go.Proofs.LaysM.n171 Tryz.prog Tryz.ai_:={
 mixed:=aJ
 f129:=Tryz.func237.trans (congrArg some aJ)
 f171:=Tryz.func214.trans (congrArg some aJ)
 f243:=Tryz.func225.trans (congrArg some aJ)
 f246:=Tryz.func230.trans (congrArg some aJ)
 f283:=Tryz.func232.trans (congrArg some aJ)
 f284:=Tryz.func233.trans (congrArg some aJ)
 f285:=Tryz.func234.trans (congrArg some aJ)
 f286:=Tryz.func235.trans (congrArg some aJ)
 f317:=Tryz.func236.trans (congrArg some aJ)
 f318:=Tryz.func238.trans (congrArg some aJ)
 f319:=Tryz.func239.trans (congrArg some aJ)
 f320:=Tryz.func240.trans (congrArg some aJ)
 f337:=Tryz.func241.trans (congrArg some aJ)
 f338:=Tryz.func242.trans (congrArg some aJ)
 t0:=Tryz.underlying0
 a0:=Tryz.isAgg0
 z0:=Tryz.sizeOf0
 v0:=Tryz.zeroValue0
 t2:=Tryz.underlying2
 a2:=Tryz.isAgg2
 z2:=Tryz.sizeOf2
 v2:=Tryz.zeroValue2
 t3:=Tryz.underlying3
 a3:=Tryz.isAgg3
 z3:=Tryz.sizeOf3
 v3:=Tryz.zeroValue3
 t4:=Tryz.underlying4
 a4:=Tryz.isAgg4
 z4:=Tryz.sizeOf4
 v4:=Tryz.zeroValue4
 t5:=Tryz.underlying5
 a5:=Tryz.isAgg5
 z5:=Tryz.sizeOf5
 v5:=Tryz.zeroValue5
 t9:=Tryz.underlying9
 a9:=Tryz.isAgg9
 z9:=Tryz.sizeOf9
 v9:=Tryz.zeroValue9
 t20:=Tryz.underlying20
 a20:=Tryz.isAgg20
 z20:=Tryz.sizeOf20
 v20:=Tryz.zeroValue20
 t37:=Tryz.underlying22
 a37:=Tryz.isAgg22
 z37:=Tryz.sizeOf22
 v37:=Tryz.zeroValue22
 t46:=Tryz.underlying184
 a46:=Tryz.isAgg184
 z46:=Tryz.sizeOf184
 v46:=Tryz.zeroValue184
 t51:=Tryz.underlying241
 a51:=Tryz.isAgg241
 z51:=Tryz.sizeOf241
 v51:=Tryz.zeroValue241
 t53:=Tryz.underlying226
 a53:=Tryz.isAgg226
 z53:=Tryz.sizeOf226
 v53:=Tryz.zeroValue226
 t171:=Tryz.underlying256
 a171:=Tryz.isAgg256
 z171:=Tryz.sizeOf256
 v171:=Tryz.zeroValue256
 t173:=Tryz.underlying259
 a173:=Tryz.isAgg259
 z173:=Tryz.sizeOf259
 v173:=Tryz.zeroValue259
 t212:=Tryz.underlying263
 a212:=Tryz.isAgg263
 z212:=Tryz.sizeOf263
 v212:=Tryz.zeroValue263
 t213:=Tryz.underlying264
 a213:=Tryz.isAgg264
 z213:=Tryz.sizeOf264
 t232:=Tryz.underlying267
 a232:=Tryz.isAgg267
 z232:=Tryz.sizeOf267
 v232:=Tryz.zeroValue267
 t233:=Tryz.underlying268
 a233:=Tryz.isAgg268
 z233:=Tryz.sizeOf268
 v233:=Tryz.zeroValue268
 g17:=aJ
 g18:=aJ
 g19:=aJ
 i0:=aJ
 i2:=aJ
 i3:=aJ
 i4:=aJ
 i5:=aJ
 i9:=aJ
 i20:=aJ
 i37:=aJ
 i46:=aJ
 i51:=aJ
 i53:=aJ
 i171:=aJ
 i173:=aJ
 i212:=aJ
 i232:=aJ
 i233:=aJ
 m17:=aJ
 m18:=aJ
 m19:=by kernel_rfl}
def Tryz.ai':HO:=⟨λ|217=>139|266=>202|n=>n,λ|9=>9|5=>5|3=>3|n=>n,λ|n=>n⟩
def Tryz.aQY:Go.Proofs.Lays.n217 Tryz.prog Tryz.ai':={
 mixed:=aJ
 f217:=Tryz.func139.trans (congrArg some aJ)
 f266:=Tryz.func202.trans (congrArg some aJ)
 t3:=Tryz.underlying3
 a3:=Tryz.isAgg3
 z3:=Tryz.sizeOf3
 v3:=Tryz.zeroValue3
 t5:=Tryz.underlying5
 a5:=Tryz.isAgg5
 z5:=Tryz.sizeOf5
 v5:=Tryz.zeroValue5
 t9:=Tryz.underlying9
 a9:=Tryz.isAgg9
 z9:=Tryz.sizeOf9
 v9:=Tryz.zeroValue9}
def Tryz.Eg:HO:=⟨λ|196=>64|259=>120|n=>n,λ|9=>9|4=>4|3=>3|5=>5|12=>12|119=>180|0=>0|46=>184|139=>183|138=>182|53=>226|n=>n,λ|3=>0|4=>1|n=>n⟩
def Tryz.Eh:Go.Proofs.Lays.n196 Tryz.prog Tryz.Eg:={
 mixed:=aJ
 f196:=Tryz.func64.trans (congrArg some aJ)
 f259:=Tryz.func120.trans (congrArg some aJ)
 t0:=Tryz.underlying0
 a0:=Tryz.isAgg0
 z0:=Tryz.sizeOf0
 v0:=Tryz.zeroValue0
 t3:=Tryz.underlying3
 a3:=Tryz.isAgg3
 z3:=Tryz.sizeOf3
 v3:=Tryz.zeroValue3
 t4:=Tryz.underlying4
 a4:=Tryz.isAgg4
 z4:=Tryz.sizeOf4
 v4:=Tryz.zeroValue4
 t5:=Tryz.underlying5
 a5:=Tryz.isAgg5
 z5:=Tryz.sizeOf5
 v5:=Tryz.zeroValue5
 t9:=Tryz.underlying9
 a9:=Tryz.isAgg9
 z9:=Tryz.sizeOf9
 v9:=Tryz.zeroValue9
 t12:=Tryz.underlying12
 a12:=Tryz.isAgg12
 z12:=Tryz.sizeOf12
 v12:=Tryz.zeroValue12
 t46:=Tryz.underlying184
 a46:=Tryz.isAgg184
 z46:=Tryz.sizeOf184
 v46:=Tryz.zeroValue184
 t53:=Tryz.underlying226
 a53:=Tryz.isAgg226
 z53:=Tryz.sizeOf226
 v53:=Tryz.zeroValue226
 t119:=Tryz.underlying180
 a119:=Tryz.isAgg180
 z119:=Tryz.sizeOf180
 t138:=Tryz.underlying182
 a138:=Tryz.isAgg182
 z138:=Tryz.sizeOf182
 v138:=Tryz.zeroValue182
 t139:=Tryz.underlying183
 a139:=Tryz.isAgg183
 z139:=Tryz.sizeOf183
 v139:=Tryz.zeroValue183
 g3:=aJ
 g4:=by kernel_rfl}
def Tryz.aja:HO:=⟨λ|4=>201|n=>n,λ|22=>65|25=>67|3=>3|4=>4|9=>9|20=>20|0=>0|n=>n,λ|n=>n⟩
def Tryz.aQZ:Go.Proofs.Lays8.n4 Tryz.prog Tryz.aja:={
 mixed:=aJ
 f4:=⟨Tryz.f201.name,by decide,Tryz.func201.trans (congrArg some aJ)⟩
 t0:=Tryz.underlying0
 a0:=Tryz.isAgg0
 z0:=Tryz.sizeOf0
 v0:=Tryz.zeroValue0
 t3:=Tryz.underlying3
 a3:=Tryz.isAgg3
 z3:=Tryz.sizeOf3
 v3:=Tryz.zeroValue3
 t4:=Tryz.underlying4
 a4:=Tryz.isAgg4
 z4:=Tryz.sizeOf4
 v4:=Tryz.zeroValue4
 t9:=Tryz.underlying9
 a9:=Tryz.isAgg9
 z9:=Tryz.sizeOf9
 v9:=Tryz.zeroValue9
 t20:=Tryz.underlying20
 a20:=Tryz.isAgg20
 z20:=Tryz.sizeOf20
 v20:=Tryz.zeroValue20
 t22:=Tryz.underlying65
 a22:=Tryz.isAgg65
 z22:=Tryz.sizeOf65
 v22:=Tryz.zeroValue65}
def Tryz.ajb:HO:=⟨λ|4=>222|n=>n,λ|22=>26|25=>65|3=>3|4=>4|9=>9|20=>20|0=>0|n=>n,λ|n=>n⟩
def Tryz.aQ0:Go.Proofs.Lays8.n4 Tryz.prog Tryz.ajb:={
 mixed:=aJ
 f4:=⟨Tryz.f222.name,by decide,Tryz.func222.trans (congrArg some aJ)⟩
 t0:=Tryz.underlying0
 a0:=Tryz.isAgg0
 z0:=Tryz.sizeOf0
 v0:=Tryz.zeroValue0
 t3:=Tryz.underlying3
 a3:=Tryz.isAgg3
 z3:=Tryz.sizeOf3
 v3:=Tryz.zeroValue3
 t4:=Tryz.underlying4
 a4:=Tryz.isAgg4
 z4:=Tryz.sizeOf4
 v4:=Tryz.zeroValue4
 t9:=Tryz.underlying9
 a9:=Tryz.isAgg9
 z9:=Tryz.sizeOf9
 v9:=Tryz.zeroValue9
 t20:=Tryz.underlying20
 a20:=Tryz.isAgg20
 z20:=Tryz.sizeOf20
 v20:=Tryz.zeroValue20
 t22:=Tryz.underlying26
 a22:=Tryz.isAgg26
 z22:=Tryz.sizeOf26
 v22:=Tryz.zeroValue26}
end Go.VI
namespace Go.VI
open Go.Lib
open Go.Proofs
open Go.RowKit
open Go.Shelf
set_option maxRecDepth 100000
set_option maxHeartbeats 40000000
set_option linter.unusedVariables false
set_option linter.unusedSimpArgs false
set_option linter.defProp false
section
variable{E:Env}{aU:Ren}{ad:cb}{ac:b9}{H:aa}{w:World}
def aQ1{g:Nat}{name:String}(aF:E.P.globalNamed name=some g)(aq:b6 E ad ac H w)(aP:E.e_ g=some o0):Lib.TabIs E.P w name .u64 sA:=by
 obtain⟨ai,cs,e,bl,cd,ey⟩:=aq.e_ g _ aP;unfold Lib.TabIs World.var?;rw[aF];simp only[Ps,aq.dT _ _ cd,bj];generalize ah:o0=cells at ai;generalize av:CG (some ⟨g,0,none⟩)=p at ai;cases ai with
 |gl _ _ b off eG elem V_ dB ajc j J=>
  simp at av;obtain⟨rfl,aV⟩:=av;have c8:off=0:=R;subst c8;rw[cd]at ajc;cases ajc;subst ah;apply Array.ext';apply Fh;intro k;by_cases az:k<sA.length
  ·have jO:o0[k]?=some (.v (.int .u64 sA[k])):=by simp[o0,az]
   have ao:=j k _ jO;have aI:=J k _ jO;generalize dB k=q at ao aI;cases aI with
   |v x al=>rw[cq]at ao;simp[az];simpa using ao
  ·have:o0.length=sA.length:=by simp[o0]
   rw[sl (by simp;omega),sl (by simp;omega)]
def below_grow(w:World)(k:Nat)(os:Array Obj):Below w.heap.size w (Go.Sort.grow (w.drewN k) os):=⟨rfl,rfl,rfl,by show w.heap.size≤(w.heap++os).size;simp,λ ab a'=>by show(w.heap++os)[ab]?=_;exact xI a'⟩
def aQ2(L:LaysM.n171 E.P aU){g:Nat}(aF:E.P.globalNamed "internal/strconv.uint64pow10"=some g)(aP:E.e_ g=some o0):sB E (aU.f 171) x_:=by
 intro args H r ap ai ad ac w vs aq b0;unfold x_ at ai;split at ai
 ·rename_i n;split at ai
  ·rename_i ah;cases ai;obtain⟨y,rfl,iJ⟩:=Ml b0;obtain rfl:=fz iJ;refine(Any.strconv_Itoa L n ah.1 ah.2 w (aQ1 aF aq aP)).mono ?_;rintro e ar ⟨rfl,k,os,rfl⟩;obtain⟨aN,aC,bG,bH,cG,rfl,rfl⟩:=HB aq (below_grow w k os);exact⟨_,rfl,_,_,bG,bH,cG,.i _ _ (.str _)⟩
  ·cases ai
 ·cases ai
def aQ3{ad:cb}{v:Value}{z:Nat}(h:ds ad (.ae z [] true) v):∃a,v=.slice a 0 0:=by
 generalize al:aD.ae z [] true=x at h;cases h with
 |nil ay ex a cap he=>cases al;exact⟨a,by rw[he rfl]⟩
 |ae ay rows ex b off cap cs elem bl dB cd ah he=>cases al;exact⟨_,by rw[he rfl];rfl⟩
 |_=>cases al
def ajd(L:Lays8.n4 E.P aU){i0:TypeInfo}{z:Nat}{dZ:Value}(bg:0<z)(aA:E.P.info? (aU.t 25)=some i0)(aV:i0.zero=some dZ)(j:i0.size=z)(J:dZ.cells.size=z)(aw:i0.bytes≤1000):sB E (aU.f 4) (qx z):=by
 intro args H r ap ai ad ac w vs aq b0;unfold qx at ai;split at ai
 ·rename_i db n;split at ai
  ·rename_i ah;cases ai;obtain⟨x,y,rfl,iJ,tS⟩:=Pl b0;obtain rfl:=fz tS;obtain⟨a,rfl⟩:=aQ3 (iI iJ);obtain⟨k,rfl⟩:=jk ah.1;by_cases az:k=0
   ·subst az;refine(Any8.slices_Grow_room L a 0 0 0 w (cQ _) (by decide) (by decide) (by decide)).mono λ e ar ⟨he,hw⟩=>?_
    subst he hw;exact⟨_,rfl,Mm aq (wY _ _) bg a⟩
   ·have ak:(0+k)*i0.bytes≤140737488355328:=sd (Nat.mul_le_mul (show 0+k≤1000000 by omega) aw) (by decide);refine(Any8.slices_Grow_grow L i0 dZ aA aV R a 0 0 k [] w (cQ _) R ak R (by simp) (λ _=>rfl) (λ _ _ ab v h=>by simp at h)).mono λ e ar ⟨he,hw⟩=>?_
    subst he hw;have M3:∀m,(EZ dZ.cells m).size=m*z:=λ m=>by simp[EZ,J]
    generalize grownCap w (0+k) 0 (aU.t 25)=cap;refine⟨_,rfl,S1 aq ((wY _ w).drew.alloc (cQ _) _) (cQ _) (heap_alloc_new w.drew _) (ps _) bg (λ i r h=>by simp at h) (λ i r k a h=>by simp at h) (by simp) (ig _) ?_⟩;simp only[Nu,M3,IG,dx];have:cap*z≤(0+k+(cap-(0+k)))*z:=j5 _ R;rw[hj]at this;simp only[qy];omega
  ·cases ai
 ·cases ai
def S9{g:Nat}{cells:List aD}(aq:b6 E ad ac H w)(aP:E.e_ g=some cells)(ab:Nat){x:Value}(a':cells[ab]?=some (.v x)):w.cell? ⟨g,ab,none⟩=some x:=by
 have h:=(aq.e_ g _ aP).1;generalize av:CG (some ⟨g,0,none⟩)=p at h;cases h with
 |gl _ _ b off cs elem bl dB cd j J=>
  simp at av;obtain⟨rfl,aV⟩:=av;have ao:=j ab _ a';have aI:=J ab _ a';generalize dB ab=q at ao aI;cases aI with
  |v x al=>have c8:off=0:=R;subst c8;rw[cq]at ao;simp[sf,aq.dT _ _ cd,ao]
def aje:∀c:Fin 256,Xh c.val=(firstT c.val:Int):=by decide+kernel
def aQ4{c:Nat}(h:c<256):v_[c]?=some (.v (.int .u8 (firstT c))):=by rw[←aje ⟨c,h⟩];simp[v_,h]
def aQ5:∀c:Fin 16,([128,191,160,191,128,159,144,191,128,143]++cy 22 (0:Int))[2*c.val]?=some (accLo c.val:Int)∧([128,191,160,191,128,159,144,191,128,143]++cy 22 (0:Int))[2*c.val+1]?=some (accHi c.val:Int):=by decide+kernel
def ajf{c:Nat}(h:c<16):v'[2*c]?=some (.v (.int .u8 (accLo c)))∧v'[2*c+1]?=some (.v (.int .u8 (accHi c))):=by have:=aQ5 ⟨c,h⟩;unfold v';rw[fA,fA,this.1,this.2];exact⟨rfl,rfl⟩
def aQ6(L:Lays.n196 E.P aU)(aw:E.e_ (aU.g 3)=some v_)(bb:E.e_ (aU.g 4)=some v'):sB E (aU.f 196) x':=by
 intro args H r ap ai ad ac w vs aq b0;unfold x' at ai;split at ai
 ·rename_i s;split at ai
  ·rename_i ah;cases ai;obtain⟨y,rfl,iJ⟩:=Ml b0;obtain rfl:=qh iJ;refine(Any.utf8_ValidString L ⟨⟨s⟩⟩ w (by simpa[ByteArray.size]using ah) ⟨λ c ah=>S9 aq aw c (aQ4 ah),λ c ah=>⟨S9 aq bb _ (ajf ah).1,S9 aq bb _ (ajf ah).2⟩⟩).mono λ e ar ⟨he,ak⟩=>?_
   subst he;obtain⟨aN,aC,bG,bH,cG,rfl,rfl⟩:=HB aq ak;exact⟨_,rfl,_,_,bG,bH,cG,.i _ _ (.v _ rfl)⟩
  ·cases ai
 ·cases ai
def aQ7(L:Lays.n217 E.P aU):sB E (aU.f 217) v8:=aso λ s c w=>Any.stringslite_IndexByte L s c w
end
def extOK:zJ E:=by
 intro f h aK;rcases axx f h aK with⟨rfl,rfl⟩|⟨rfl,rfl⟩|⟨rfl,rfl⟩|⟨rfl,rfl⟩|⟨rfl,rfl⟩|⟨rfl,rfl⟩|⟨rfl,rfl⟩|⟨rfl,rfl⟩|⟨rfl,rfl⟩|⟨rfl,rfl⟩|J
 ·exact aQH
 ·exact aQx
 ·exact aQ6 (E:=E) (aU:=Tryz.Eg) Tryz.Eh ab3 ab4
 ·exact aQA
 ·exact aQD
 ·exact aQ7 (E:=E) (aU:=Tryz.ai') Tryz.aQY
 ·exact aQV (E:=E) (aU:=Tryz.ai9) Tryz.aQW PM
 ·obtain⟨i0,aA,pr,j8,kw⟩:=info_parts (show(Tryz.prog.info? 67).map (λ i=>(i.zero,i.size,i.bytes))=some (some (.agg #[.string ⟨#[]⟩,.int .i64 0,.int .i64 0,.int .i64 0,.int .i64 0]),5,48)from aJ);exact ajd (E:=E) (aU:=Tryz.aja) Tryz.aQZ (by decide) aA pr j8 aJ R
 ·exact aQ2 (E:=E) (aU:=Tryz.ai_) (g:=4) Tryz.aQX aJ PM
 ·obtain⟨i0,aA,pr,j8,kw⟩:=info_parts (show(Tryz.prog.info? 65).map (λ i=>(i.zero,i.size,i.bytes))=some (some (.slice none 0 0),1,24)from aJ);exact ajd (E:=E) (aU:=Tryz.ajb) Tryz.aQ0 (by decide) aA pr j8 aJ R
 ·exact J.elim
def ajg{W:World}{name:String}{g:Nat}(aF:Tryz.prog.globalNamed name=some g){cs:Array Value}(bi:W.var? Tryz.prog name=some cs){fR:List Value}(ah:cs.toList=fR)(j:∀v∈fR,v.oneCell'=true):tP (nD W) g (fR.map .v):=by
 unfold World.var? at bi;rw[aF]at bi;simp only[Ps]at bi;split at bi
 ·rename_i eG e bl aO;simp only[bj]at bi;subst bi;have an:eG.size=fR.length:=by rw[←ah];simp
  refine⟨.gl _ 0 g 0 eG e bl (λ k=>fR.getD k undef) aO (λ k a az=>?_) (λ k a az=>?_),eG,e,bl,aO,by simp[an]⟩
  ·have fY:k<fR.length:=by have:=(bF.1 az).1;simpa using this
   rw[cq,←mW,ah];simp[G',fY]
  ·have fY:k<fR.length:=by have:=(bF.1 az).1;simpa using this
   rw[fA,eT fY]at az;simp only[d',bj]at az;subst az;simp[G',fY];exact .v _ (j _ (mr fY))
 ·cases bi
def ajh{k:IntKind}{l:List Int}:∀v∈l.map (j4 k),v.oneCell'=true:=by intro v bi;obtain⟨x,_,rfl⟩:=FG.1 bi;rfl
def S_{W:World}{name:String}{g:Nat}{k:IntKind}{l:List Int}(aF:Tryz.prog.globalNamed name=some g){t e:TypeId}{n:Nat}(zO:(Tryz.prog.globals[g]?).map (·.type)=some t)(bq:Tryz.prog.underlying t=some (.array n e))(he:Tryz.prog.underlying e=some (.int k))(EL:Tryz.prog.cellsOf e=1)(O':Tryz.prog.cellsOf t=n)(h:VarReads Tryz.prog W name (tabData k l)):tP (nD W) g (l.map λ x=>.v (.int k x)):=by obtain⟨aY,iR,cs,oY,p,S',Ta,Tb,aM⟩:=h;obtain rfl:=qf (aF.symm.trans S');obtain rfl:=qf (zO.symm.trans Ta);have:=ajg aF Tb (cells_of_tab bq he EL O' aM) ajh;rwa [wa]at this
def aQ8{H:Type}{enc:TypeId×Value→H}{P:Program}{w:World}{base:Nat}{l5:Nat→Bool}{held:Bool}{oY:Nat}{t e:TypeId}{n:Nat}{cs:List Value}{cI:List (DataW H)}{p:List MemPlace}(bq:P.underlying t=some (.array n e))
  (h:su enc P w base l5 held oY t cs=some (.agg cI,p)):cs.length=P.cellsOf t:=by
 cases oY with
 |zero=>simp[su]at h
 |succ oY=>
  simp only[su,bq]at h;split at h
  ·assumption
  ·cases h
def Mo:List Int:=[128,191,160,191,128,159,144,191,128,143]++cy 22 (0:Int)
def aQ9:∀i:Fin 16,((Mo.map (j4 .u8)).drop (i.val*2)).take 2=[.int .u8 (accLo i.val),.int .u8 (accHi i.val)]:=by
 have h:∀i:Fin 16,(Mo.drop (i.val*2)).take 2=[(accLo i.val:Int),(accHi i.val:Int)]:=by decide+kernel
 intro i;rw[←rK,←uN,h i];rfl
def aji{α:Type}:∀(n:Nat) (a b:List α),a.length=n*2→b.length=n*2→(∀i,i<n→(a.drop (i*2)).take 2=(b.drop (i*2)).take 2)→a=b
 |0,[],[],_,_,_=>rfl
 |n+1,[x],_,aB,_,_=>by simp at aB;omega
 |n+1,_::_::_,[u],_,ak,_=>by simp at ak;omega
 |n+1,x::y::a,u::v::b,aB,ak,h=>by
  have aV:=h 0 R;simp at aV;obtain⟨rfl,rfl⟩:=aV;rw[aji n a b (by simp at aB;omega) (by simp at ak;omega) λ i aA=>by
   have:=h (i+1) R;rwa [show(i+1)*2=i*2+1+1 by omega,Tc,Tc,Tc,Tc]at this]
def aQ_{W:World}{g:Nat}(aF:Tryz.prog.globalNamed "unicode/utf8.acceptRanges"=some g)(zO:(Tryz.prog.globals[g]?).map (·.type)=some (Tryz.Eg.t 139))(h:VarReads Tryz.prog W "unicode/utf8.acceptRanges" acceptData):tP (nD W) g v':=by
 obtain⟨aY,iR,cs,oY,p,S',Ta,Tb,aM⟩:=h;obtain rfl:=qf (aF.symm.trans S');obtain rfl:=qf (zO.symm.trans Ta);have hlen:=aQ8 Tryz.Eh.t139 aM;rw[show Tryz.prog.cellsOf (Tryz.Eg.t 139)=16*2 from aJ]at hlen;have fq:Tryz.prog.cellsOf (Tryz.Eg.t 138)=2:=aJ;have eX:cs.toList=Mo.map (j4 .u8):=aji 16 _ _ hlen (by simp[Mo]) λ i aA=>by
  obtain⟨aSs,d,q,ajj,he⟩:=array_elem Tryz.Eh.t139 aM i aA;simp only[fA,JK aA,d',bj]at ajj;subst ajj;rw[fq]at he;have pt:Tryz.prog.cellsOf (Tryz.Eg.t 5)=1:=aJ;have:=ints_of_struct Tryz.Eh.t138 (λ ab f a'=>by
   match ab,a' with
   |0,a'=>simp at a';subst a';exact⟨Tryz.Eh.t5,rfl,pt⟩
   |1,a'=>simp at a';subst a';exact⟨Tryz.Eh.t5,rfl,pt⟩
   |ab+2,a'=>simp at a') (by rw[fq];rfl) he
  rw[this,aQ9 ⟨i,aA⟩];rfl
 have:=ajg aF Tb eX ajh;rwa [wa]at this
def globs4{W:World}{a b:String×DataW Unit}(h:laidMet Tryz.prog [a,b,("internal/strconv.uint64pow10",tabData .u64 pow10Tab),("narrator/attr.codes",tabData .i64 [1,2,3,4,5,7,8,9]),("unicode/utf8.acceptRanges",acceptData),("unicode/utf8.first",firstData)] W):∀g cells,E.e_ g=some cells→tP (nD W) g cells:=by
 obtain⟨bm,an,_⟩:=h;have ai:=LaidVars_reads an;intro g cells aP;rcases axv g cells aP with⟨rfl,rfl⟩|⟨rfl,rfl⟩|⟨rfl,rfl⟩|⟨rfl,rfl⟩|h9
 ·have:=S_ (g:=0) (t:=180) (e:=5) (n:=256) aJ aJ Tryz.underlying180 Tryz.underlying5 aJ aJ (ai _ _ (by simp):VarReads Tryz.prog W "unicode/utf8.first" firstData);rw[show v_=firstTab.map λ x=>aD.v (.int .u8 x)from by
   unfold v_ firstTab;rw[wa];exact zM λ c ah=>by rw[aje ⟨c,zU.1 ah⟩];rfl]
  exact this
 ·exact aQ_ aJ aJ (ai _ _ (by simp))
 ·exact S_ (g:=2) (t:=239) (e:=3) (n:=8) (l:=[1,2,3,4,5,7,8,9]) aJ aJ Tryz.underlying239 Tryz.underlying3 aJ aJ (ai "narrator/attr.codes" _ (by simp))
 ·exact S_ (g:=4) (t:=263) (e:=226) (n:=20) (l:=pow10Tab) aJ aJ Tryz.underlying263 Tryz.underlying226 aJ aJ (ai "internal/strconv.uint64pow10" _ (by simp))
 ·exact h9.elim
end Go.VI
namespace Go.VI
open Go.Proofs
open Go.RowKit
open Go.Shelf
set_option maxRecDepth 100000
set_option maxHeartbeats 40000000
set_option linter.unusedVariables false
set_option linter.unusedSimpArgs false
set_option linter.defProp false
def mkOK:zK E:=by
 intro g fn h v w bi;rcases axt g fn h with⟨rfl,rfl⟩|⟨rfl,rfl⟩|h
 ·go_enter Tryz.func153,Tryz.ntmps153
  go_wp2
  go_ret
  exact⟨rfl,_,rfl⟩
 ·go_enter Tryz.func156,Tryz.ntmps156
  go_wp2
  go_ret
  exact⟨rfl,_,rfl⟩
 ·exact h.elim
end Go.VI
