import Derived.Test.YtflnccklneafnaaGreatDoorZTNQ5
import Derived.Shelf.Spec.SlicesGrow
import Derived.Deep.LoopGhost
import Derived.Lib.Walk
import Derived.Lib.SliceRun
import Derived.MakeChecks
import Derived.Handy
import Derived.RangeFuncNested
import Derived.RangeFuncBound
import Derived.RangeFuncCalls
import Derived.Shelf.Abstract
import Derived.Shelf.RegionOpen
import Derived.WalkKit
import Derived.OwnWalkIn
import Derived.TacticsInMore
import Derived.LoopIn
import Derived.Sort.CutIn
import Derived.Shelf.Strconv.AppendUint10
import Derived.Shelf.LaysM
import Derived.Shelf.Unicode.ValidAny
import Derived.Shelf.Strconv.Itoa3
import Derived.Shelf.Strings.Search1
import Derived.Lib.LaidU8
open Array renaming getElem?_toList→nM,getD_eq_getD_getElem?→dM,getElem?_eq_some_iff→kg,replicate→AR,getElem?_append_left→yD,size_append→Pj,size_replicate→UW
open Bool renaming false_eq_true→gk,and_eq_true→c',or_eq_true→yq,not_eq_true'→rh,or_false→yW,false_or→D3,true_and→ks,false_and→mb,and_false→zk,not_false→sD,not_eq_true→Iq,true→ah,false→J
open Eq renaming trans→gB
open Go.Builtin renaming zeroCells→GJ
open Go.Code renaming loop→uU
open Go.DataW renaming trod→tk
open Go.Fence renaming wide→A6
open Go.Instr renaming sliceAt→wF
open Go.Lib renaming pow10Tab→tv,decDigits→ow,decDigits_length→S2,run_eql_slice_nil→CJ,cell?_alloc_some→UK,nDigits→xV,zeros24→CS,byteCells→N9
open Go.Result renaming andThen_ok→eM
open Go.RowKit renaming Below→Hw,intOf→N7
open Go.RowKit.Below renaming heap_alloc→Bj,refl→tK
open Go.Sem renaming run_bind→ep,run_pure→e8,run→ud
open Go.Shelf renaming Ren→Jv
open Go.TypeDesc renaming slice→UI
open Go.Value renaming int→kE,pointer→Eg,ownBlock→UL
open Go.World renaming cell?→q9,ownsRow_made→UJ,cell?_alloc_new→Js
open Int renaming toNat_natCast→ny,natCast_zero→gO,eq_ofNat_of_zero_le→jC,le_refl→Ir,lt_irrefl→SY,tmod_eq_emod_of_nonneg→aiD,reduceEq→IF
open List renaming replicate→cH,range→hB,length_eq_zero_iff→pq,map_cons→fC,mem_cons→mx,getElem?_map→fQ,getElem?_eq_some_iff→bQ,getElem?_append_left→eO,getElem?_append_right→hK,getElem?_eq_getElem→eC,length_append→dK,foldl_cons→vd,getElem_mem→oi,length_cons→da,append_assoc→eo,getElem?_set_ne→dW,append_nil→dC,set_append_right→AG,nil_append→hb,length_map→mE,mem_of_getElem?→jP,length_nil→dS,take→eP,size_toArray→Dq,mem_cons_of_mem→vk,length_take→hV,length_replicate→mG,length_drop→j6,mem_append→gA,getElem?_concat_length→Pb,getElem?_eq_none→sd,length_pos_iff→Pt,ext_getElem?→DF,mem_filter→PL,map_congr_left→yO,length→DX,mem_map→D0,map_nil→fN,take_zero→nU,mem_range→Bd,getD_eq_getElem?_getD→pN,drop_zero→i6,drop_eq_getElem_cons→jk,drop_length→mN,getElem?_range→D_,take_append_drop→Lo,getElem?_of_mem→QV,all_cons→Ea,flatMap_nil→tp,map_map→vC,flatMap_cons→zi,cons_append→vF,set_cons_zero→HW,take_of_length_le→xq,drop→e_,any_cons→MG,any_eq_false→MH,map_append→pW,map_set→tC,map_take→vU,map_drop→tD,take_succ_eq_append_getElem→Iz,mem_cons_self→Fq,getD→IW,take_length→Ny,getElem?_take_of_lt→Ub,mem_singleton→Co,takeWhile_cons_of_pos→akg,drop_succ_cons→U3
open List.cons renaming injEq→Dr
open Nat renaming lt_of_lt_of_le→wx,le_refl→cS,le_trans→s6,add_zero→fr,mul_le_mul_right→kF,add_mul→hT,zero_add→cJ,div_lt_iff_lt_mul→JP,mod_lt→Df,mul_comm→wD,div_add_mod→AA,add_assoc→vb,sub_self→r7,min_eq_left→Pp,not_le→fH,add_comm→rl,zero_le→iC,not_lt_zero→ti,sub_zero→tw,mod_eq_of_lt→EW,reduceAdd→dl
open Ne renaming symm→bi
open Option renaming map_eq_some_iff→dp,getD_some→jQ,map_some→eH,bind_some→Rb,isSome_some→Rg,some→j,none→o
open Option.some renaming inj→q6,injEq→br
open Prod.mk renaming injEq→bM
open UInt8 renaming ofNat→iR
namespace Go.VI
open Go.Proofs
open Go.Proofs.Tryz
set_option maxRecDepth 100000
set_option maxHeartbeats 40000000
set_option linter.unusedVariables false
set_option linter.unusedSimpArgs false
set_option linter.defProp false
def aQx(t:bm)(bA:t.length≤10000)(H:ab):cF 56 [.i (.str t)] H (.bl [.i (.str (if Jg t=ah then ec (wa (t.drop 2))else[])),↑(Jg t)]):=cI (by
 have ar:=λ H=>aj6 t [48,59] H
 have aM:=λ H=>aj6 t [50,59] H
 simp only[db,cJ,dl]at ar aM;have aP:(t.drop 2).length≤t.length:=by rw[j6];omega
 have bZ:=λ H=>aQq (t.drop 2) aa H
 have h_:=aj4 (t.drop 2);have dx:=λ H=>aQu (wa (t.drop 2)) aa (aQr _) H
 unfold Jg;have U:∀a b:UInt8,(t.take 2==[a,b])=ah→2≤t.length:=λ a b h=>by have:=congrArg DX (beq_iff_eq.1 h);rw[hV]at this;simp at this;omega
 cases cm:t.take 2==[48,59]with
 |true=>have:=U _ _ cm;rw[cm]at ar;refine bE Mb ?_;simp(disch:=first|omega|(simp only[cR];omega))only[aw,simprocAttr,R8,cY,ar,aM,bZ,dx,Bool.true_or];exact be
 |false=>
  rw[cm]at ar;cases cp:t.take 2==[50,59]with
  |true=>have:=U _ _ cp;rw[cp]at aM;refine bE Mb ?_;simp(disch:=first|omega|(simp only[cR];omega))only[aw,simprocAttr,R8,cY,ar,aM,bZ,dx,Bool.or_true];exact be
  |false=>
   rw[cp]at aM;refine bE Mb ?_;simp(disch:=first|omega|(simp only[cR];omega))only[aw,simprocAttr,R8,cY,ar,aM,bZ,dx,Bool.or_self,gk];exact be)
def aQy(r c v:Int)(i:bm)(bn:bX)(t:bm):
  gV 88 [v_ ⟨2,r,c,v,i,bn,t⟩] (↑(Ja ⟨2,r,c,v,i,bn,t⟩)):=by
 rw[z8];unfold Ja;simp only[];by_cases p:32≤c
 ·simp only[p,gy];(refine bE fW ?_;simp(disch:=omega)only[aw,simprocAttr,gg,cY,bN,fe,cA,dD,p,p];exact be)
 by_cases U:c=24
 ·simp only[U,gy];(refine bE fW ?_;simp(disch:=omega)only[aw,simprocAttr,gg,cY,bN,fe,cA,dD,p,U];exact be)
 by_cases az:c=26
 ·simp only[az,gy];(refine bE fW ?_;simp(disch:=omega)only[aw,simprocAttr,gg,cY,bN,fe,cA,dD,p,U,az];exact be)
 by_cases bh:c=27
 ·simp only[bh,gy];(refine bE fW ?_;simp(disch:=omega)only[aw,simprocAttr,gg,cY,bN,fe,cA,dD,p,U,az,bh];exact be)
 simp only[p,U,az,bh,decide_false,yW,sD,ks];by_cases qr:r=0;rotate_left
 ·simp only[qr,gy];(refine bE fW ?_;simp(disch:=omega)only[aw,simprocAttr,gg,cY,bN,fe,cA,dD,p,U,az,bh,qr];exact be)
 subst qr;by_cases qV:v=0;rotate_left
 ·simp only[qV,gy];(refine bE fW ?_;simp(disch:=omega)only[aw,simprocAttr,gg,cY,bN,fe,cA,dD,p,U,az,bh,qV];exact be)
 subst qV;cases i with
 |cons i0 i=>simp only[da,gy];(refine bE fW ?_;simp(disch:=omega)only[aw,simprocAttr,gg,cY,bN,fe,cA,dD,p,U,az,bh,da];exact be)
 |nil=>
  cases t with
  |cons t0 t=>simp only[da,gy];(refine bE fW ?_;simp(disch:=omega)only[aw,simprocAttr,gg,cY,bN,fe,cA,dD,p,U,az,bh,da];exact be)
  |nil=>
   cases bn with
   |cons k7 bn=>simp only[da,gy];(refine bE fW ?_;simp(disch:=omega)only[aw,simprocAttr,gg,cY,bN,fe,cA,dD,p,U,az,bh,cc,da];exact be)
   |nil=>simp only[dS,gy];(refine bE fW ?_;simp(disch:=omega)only[aw,simprocAttr,gg,cY,bN,fe,cA,dD,p,U,az,bh,cc,dS];exact be)
def aQz(r c v:Int)(i:bm)(bn:bX)(t:bm):
  gV 88 [v_ ⟨3,r,c,v,i,bn,t⟩] (↑(FO ⟨3,r,c,v,i,bn,t⟩)):=by
 rw[z8];unfold FO;simp only[];by_cases p:3≤i.length
 ·have gw:3≤(i.length:Int):=aa;simp only[p,gy];(refine bE fW ?_;simp(disch:=omega)only[aw,simprocAttr,gg,cY,bN,fe,cA,dD,gw,p];exact be)
 have gw:¬3≤(i.length:Int):=aa;cases U:i.any (lf 32 47)with
 |true=>simp only[U,gy];(refine bE fW ?_;simp(disch:=omega)only[aw,simprocAttr,gg,cY,bN,fe,cA,dD,p,gw,U];exact be)
 |false=>
 simp only[p,decide_false,sD,ks];by_cases az:c<48
 ·simp only[az,gy];(refine bE fW ?_;simp(disch:=omega)only[aw,simprocAttr,gg,cY,bN,fe,cA,dD,gw,U,az];exact be)
 by_cases bh:126<c
 ·simp only[bh,gy];(refine bE fW ?_;simp(disch:=omega)only[aw,simprocAttr,gg,cY,bN,fe,cA,dD,gw,U,az,bh];exact be)
 simp only[az,bh,decide_false,yW,sD,ks];have key:(i=[]∧c=91)∨(i=[]∧c=93)∨(i=[]∧¬c=91∧¬c=93)∨(¬i=[]∧i.isEmpty=J):=by
  cases i with
  |cons i0 i=>exact .inr (.inr (.inr ⟨aX,rfl⟩))
  |nil=>
    by_cases q:c=91
    ·exact .inl ⟨rfl,q⟩
    ·by_cases Dw:c=93
     ·exact .inr (.inl ⟨rfl,Dw⟩)
     ·exact .inr (.inr (.inl ⟨rfl,q,Dw⟩))
 rcases key with⟨rfl,rfl⟩|⟨rfl,rfl⟩|⟨rfl,bF,dN⟩|⟨bF,dN⟩
 ·simp only[U,gy];(refine bE fW ?_;simp(disch:=omega)only[aw,simprocAttr,gg,cY,bN,fe,cA,dD,U,dS,List.any_nil,U];exact be)
 ·simp only[U,gy];(refine bE fW ?_;simp(disch:=omega)only[aw,simprocAttr,gg,cY,bN,fe,cA,dD,U,dS,List.any_nil,U];exact be)
 ·simp only[bF,dN,decide_false,yW,zk,sD,ks,List.isEmpty_nil];by_cases qr:r=0;rotate_left
  ·simp only[qr,gy];(refine bE fW ?_;simp(disch:=omega)only[aw,simprocAttr,gg,cY,bN,fe,cA,dD,U,az,bh,bF,dN,qr];exact be)
  subst qr;by_cases qV:v=0;rotate_left
  ·simp only[qV,gy];(refine bE fW ?_;simp(disch:=omega)only[aw,simprocAttr,gg,cY,bN,fe,cA,dD,U,az,bh,bF,dN,qV];exact be)
  subst qV;cases t with
  |cons t0 t=>simp only[da,gy];(refine bE fW ?_;simp(disch:=omega)only[aw,simprocAttr,gg,cY,bN,fe,cA,dD,U,az,bh,bF,dN,da];exact be)
  |nil=>
   cases bn with
   |cons k7 bn=>simp only[da,gy];(refine bE fW ?_;simp(disch:=omega)only[aw,simprocAttr,gg,cY,bN,fe,cA,dD,U,az,bh,bF,dN,cc,da];exact be)
   |nil=>simp only[dS,gy];(refine bE fW ?_;simp(disch:=omega)only[aw,simprocAttr,gg,cY,bN,fe,cA,dD,U,az,bh,bF,dN,cc,dS];exact be)
 ·simp only[decide_false,mb,sD,ks,dN];by_cases qr:r=0;rotate_left
  ·simp only[qr,gy];(refine bE fW ?_;simp(disch:=omega)only[aw,simprocAttr,gg,cY,bN,fe,cA,dD,gw,U,az,bh,bF,qr];exact be)
  subst qr;by_cases qV:v=0;rotate_left
  ·simp only[qV,gy];(refine bE fW ?_;simp(disch:=omega)only[aw,simprocAttr,gg,cY,bN,fe,cA,dD,gw,U,az,bh,bF,qV];exact be)
  subst qV;cases t with
  |cons t0 t=>simp only[da,gy];(refine bE fW ?_;simp(disch:=omega)only[aw,simprocAttr,gg,cY,bN,fe,cA,dD,gw,U,az,bh,bF,da];exact be)
  |nil=>
   cases bn with
   |cons k7 bn=>simp only[da,gy];(refine bE fW ?_;simp(disch:=omega)only[aw,simprocAttr,gg,cY,bN,fe,cA,dD,gw,U,az,bh,bF,cc,da];exact be)
   |nil=>simp only[dS,gy];(refine bE fW ?_;simp(disch:=omega)only[aw,simprocAttr,gg,cY,bN,fe,cA,dD,gw,U,az,bh,bF,cc,dS];exact be)
def aQA(r c v:Int)(i:bm)(bn:bX)(t:bm)(hE:∀H,cF 130 [.i (.v (.int .u8 v)),.i (.af 1 (cc bn) J),.i (.str i)] H (qL (p2 v bn i))):
  gV 88 [v_ ⟨4,r,c,v,i,bn,t⟩] (↑(FP ⟨4,r,c,v,i,bn,t⟩)):=by
 rw[z8];unfold FP;simp only[];unfold qL at hE;generalize p2 v bn i=q at*;by_cases p:q.2=0;rotate_left
 ·simp only[p,gy];(refine bE fW ?_;simp(disch:=omega)only[aw,simprocAttr,gg,cY,bN,fe,cA,dD,hE,p];exact be)
 simp only[p,decide_true,ks];by_cases U:c<64
 ·simp only[U,gy];(refine bE fW ?_;simp(disch:=omega)only[aw,simprocAttr,gg,cY,bN,fe,cA,dD,hE,p,U];exact be)
 by_cases az:126<c
 ·simp only[az,gy];(refine bE fW ?_;simp(disch:=omega)only[aw,simprocAttr,gg,cY,bN,fe,cA,dD,hE,p,U,az];exact be)
 simp only[U,az,decide_false,yW,sD,ks];by_cases qr:r=0;rotate_left
 ·simp only[qr,gy];(refine bE fW ?_;simp(disch:=omega)only[aw,simprocAttr,gg,cY,bN,fe,cA,dD,hE,p,U,az,qr];exact be)
 subst qr;cases t with
 |cons t0 t=>simp only[da,gy];(refine bE fW ?_;simp(disch:=omega)only[aw,simprocAttr,gg,cY,bN,fe,cA,dD,hE,p,U,az,da];exact be)
 |nil=>simp only[dS,gy];(refine bE fW ?_;simp(disch:=omega)only[aw,simprocAttr,gg,cY,bN,fe,cA,dD,hE,p,U,az,dS];exact be)
def aQB(r c v:Int)(i:bm)(bn:bX)(t:bm):
  gV 88 [v_ ⟨5,r,c,v,i,bn,t⟩] (↑(Jb ⟨5,r,c,v,i,bn,t⟩)):=by
 rw[z8];unfold Jb;simp only[];by_cases p:256<t.length
 ·have gw:256<(t.length:Int):=aa;simp only[p,gy];(refine bE fW ?_;simp(disch:=omega)only[aw,simprocAttr,gg,cY,bN,fe,cA,dD,gw,p];exact be)
 have gw:¬256<(t.length:Int):=aa;cases U:t.any (lf 32 255)with
 |true=>simp only[U,gy];(refine bE fW ?_;simp(disch:=omega)only[aw,simprocAttr,gg,cY,bN,fe,cA,dD,p,gw,U];exact be)
 |false=>
 simp only[p,decide_false,sD,ks];by_cases qr:r=0;rotate_left
 ·simp only[qr,gy];(refine bE fW ?_;simp(disch:=omega)only[aw,simprocAttr,gg,cY,bN,fe,cA,dD,gw,U,qr];exact be)
 subst qr;by_cases Uk:c=0;rotate_left
 ·simp only[Uk,gy];(refine bE fW ?_;simp(disch:=omega)only[aw,simprocAttr,gg,cY,bN,fe,cA,dD,gw,U,Uk];exact be)
 subst Uk;by_cases qV:v=0;rotate_left
 ·simp only[qV,gy];(refine bE fW ?_;simp(disch:=omega)only[aw,simprocAttr,gg,cY,bN,fe,cA,dD,gw,U,qV];exact be)
 subst qV;cases i with
 |cons i0 i=>simp only[da,gy];(refine bE fW ?_;simp(disch:=omega)only[aw,simprocAttr,gg,cY,bN,fe,cA,dD,gw,U,da];exact be)
 |nil=>
  cases bn with
  |cons k7 bn=>simp only[da,gy];(refine bE fW ?_;simp(disch:=omega)only[aw,simprocAttr,gg,cY,bN,fe,cA,dD,gw,U,cc,da];exact be)
  |nil=>simp only[dS,gy];(refine bE fW ?_;simp(disch:=omega)only[aw,simprocAttr,gg,cY,bN,fe,cA,dD,gw,U,cc,dS];exact be)
def FSq(e:ih):Prop:=(-2147483648≤e.r∧e.r≤2147483647)∧(0≤e.c∧e.c<256)∧(0≤e.v∧e.v<256)
def NN(e:ih):Prop:=∀H,dy E (b' E) 130 [.i (.v (.int .u8 e.v)),.i (.af 1 (cc e.bn) J),.i (.str e.i)] H=j (qL (p2 e.v e.bn e.i),H)
def uV(e:ih):Int:=if e.k<1∨5<e.k then 9 else if qU e=ah then 0 else 1
def aQC(e:ih)(he:FSq e)(aA:1≤e.k∧e.k≤5)(hE:e.k=4→NN e):gV 88 [v_ e] (↑(qU e)):=by
 obtain⟨k,r,c,v,i,bn,t⟩:=e;have:k=1∨k=2∨k=3∨k=4∨k=5:=by simp only at aA;omega
 rcases this with rfl|rfl|rfl|rfl|rfl
 ·exact aP8 r he.1 c v i bn t
 ·exact aQy r c v i bn t
 ·exact aQz r c v i bn t
 ·exact aQA r c v i bn t (hE rfl)
 ·exact aQB r c v i bn t
def aQD(e:ih)(he:FSq e)(aA:1≤e.k∧e.k≤5)(hE:e.k=4→NN e)(H:ab):cF 88 [.agg [e.k,.i (.v (.int .i32 e.r)),.i (.v (.int .u8 e.c)),.i (.v (.int .u8 e.v)),.i (.str e.i),.i (.af 1 (cc e.bn) J),.i (.str e.t)]] H (↑(qU e)):=hF rfl rfl rfl (aQC e he aA hE)
def aQE(e:ih)(he:FSq e)(hE:e.k=4→NN e):gV 50 [v_ e] (↑(uV e)):=by
 rw[z8];unfold uV;by_cases p:e.k<1
 ·rw[if_pos (.inl p)];refine bE H3 ?_;simp(disch:=omega)only[aw,simprocAttr,Ma,p];exact be
 by_cases U:5<e.k
 ·rw[if_pos (.inr U)];refine bE H3 ?_;simp(disch:=omega)only[aw,simprocAttr,Ma,p,U];exact be
 rw[if_neg aa];have gh:=λ H=>aQD e he aa hE H
 cases ak:qU e with
 |true=>rw[if_pos rfl];rw[ak]at gh;refine bE H3 ?_;simp(disch:=omega)only[aw,simprocAttr,Ma,p,U,gh];exact be
 |false=>rw[if_neg aX];rw[ak]at gh;refine bE H3 ?_;simp(disch:=omega)only[aw,simprocAttr,Ma,p,U,gh];exact be
def aQF(e:ih)(he:FSq e)(hE:e.k=4→NN e)(H:ab):cF 50 [.agg [e.k,.i (.v (.int .i32 e.r)),.i (.v (.int .u8 e.c)),.i (.v (.int .u8 e.v)),.i (.str e.i),.i (.af 1 (cc e.bn) J),.i (.str e.t)]] H (↑(uV e)):=hF rfl rfl rfl (aQE e he hE)
def aQG{e:ih}(h:uV e=0):e.k=1∨e.k=2∨e.k=3∨e.k=4∨e.k=5:=by
 unfold uV at h;split at h
 ·cases h
 ·omega
def aj7{I:Int}{l:bX}{s:bm}(h:(p2 I l s).2=0):(I=0∨ru I=ah)∧vQ s=ah∧l≠[-1]∧l.any nF=J∧kQ l s=ah∧(p2 I l s).1=(if I=0 then[]else[iR I.toNat])++fmtG ah l++s:=by
 unfold p2 at h⊢;split at h
 ·cases h
 next p=>
  split at h
  ·cases h
  next U=>
   split at h
   ·cases h
   next az=>
    rw[if_neg p,if_neg U,if_neg az];refine⟨?_,?_,λ q=>p (.inr (.inr q)),by simpa using U,by simpa using az,rfl⟩
    ·by_cases q:I=0
     ·exact .inl q
     ·exact .inr (by
       cases bo:ru I with
       |true=>rfl
       |false=>exact absurd (.inl ⟨q,bo⟩) p)
    ·cases bA:vQ s with
     |true=>rfl
     |false=>exact absurd (.inr (.inl bA)) p
def aQH{I:Int}{l:bX}{s:bm}(h:(p2 I l s).2=0):l.length≤16∧s.length≤2∧(p2 I l s).1.length≤400:=by
 obtain⟨_,_,_,_,bF,dN⟩:=aj7 h;have aR:=IV l ah (zW bF);simp only[kQ,c',decide_eq_true_eq]at bF;refine⟨bF.1.1,bF.1.2,?_⟩;rw[dN];simp only[dK];have:(if I=0 then([]:bm)else[iR I.toNat]).length≤1:=by split<;>simp
 omega
def Ul{e:ih}(h:uV e=0):e.i.length≤2∧e.t.length≤256∧e.bn.length≤16∧(e.k=4→(p2 e.v e.bn e.i).1.length≤400):=by
 unfold uV at h;split at h
 ·cases h
 rename_i aA;split at h
 next ak=>
  unfold qU at ak;have z:∀{α:Type} {l:List α},l.isEmpty=ah→l.length=0:=λ{α l} h=>by cases l with|nil=>rfl|cons=>cases h
  repeat' split at ak
  ·simp only[Cs,c']at ak;have:=z ak.2.1.1.2;have:=z ak.2.1.2;have:=z ak.2.2
   refine⟨aa,aa,aa,λ h=>aa⟩
  ·simp only[Ja,c']at ak;have:=z ak.2.1.1.2;have:=z ak.2.1.2;have:=z ak.2.2
   refine⟨aa,aa,aa,λ h=>aa⟩
  ·simp only[FO,c',rh,decide_eq_false_iff_not]at ak;have:=z ak.2.1.2;have:=z ak.2.2
   refine⟨aa,aa,aa,λ h=>aa⟩
  ·simp only[FP,c',decide_eq_true_eq]at ak;have:=z ak.2.2;have:=aQH ak.1.1;refine⟨aa,aa,aa,λ h=>aa⟩
  ·simp only[Jb,c',rh,decide_eq_false_iff_not]at ak;have:=z ak.2.1.2;have:=z ak.2.2
   refine⟨aa,aa,aa,λ h=>aa⟩
  ·cases ak
 ·cases h
def Um:∀(l:bm) (b:UInt8) (i:Nat) (d:jl),hd (l++[b]) i d=fX (hd l i d) ((i+l.length:Nat)) b.toNat
 |[],b,i,d=>by simp[hd]
 |c::l,b,i,d=>by have:=Um l b (i+1) (fX d i c.toNat);simp only[vF,hd,this,da];rw[show i+1+l.length=i+(l.length+1)by omega]
def aQI:∀n:Nat,n<256→¬(eR n).et=0→128≤n:=by decide+kernel
def Cv(t:bm)(i:Nat)(d:jl):Prop:=d.s.et=0∨(0≤d.bO∧d.bO≤i∧0<d.s.et∧hd ((t.take i).drop d.bO.toNat) 0 ⟨lN,[],0⟩=⟨d.s,[],0⟩)
def aQJ{t:bm}{i:Nat}(aB:i<t.length){d:jl}(a8:0≤d.s.et)(h:Cv t i d):0≤(fX d i t[i].toNat).s.et∧Cv t (i+1) (fX d i t[i].toNat):=by
 have an:=ahK t[i].toNat t[i].toNat_lt;have pB:=aQI t[i].toNat t[i].toNat_lt;have qJ:t.take (i+1)=t.take i++[t[i]]:=by rw[Iz aB]
 by_cases aj:0<d.s.et∧d.s.b5≤t[i].toNat∧(t[i].toNat:Int)≤d.s.aB
 ·have hI:fX d i t[i].toNat=⟨⟨d.s.v*64+(t[i].toNat:Int)%64,d.s.et-1,128,191⟩,if d.s.et-1=0 then d.out++[d.s.v*64+(t[i].toNat:Int)%64]else d.out,d.bO⟩:=by rw[fX,if_pos aj]
  rw[hI];refine⟨by simp only;omega,?_⟩;unfold Cv at*;simp only;by_cases hm:d.s.et-1=0
  ·exact .inl hm
  ·right;rcases h with h|⟨g1,g2,g3,g4⟩
   ·omega
   ·refine⟨g1,aa,aa,?_⟩;rw[qJ,List.drop_append_of_le_length (by simp;omega),Um,g4,fX,if_pos aj,if_neg hm]
 ·have hI:(fX d i t[i].toNat).s=eR t[i].toNat∧(fX d i t[i].toNat).bO=i:=by rw[fX,if_neg aj];exact⟨rfl,rfl⟩
  unfold Cv;rw[hI.1,hI.2];refine⟨an.1,?_⟩;by_cases hm:(eR t[i].toNat).et=0
  ·exact .inl hm
  ·right;refine⟨aa,aa,aa,?_⟩;have aVT:=pB hm;rw[qJ,ny,List.drop_append_of_le_length (by simp;omega),List.drop_of_length_le (by simp;omega),hb];have z:(⟨lN,[],0⟩:jl).s.et=0:=rfl;have b9:¬(t[i].toNat:Int)<128:=aa;simp only[hd,fX,z,SY,false_and,if_false,b9,hm];rfl
theorem aj8:∀(t:bm) (i:Nat) (d:jl),i≤t.length→0≤d.s.et→Cv t i d→0≤(hd (t.drop i) i d).s.et∧Cv t t.length (hd (t.drop i) i d):=by
 intro t i d aB a8 h;by_cases bg:i<t.length
 ·rw[jk bg,hd];obtain⟨yL,bK⟩:=aQJ bg a8 h;exact aj8 t (i+1) _ bg yL bK
 ·obtain rfl:i=t.length:=aa;rw[mN,hd];exact⟨a8,h⟩
termination_by t i=>t.length-i
def aQK(t:bm):ig (kS t)=[]∧kS (kS t)=kS t:=by
 obtain⟨a8,h⟩:=aj8 t 0 ⟨lN,[],0⟩ (iC _) (Ir _) (.inl rfl);rw[i6]at a8 h;change 0≤(kR t).s.et at a8;change Cv t t.length (kR t)at h;have ak:kS t=if(kR t).s.et=0 then[]else t.drop (kR t).bO.toNat:=rfl
 rcases h with h|⟨g1,g2,g3,g4⟩
 ·rw[if_pos h]at ak;rw[ak];exact⟨rfl,rfl⟩
 ·rw[if_neg aa]at ak;rw[Ny]at g4;have aP:kR (kS t)=⟨(kR t).s,[],0⟩:=by rw[ak];exact g4
  refine⟨by unfold ig;rw[aP],?_⟩;have iW:kS (kS t)=if(kR (kS t)).s.et=0 then[]else(kS t).drop (kR (kS t)).bO.toNat:=rfl
  rw[iW,aP];simp only;rw[if_neg aa];simp
def aQL(cd:bm):gP ⟨0,kS cd,[]⟩=ah:=by obtain⟨p,U⟩:=aQK cd;simp[gP,p,U]
def rI(k:Int)(h:0≤k∧k≤3):gP ⟨k,[],[]⟩=ah:=by have:k=0∨k=1∨k=2∨k=3:=aa;rcases this with rfl|rfl|rfl|rfl<;>simp[gP,ig,kS,kR,hd,lN]
def aQM{I:dz}(h:gP I=ah)(a8:I.bO=0):I.ca=[]:=by unfold gP at h;rw[if_pos a8]at h;simp only[c',beq_iff_eq]at h;exact h.1.1
def aj9{I:dz}(a8:I.bO=0)(an:I.ca=[])(b:UInt8):gP (j_ I b).1=ah:=by
 unfold j_;rw[a8,an]
 repeat' split
 ·exact aQL _
 ·exact rI 1 aa
 ·exact rI 0 aa
 ·exact rI 0 aa
def aj_{I:dz}(ax:gP I=ah)(a8:I.bO≠0){b:UInt8}{q:dz×gm}(bu:lO I b=j q):gP q.1=ah:=by
 unfold lO at bu
 repeat' split at bu
 all_goals first|cases bu|skip
 all_goals first|exact ax|exact rI 1 aa|exact rI 0 aa|exact aj9 rfl rfl b
def NO{I:dz}{b:UInt8}(h:lO I b=o):32≤(b.toNat:Int)∧(b.toNat:Int)<127:=by
 unfold lO at h
 repeat' split at h
 all_goals first|(cases h;done)|omega
def aQN{P:UInt8→Bool}{l:bm}{b:UInt8}(h:l.any P=J)(an:P b=J):(l++[b]).any P=J:=by simp[List.any_append,h,an]
def aQO{b5 aB:Int}{b:UInt8}(p:b5≤b.toNat)(U:(b.toNat:Int)≤aB):lf b5 aB b=J:=by simp[lf];omega
def p5(ca:bm)(m:Nat)(aB:Int):Bool:=decide (ca.length≤m) &&!ca.any (lf 32 aB)
def Un{ca:bm}{m:Nat}{aB:Int}(h:p5 ca m aB=ah){b:UInt8}(p:32≤(b.toNat:Int))(U:(b.toNat:Int)≤aB):p5 (if(ca.length:Int)<m then ca++[b]else ca) m aB=ah:=by
 split
 next ao=>unfold p5 at*;simp only[c',decide_eq_true_eq,rh]at*;refine⟨by simp;omega,aQN h.2 (aQO p U)⟩
 ·exact h
def Uo{cd ca:bm}:gP ⟨1,cd,ca⟩=((cd==[]) &&p5 ca 3 47):=by unfold gP p5;cases cd<;>simp
def aj'{cd ca:bm}:gP ⟨2,cd,ca⟩=((cd==[]) &&p5 ca 257 63):=by unfold gP p5;cases cd<;>simp
def NP{cd ca:bm}:gP ⟨3,cd,ca⟩=((cd==[]) &&p5 ca 256 255):=by unfold gP p5;cases cd<;>simp
def aka{cd ca:bm}:gP ⟨4,cd,ca⟩=((cd==[]) &&p5 ca 256 255):=by unfold gP p5;cases cd<;>simp
def akb{I:dz}(h:gP I=ah):I.bO=0∨I.bO=1∨I.bO=2∨I.bO=3∨I.bO=4:=by
 unfold gP at h;split at h
 ·exact .inl (by assumption)
 ·split at h
  ·repeat' split at h
   all_goals first|(cases h;done)|omega
  ·cases h
def akc{I:dz}(ax:gP I=ah)(aU:I.bO=1)(b:UInt8):gP (kU I b).1=ah:=by
 unfold kU;cases bu:lO I b with
 |some q=>exact aj_ ax aa bu
 |none=>
  have an:=NO bu;simp only;split
  next akd=>obtain⟨bO,cd,ca⟩:=I;dsimp only at aU;subst aU;rw[Uo]at ax;simp only[c']at ax;simp only[uG];rw[Uo];simp only[c'];exact⟨ax.1,Un ax.2 an.1 akd⟩
  ·split
   ·exact rI 2 aa
   ·split
    ·exact rI 3 aa
    ·exact rI 0 aa
def ake{I:dz}(ax:gP I=ah)(b:UInt8):gP (hz I b).1=ah:=by
 have hI:=akb ax;unfold hz;split
 ·exact aj9 (by assumption) (aQM ax (by assumption)) b
 next a8=>
  split
  ·split
   ·exact rI 0 aa
   ·exact akc (rI 1 aa) rfl b
  next bh=>
   split
   ·exact akc ax (by assumption) b
   next p=>
    split
    next U=>
     unfold lP;cases bu:lO I b with
     |some q=>exact aj_ ax a8 bu
     |none=>
      have an:=NO bu;simp only;split
      next aQP=>obtain⟨bO,cd,ca⟩:=I;dsimp only at U;subst U;rw[aj']at ax;simp only[c']at ax;simp only[uG];rw[aj'];simp only[c'];exact⟨ax.1,Un ax.2 an.1 aQP⟩
      ·exact rI 0 aa
    next U=>
     have az:I.bO=3:=aa;obtain⟨bO,cd,ca⟩:=I;dsimp only at az;subst az;unfold lQ;split
     ·exact rI 0 aa
     ·split
      ·rw[aka];rw[NP]at ax;exact ax
      ·split
       ·exact rI 0 aa
       ·split
        next E1=>rw[NP]at ax;simp only[c']at ax;simp only[uG];rw[NP];simp only[c'];have:=b.toNat_lt;exact⟨ax.1,Un ax.2 E1 aa⟩
        ·exact ax
def Up:∀(s:bm) {I:dz},gP I=ah→gP (iE s I).1=ah
 |[],I,h=>h
 |b::r,I,h=>Up r (ake h b)
def aQQ(I:dz):gP (vR I)=ah:=by
 unfold vR;split
 ·assumption
 ·exact rI 0 aa
def Jh{I:dz}(h:gP I=ah):vR I=I:=by unfold vR;rw[if_pos h]
def aQR(I:dz)(s:bm):vR (h1 I s).1=(h1 I s).1:=Jh (Up s (aQQ I))
def akf:∀(a b:bm) (I:dz),iE (a++b) I=((iE b (iE a I).1).1,(iE a I).2++(iE b (iE a I).1).2)
 |[],b,I=>by simp[iE]
 |x::a,b,I=>by have a':=akf a b (hz I x).1;simp only[vF,iE,a',eo]
def aQS(I:dz)(a b:bm):h1 I (a++b)=((h1 (h1 I a).1 b).1,(h1 I a).2++(h1 (h1 I a).1 b).2):=by have h:=aQR I a;simp only[h1]at h⊢;rw[h,akf]
def iP(b:UInt8):Bool:=decide (48≤b.toNat) &&decide (b.toNat≤57)||b.toNat==59
def aQT(l:bX)(n:Int)(b:UInt8):iP b=(o9 l n b.toNat).isSome:=by
 have h:=b.toNat_lt;unfold o9 iP;by_cases p:b.toNat=59
 ·simp[p]
 ·rw[if_neg aa];by_cases U:b.toNat<48
  ·rw[if_pos aa];simp[p];omega
  ·rw[if_neg aa];by_cases az:57<b.toNat
   ·rw[if_pos aa];simp[p];omega
   ·rw[if_neg aa];simp;omega
def Uq:∀(t:bm) (l:bX) (n:Int),hy t l n=((hy (t.takeWhile iP) l n).1,(hy (t.takeWhile iP) l n).2.1,t.dropWhile iP)∧(hy (t.takeWhile iP) l n).2.2=[]
 |[],l,n=>by simp[hy]
 |b::r,l,n=>by
  have ax:=aQT l n b;cases h:o9 l n b.toNat with
  |none=>rw[h]at ax;simp only[Option.isSome_none]at ax;simp[hy,h,ax]
  |some I=>rw[h]at ax;simp only[Rg]at ax;have a':=Uq r I.1 I.2;simp only[hy,h,ax,akg,List.dropWhile_cons_of_pos];exact a'
def akh(P:UInt8→Bool):∀t:bm,t.take (t.takeWhile P).length=t.takeWhile P∧t.drop (t.takeWhile P).length=t.dropWhile P
 |[]=>aX
 |b::r=>by
  have a':=akh P r;by_cases h:P b=ah
  ·simp[akg h,List.dropWhile_cons_of_pos h,a']
  ·simp[List.takeWhile_cons_of_neg h,List.dropWhile_cons_of_neg h]
def aki(P:UInt8→Bool):∀t:bm,(t.takeWhile P).all P=ah
 |[]=>rfl
 |b::r=>by
  by_cases h:P b=ah
  ·rw[akg h,Ea,h,aki P r];rfl
  ·rw[List.takeWhile_cons_of_neg h];rfl
def aQU{t:bm}{l:bX}{n:Int}(h:hy (t.takeWhile iP) [] (-1)=(l,n,[])):
  zz t=(if t.takeWhile iP=[]then[]else l++[n],t.dropWhile iP):=by
 obtain⟨p,_⟩:=Uq t [] (-1);rw[h]at p;obtain⟨U,az⟩:=akh iP t;have ao:t.length=(t.takeWhile iP).length+(t.dropWhile iP).length:=by rw[←dK,List.takeWhile_append_dropWhile]
 unfold zz;rw[p];simp only;by_cases ax:t.takeWhile iP=[]
 ·rw[if_pos ax,if_neg (by rw[ao,ax];simp)];rw[ax]at h;simp only[hy,bM]at h;rw[←h.1]
 ·rw[if_neg ax,if_pos (by rw[ao];have:=Pt.2 ax;omega)]
def NQ(n:Int)(d:bm):Prop:=(n≤9999→(kv n).length≤d.length∧((kv n).length=d.length→kv n=d))∧(n=-1∧d=[]∨0≤n∧d≠[])
def akj:NQ (-1) []:=⟨λ _=>⟨by simp[kv],λ _=>rfl⟩,.inl ⟨rfl,rfl⟩⟩
def aQV{n:Int}{d:bm}(h:NQ n d){b:UInt8}(an:48≤b.toNat∧b.toNat≤57):NQ (min (10*max n 0+((b.toNat:Int)-48)) 10000) (d++[b]):=by
 obtain⟨p,U⟩:=h;refine⟨λ ha=>?_,.inr ⟨aa,aX⟩⟩;generalize hm:min (10*max n 0+((b.toNat:Int)-48)) 10000=m at*;have e:m=10*max n 0+((b.toNat:Int)-48):=aa;have sp:0≤m:=aa;have aQW:n≤9999:=aa;obtain⟨g1,g2⟩:=p aQW;rw[kv,if_pos sp];by_cases ta:m.toNat<10
 ·rw[ow,dif_pos ta];refine⟨aX,λ ao=>?_⟩;have aP:d=[]:=by simp only[dK,db]at ao;exact pq.1 aa
  subst aP;have aI:n=-1:=by
   rcases U with h|h
   ·exact h.1
   ·exact absurd rfl h.2
  have:48+m.toNat=b.toNat:=aa;rw[this];simp
 ·rw[ow,dif_neg ta];have hL:0≤n:=aa;have ar:m.toNat/10=n.toNat:=aa;have aM:48+m.toNat%10=b.toNat:=aa;have bZ:ow (m.toNat/10)=kv n:=by rw[ar,kv,if_pos hL]
  rw[aM,bZ];refine⟨by simp only[dK,db];omega,λ ao=>?_⟩;rw[g2 (by simp only[dK,db]at ao;omega)];simp
def aQX(pt:bX)(q:bX)(v:bm):Prop:=∃x xs,q=pt++x::xs∧(∀y∈x::xs,-1≤y)∧(x::xs=[-1]→v=[])∧
 ((∀y∈x::xs,y≤9999)→(fmtG ah (x::xs)).length≤v.length∧((fmtG ah (x::xs)).length=v.length→fmtG ah (x::xs)=v))
def Ur:∀(w:bm),w.all iP=ah→∀(pt:bX) (n:Int) (d:bm),NQ n d→aQX pt ((hy w pt n).1++[(hy w pt n).2.1]) (d++w)
 |[],_,pt,n,d,h=>by
  refine⟨n,[],by simp[hy],?_,?_,?_⟩
  ·intro y bb;simp only[Co]at bb;subst bb;rcases h.2 with h|h<;>omega
  ·intro e;simp only[Dr,and_true]at e;rcases h.2 with h|h
   ·simp[h.2]
   ·omega
  ·intro ha;have:=h.1 (ha n aX);simpa[fmtG]using this
 |b::r,aF,pt,n,d,h=>by
  simp only[Ea,c']at aF;obtain⟨an,aF⟩:=aF;by_cases akk:(b.toNat:Int)=59
  ·have hI:o9 pt n b.toNat=j (pt++[n],-1):=by rw[o9,if_pos akk]
   obtain⟨x,xs,ar,aM,bZ,dx⟩:=Ur r aF (pt++[n]) (-1) [] akj;simp only[hy,hI];refine⟨n,x::xs,by rw[ar];simp,?_,λ e=>by simp at e,?_⟩
   ·intro y bb;rcases mx.1 bb with rfl|bb
    ·rcases h.2 with h|h<;>omega
    ·exact aM y bb
   ·intro ha;obtain⟨f1,f2⟩:=dx λ y bb=>ha y (vk _ bb)
    obtain⟨g1,g2⟩:=h.1 (ha n (Fq ..));have aQY:b=59:=UInt8.toNat_inj.1 (by have:(59:UInt8).toNat=59:=rfl;omega);have Cw:fmtG ah (n::x::xs)=kv n++59::fmtG ah (x::xs):=by simp[fmtG]
    rw[Cw,aQY];simp only[hb]at f1 f2;refine⟨by simp only[dK,da];omega,λ ao=>?_⟩;simp only[dK,da]at ao;rw[g2 aa,f2 aa]
  ·have ak:48≤b.toNat∧b.toNat≤57:=by simp only[iP,yq,c',decide_eq_true_eq,beq_iff_eq]at an;omega
   have hI:o9 pt n b.toNat=j (pt,min (10*max n 0+(b.toNat-48)) 10000):=by rw[o9,if_neg akk,if_neg aa,if_neg aa]
   have a':=Ur r aF pt _ (d++[b]) (aQV h ak);simp only[hy,hI];rwa [eo]at a'
def aQZ{l:bX}{s:bm}(h:kQ l s=ah):∀n∈l,n≤9999:=by intro n aI;simp only[kQ,c',rh]at h;have:=MH.1 h.2 n aI;simpa[pV]using this
def aQ0{s:bm}:∃(pre:bm),s=pre++(nD s).2∧pre=(if(nD s).1=0 then[]else[iR (nD s).1.toNat])∧(0≤(nD s).1∧(nD s).1<256)∧((nD s).1=0∨ru (nD s).1=ah):=by
 cases s with
 |nil=>exact⟨[],rfl,rfl,by simp[nD],.inl rfl⟩
 |cons b r=>
  have an:=b.toNat_lt;by_cases h:ru b.toNat=ah
  ·have a8:(b.toNat:Int)≠0:=by intro e;rw[e]at h;revert h;decide
   refine⟨[b],?_,?_,?_,?_⟩<;>simp only[nD,h,if_true]
   ·rfl
   ·rw[if_neg a8];simp
   ·omega
   ·exact .inr trivial
  ·refine⟨[],?_,?_,?_,?_⟩<;>simp only[nD,h]
   ·rfl
   ·rfl
   ·simp
   ·exact .inl rfl
def aQ1{s:bm}{I:Int}{l:bX}{i:bm}(h:xv s=(I,l,i,0)):(0≤I∧I<256)∧∃t,p2 I l i=(t,0)∧t.length≤s.length∧(t.length=s.length→t=s):=by
 obtain⟨pre,ar,aM,qH,ax⟩:=aQ0 (s:=s);unfold xv at h;split at h
 ·simp at h
 rename_i cm;split at h
 ·simp at h
 rename_i cp;simp only[bM,and_true]at h;obtain⟨rfl,rfl,rfl⟩:=h;simp only[Bool.not_eq_false]at cm cp;refine⟨qH,?_⟩;generalize nD s=mk at*;obtain⟨I,t⟩:=mk;dsimp only at*;obtain⟨hD,a2⟩:=Uq t [] (-1);have aQ2:=aQU (t:=t) (l:=(hy (t.takeWhile iP) [] (-1)).1) (n:=(hy (t.takeWhile iP) [] (-1)).2.1) (by rw[←a2])
 have akl:t.takeWhile iP++t.dropWhile iP=t:=List.takeWhile_append_dropWhile;have aQ3:=Ur (t.takeWhile iP) (aki iP t) [] (-1) [] akj;rw[aQ2]at cm cp⊢;dsimp only at*;generalize t.takeWhile iP=w at*;generalize t.dropWhile iP=q at*;have key:∀fP:bX,fP≠[-1]→(∀y∈fP,-1≤y)→kQ fP q=ah→((fmtG ah fP).length≤w.length∧((fmtG ah fP).length=w.length→fmtG ah fP=w))→
   ∃rm,p2 I fP q=(rm,0)∧rm.length≤s.length∧(rm.length=s.length→rm=s):=by
  intro fP bK bJ cL e4;refine⟨pre++fmtG ah fP++q,?_,?_,?_⟩
  ·unfold p2;rw[if_neg,if_neg,if_neg,←aM]
   ·simp[cL]
   ·rw[Iq];exact MH.2 λ y bb=>by have:=bJ y bb;simp[nF];omega
   ·rintro(⟨p,U⟩|p|p)
    ·rcases ax with h|h
     ·exact p h
     ·rw[U]at h;cases h
    ·rw[cm]at p;cases p
    ·exact bK p
  ·rw[ar,←akl];simp only[dK];omega
  ·intro ao;rw[ar,←akl]at ao⊢;simp only[dK]at ao;rw[e4.2 aa,eo]
 by_cases hw:w=[]
 ·rw[if_pos hw]at cp⊢;exact key [] aX aX cp (by subst hw;simp[fmtG])
 ·rw[if_neg hw]at cp⊢;obtain⟨x,xs,f1,f2,f3,f4⟩:=aQ3;rw[hb]at f1 f3 f4;rw[f1]at cp⊢;exact key _ (λ e=>hw (f3 e)) f2 cp (f4 (aQZ cp))
def FT(s:o7):Prop:=s.et=0∨(128≤s.b5∧s.aB≤191∧(s.et=1∧2≤s.v∧s.v≤17407∧¬(864≤s.v∧s.v≤895)∨
 s.et=2∧0≤s.v∧s.v≤271∧(s.v=0→160≤s.b5)∧(s.v=13→s.aB≤159)∨s.et=3∧0≤s.v∧s.v≤4∧(s.v=0→144≤s.b5)∧(s.v=4→s.aB≤143)))
def aQ4:∀n:Nat,n<256→((eR n).et=0∨(128≤(eR n).b5∧(eR n).aB≤191∧((eR n).et=1∧2≤(eR n).v∧(eR n).v≤17407∧¬(864≤(eR n).v∧(eR n).v≤895)∨
 (eR n).et=2∧0≤(eR n).v∧(eR n).v≤271∧((eR n).v=0→160≤(eR n).b5)∧((eR n).v=13→(eR n).aB≤159)∨(eR n).et=3∧0≤(eR n).v∧(eR n).v≤4∧((eR n).v=0→144≤(eR n).b5)∧((eR n).v=4→(eR n).aB≤143)))):=by decide+kernel
def aQ5{b:Int}(a8:0≤b)(p:b≤255):FT (eR b):=by obtain⟨n,rfl⟩:=jC a8;exact aQ4 n aa
def akm{r:Int}(a8:0≤r)(p:r≤1114111)(U:¬(55296≤r∧r≤57343)):hp r=ah:=by simp[hp,a8,p];omega
def akn{d:jl}(h:FT d.s)(i:Int){b:Int}(a8:0≤b)(p:b≤255):FT (fX d i b).s∧∃l,(fX d i b).out=d.out++l∧∀c∈l,hp c=ah∧(c<128→c=b):=by
 unfold fX;split
 next aj=>
  obtain⟨cm,cp,c3⟩:=aj;unfold FT at h⊢;refine⟨by simp only;omega,?_⟩;simp only;split
  ·refine⟨[d.s.v*64+b%64],rfl,?_⟩;intro c aj;rw[Co]at aj;subst aj;exact⟨akm aa aa aa,aa⟩
  ·exact⟨[],aX,λ c aj=>by cases aj⟩
 ·refine⟨aQ5 a8 p,?_⟩;simp only;have ako:hp 65533=ah:=bU;have key:∃l,(if 0<d.s.et then d.out++[65533]else d.out)=d.out++l∧∀c∈l,hp c=ah∧(c<128→c=b):=by
   split
   ·exact⟨[65533],rfl,λ c aj=>by rw[Co]at aj;subst aj;exact⟨ako,aa⟩⟩
   ·exact⟨[],aX,λ c aj=>by cases aj⟩
  obtain⟨l,ao,iz⟩:=key;rw[ao];split
  ·refine⟨l++[b],aX,?_⟩;intro c aj;rw[gA,Co]at aj;rcases aj with aj|rfl
   ·exact iz c aj
   ·exact⟨akm a8 aa aa,λ _=>rfl⟩
  ·split
   ·refine⟨l++[65533],aX,?_⟩;intro c aj;rw[gA,Co]at aj;rcases aj with aj|rfl
    ·exact iz c aj
    ·exact⟨ako,aa⟩
   ·exact⟨l,rfl,iz⟩
def akp:∀(l:bm) (i:Nat) (d:jl),FT d.s→FT (hd l i d).s
 |[],_,_,h=>h
 |b::l,i,d,h=>by have:=b.toNat_lt;exact akp l (i+1) _ (akn h i aa aa).1
def aQ6{cd:bm}(h:ig cd=[])(b:UInt8):∀c∈ig (cd++[b]),hp c=ah∧(c<128→c=b.toNat):=by
 have an:=b.toNat_lt;have aP:kR (cd++[b])=fX (kR cd) ((0+cd.length:Nat)) b.toNat:=Um cd b 0 _;obtain⟨_,l,ao,iz⟩:=akn (akp cd 0 ⟨lN,[],0⟩ (.inl rfl)) ((0+cd.length:Nat)) (b:=b.toNat) aa aa;have ci:ig (cd++[b])=l:=by unfold ig;rw[aP];refine ao.trans ?_;have:(hd cd 0 ⟨lN,[],0⟩).out=[]:=h;rw[this,hb]
 rw[ci];exact iz
def uW(e:ih):Prop:=FSq e∧uV e=0
def pg(l:gm):Prop:=∀e∈l,uW e
def sS:pg []:=λ e h=>by cases h
def Cx{e:ih}(h:uW e):pg [e]:=λ x ap=>by rw[Co.1 ap];exact h
def akq{a b:gm}(h:pg a)(k:pg b):pg (a++b):=λ e he=>by
 rcases gA.1 he with p|p
 ·exact h e p
 ·exact k e p
def Ji{e:ih}(h:FSq e)(aA:1≤e.k∧e.k≤5)(ak:qU e=ah):uW e:=⟨h,by unfold uV;rw[if_neg aa,if_pos ak]⟩
def akr{c:Int}(aR:hp c=ah)(p:32≤c)(U:c<127∨159<c):uW (n0 c):=by
 have an:0≤c∧c≤1114111:=by simp[hp]at aR;omega
 refine Ji ⟨⟨by simp only[n0];omega,by simp only[n0];omega⟩,by simp[n0],by simp[n0]⟩ (by simp[n0]) ?_;have ar:¬c<32:=aa;rcases U with U|U
 ·have aM:¬127≤c:=aa;simp only[qU,n0,Cs,if_true,aR,ar,aM,decide_false,decide_true,mb];rfl
 ·have aM:¬c≤159:=aa;simp only[qU,n0,Cs,if_true,aR,ar,aM,decide_false,decide_true,zk];rfl
def aks{b:UInt8}(p:(b.toNat:Int)<32)(U:¬(b.toNat:Int)=24)(az:¬(b.toNat:Int)=26)(bh:¬(b.toNat:Int)=27):uW (zA b):=by refine Ji ⟨by simp[zA],by simp only[zA];omega,by simp[zA]⟩ (by simp[zA]) ?_;have ar:¬32≤(b.toNat:Int):=aa;simp only[qU,zA,Ja,IF,if_false,if_true,ar,U,az,bh,decide_false,decide_true];rfl
def Us(cd:bm):pg (o_ cd):=by
 unfold o_;split
 ·exact sS
 ·exact Cx (akr bU aa aa)
def akt{I:dz}(h:ig I.cd=[])(b:UInt8):pg (j_ I b).2:=by
 unfold j_;split
 next aj=>
  intro e he;unfold jW at he;obtain⟨c,fF,rfl⟩:=D0.1 he;obtain⟨p,U⟩:=PL.1 fF;obtain⟨az,bh⟩:=aQ6 h b c p;simp only[xy,yq,decide_eq_true_eq]at U;have bF:0≤c:=by simp[hp]at az;omega
  exact akr az aa aa
 ·split
  ·exact Us _
  ·split
   ·exact Us _
   ·exact akq (Us _) (Cx (aks aa aa aa aa))
def aku{I:dz}{b:UInt8}{q:dz×gm}(bu:lO I b=j q):pg q.2:=by
 unfold lO at bu
 repeat' split at bu
 all_goals first|cases bu|skip
 ·exact sS
 ·exact sS
 ·exact Cx (aks aa aa aa aa)
 ·exact sS
 ·exact akt rfl b
def akv{ca:bm}{m:Nat}{aB:Int}(h:p5 ca m aB=ah):ca.length≤m∧ca.any (lf 32 aB)=J:=by simpa[p5]using h
def akw{I:dz}(ax:p5 I.ca 3 47=ah)(b:UInt8):pg (kU I b).2:=by
 unfold kU;cases bu:lO I b with
 |some q=>exact aku bu
 |none=>
  have an:=NO bu;have akx:=akv ax;simp only;split
  ·exact sS
  next akd=>
   split
   ·exact sS
   next aky=>
    split
    ·exact sS
    next akz=>
     simp only;split
     next ao=>
      refine Cx (Ji ⟨by simp[BT],by simp only[BT];omega,by simp[BT]⟩ (by simp[BT]) ?_);have ar:¬3≤I.ca.length:=aa;have aM:¬(b.toNat:Int)<48:=aa;have bZ:¬126<(b.toNat:Int):=aa;cases fG:I.ca with
      |nil=>
       rw[fG]at aky akz;have g1:¬(b.toNat:Int)=91:=λ h=>aky ⟨rfl,h⟩
       have g2:¬(b.toNat:Int)=93:=λ h=>akz ⟨rfl,h⟩
       simp only[qU,BT,FO,IF,if_true,if_false,aM,bZ,g1,g2,decide_false,decide_true];rfl
      |cons x r=>rw[fG]at ar akx;simp only[qU,BT,FO,IF,if_true,if_false,akx.2,ar,aM,bZ,decide_false,decide_true];rfl
     ·exact sS
def aQ7{I:dz}(b:UInt8):pg (lP I b).2:=by
 unfold lP;cases bu:lO I b with
 |some q=>exact aku bu
 |none=>
  have an:=NO bu;simp only;split
  ·exact sS
  ·simp only;split
   ·exact sS
   ·split
    next a8=>obtain⟨pv,l,i,e,ap⟩:∃pv l i e,xv I.ca=(pv,l,i,e):=⟨_,_,_,_,rfl⟩;rw[ap]at a8⊢;simp only at a8;subst a8;obtain⟨ak,t,bA,_⟩:=aQ1 ap;refine Cx (Ji ⟨by simp[BU],by simp only[BU];omega,by simp only[BU];omega⟩ (by simp[BU]) ?_);have aM:¬(b.toNat:Int)<64:=aa;have bZ:¬126<(b.toNat:Int):=aa;simp only[qU,BU,FP,IF,if_true,if_false,bA,aM,bZ,decide_false,decide_true];rfl
    ·exact sS
def akA{ca:bm}(h:p5 ca 256 255=ah):uW (zB ca):=by obtain⟨p,U⟩:=akv h;refine Ji ⟨by simp[zB],by simp[zB],by simp[zB]⟩ (by simp[zB]) ?_;have ar:¬256<ca.length:=aa;simp only[qU,zB,Jb,IF,if_true,if_false,U,ar,decide_false,decide_true];rfl
def aQ8{I:dz}(ax:p5 I.ca 256 255=ah)(b:UInt8):pg (lQ I b).2:=by
 unfold lQ;split
 ·exact Cx (akA ax)
 ·repeat' split
  all_goals exact sS
def aQ9{I:dz}(ax:gP I=ah)(b:UInt8):pg (hz I b).2:=by
 have hI:=akb ax;unfold hz;split
 next a8=>unfold gP at ax;rw[if_pos a8]at ax;simp only[c',beq_iff_eq,decide_eq_true_eq]at ax;exact akt (pq.1 ax.1.2) b
 ·obtain⟨bO,cd,ca⟩:=I;dsimp only at hI⊢;rename_i a8;split
  ·subst bO;rw[aka,c']at ax;split
   ·exact Cx (akA ax.2)
   ·exact akw bU b
  ·split
   ·subst bO;rw[Uo,c']at ax;exact akw ax.2 b
   ·split
    ·exact aQ7 b
    ·obtain rfl:bO=3:=by simp only at a8;omega
     rw[NP,c']at ax;exact aQ8 ax.2 b
def akB:∀(s:bm) {I:dz},gP I=ah→pg (iE s I).2
 |[],I,h=>sS
 |b::r,I,h=>akq (aQ9 h b) (akB r (ake h b))
def aQ_(e:ih)(h:uW e)(H:ab):cF 50 [.agg [e.k,.i (.v (.int .i32 e.r)),.i (.v (.int .u8 (e.c))),.i (.v (.int .u8 (e.v))),.i (.str e.i),.i (.af 1 (cc e.bn) J),.i (.str e.t)]] H (↑(0:Int)):=by obtain⟨p,_,az,_⟩:=Ul h.2;have:=aQF e h.1 (λ _ H=>aNW e.v h.1.2.2 e.bn e.i aa aa H) H;rw[h.2]at this;exact this
def aQ':∀n,n<32→hp (Fz.getD n 0)=ah:=bU
def akC{m:li}{r:Int}(h:hp r=ah):hp (mapM m r)=ah:=by
 unfold mapM;split
 ·exact h
 ·exact aQ' _ aa
def aRa{r:Int}(h:hp r=ah):-2147483648≤r∧r≤2147483647:=by have:=E3.1 h;omega
def gX(m:M)(e:ih):M:=
 if e.k=1 then qP m (mapM m.md e.r)
 else if e.k=2 then FF m e.c
 else if e.k=3 then FL m e.i e.c
 else if e.k=4 then FR m e.i e.v e.bn e.c
 else if Jg e.t=ah then{m with eX:=wa (e.t.drop 2)}else m
def akD{e:ih}(h:uW e)(aA:e.k=1):hp e.r=ah:=by
 have:=h.2;unfold uV at this;rw[if_neg aa]at this;split at this
 next ak=>unfold qU Cs at ak;rw[if_pos aA]at ak;simp only[c']at ak;exact ak.1.1.1
 ·cases this
def akE{e:ih}(h:uW e)(aA:e.k=4):∀x∈e.bn,x≤99999:=by
 have:=h.2;unfold uV at this;rw[if_neg aa]at this;split at this
 next ak=>unfold qU FP at ak;rw[if_neg aa,if_neg aa,if_neg aa,if_pos aA]at ak;simp only[c',decide_eq_true_eq]at ak;intro x ap;have:=zW (aj7 ak.1.1).2.2.2.2.1 x ap;omega
 ·cases this
def bt.aRb{m:M}(h:bt m){t:bX}(bA:t.length≤100000):bt {m with eX:=t}:=
 {w:=h.w,h:=h.h,G:=h.G,O:=h.O,aJ:=h.aJ,b3:=h.b3,a:=h.a,aH:=h.aH,dm:=h.dm,c9:=h.c9,back:=h.back,bO:=h.bO,iF:=h.iF,eX:=bA,dL:=h.dL}
def bt.gX{m:M}(h:bt m){e:ih}(he:uW e):bt (gX m e):=by
 unfold Go.VI.gX;split
 next aA=>exact h.I1 (akC (akD he aA))
 ·split
  ·exact h.T2 _
  ·split
   ·exact h.T_ _ _
   ·split
    next aA=>exact h.seq (akE he aA)
    ·split
     ·refine h.aRb ?_;have p:=aj4 (e.t.drop 2);have U:=(Ul he.2).2.1;rw[j6]at p;omega
     ·exact h
def aRc{m:M}(hm:bt m)(e:ih)(he:uW e):h4 21 [v_ e] m (.bl []) (gX m e):=by
 intro ag aH ai aL;have aA:=aQG he.2;have aj:=λ H=>aQ_ e he H
 obtain⟨dt,fh,rH,_⟩:=Ul he.2;unfold gX;rw[z8];have eb:=iO.eb (m:=m) (ag:=ag) (ai:=ai) (aH:=aH) (aL:=aL) (T:=[.box [.i (.v (.int .i64 (e.k))),.i (.v (.int .i32 e.r)),.i (.v (.int .u8 (e.c))),.i (.v (.int .u8 (e.v))),.i (.str e.i),.i (.af 1 (cc e.bn) J),.i (.str e.t)]]);rcases aA with aA|aA|aA|aA|aA
 ·have aR:=akC (m:=m.md) (akD he aA);have jS:=λ H=>aOy m.md e.r he.1.1 H
  obtain⟨aq,ar,c_⟩:=mW (f:=51) rfl rfl rfl (aOR hm (mapM m.md e.r) (aRa aR) aR) eb;rw[if_pos aA];rw[aA]at aj ar;rw[aA];generalize mapM m.md e.r=r at*;rw[bz BC];simp(disch:=omega)only[aw,simprocAttr,En,b1,b7,bV,aj,jS,ar];exact⟨_,rfl,c_.jF⟩
 ·obtain⟨aq,ar,c_⟩:=mW (f:=53) rfl rfl rfl (aOU hm e.c) eb;rw[if_neg aa,if_pos aA];rw[aA]at aj ar;rw[aA];rw[bz BC];simp(disch:=omega)only[aw,simprocAttr,En,b1,b7,bV,aj,ar];exact⟨_,rfl,c_.jF⟩
 ·obtain⟨aq,ar,c_⟩:=mW (f:=54) rfl rfl rfl (aO7 hm e.i e.c) eb;rw[if_neg aa,if_neg aa,if_pos aA];rw[aA]at aj ar;rw[aA];rw[bz BC];simp(disch:=omega)only[aw,simprocAttr,En,b1,b7,bV,aj,ar];exact⟨_,rfl,c_.jF⟩
 ·obtain⟨aq,ar,c_⟩:=mW (f:=55) rfl rfl rfl (aQi hm e.r e.c e.v e.i e.bn e.t aa (akE he aA)) eb;rw[if_neg aa,if_neg aa,if_neg aa,if_pos aA];rw[aA]at aj ar;rw[aA];rw[bz BC];simp(disch:=omega)only[aw,simprocAttr,En,b1,b7,bV,aj,ar];exact⟨_,rfl,c_.jF⟩
 ·have dO:=λ H=>aQx e.t aa H
  rw[if_neg aa,if_neg aa,if_neg aa,if_neg aa];rw[aA]at aj;rw[aA];cases bA:Jg e.t with
  |true=>rw[bA]at dO;simp only[if_true]at dO⊢;rw[bz BC];simp(disch:=omega)only[aw,simprocAttr,En,b1,b7,bV,aj,dO];exact⟨_,rfl,eD.eb⟩
  |false=>rw[bA]at dO;simp only[gk,if_false]at dO⊢;rw[bz BC];simp(disch:=omega)only[aw,simprocAttr,En,b1,b7,bV,aj,dO];exact⟨_,rfl,eD.eb⟩
def mk(m:M)(g0 g1 X c8 cM Y T K:ay):aZ:=[g0,g1,X,c8,cM,Y,.i (.v (.int .i64 m.aJ.r)),.i (.v (.int .i64 m.aJ.c)),.i (.v (.bool m.aJ.I)),.i (.v (.int .i64 m.b3.aJ.r)),.i (.v (.int .i64 m.b3.aJ.c)),.i (.v (.bool m.b3.aJ.I)),.i (.v (.int .i64 m.b3.a.cX)),.i (.v (.int .i64 m.b3.a.bd)),.i (.v (.int .i64 m.b3.a.co)),.i (.v (.bool m.b3.dq)),.i (.v (.int .u8 m.b3.dJ)),.i (.v (.int .u8 m.b3.s1)),.i (.v (.int .i64 m.b3.ef)),.i (.v (.int .i64 m.a.cX)),.i (.v (.int .i64 m.a.bd)),.i (.v (.int .i64 m.a.co)),.i (.v (.bool m.md.ins)),.i (.v (.bool m.md.jd)),.i (.v (.bool m.md.lj)),.i (.v (.bool m.md.dq)),.i (.v (.bool m.md.wr)),.i (.v (.bool m.md.jo)),.i (.v (.bool m.md.gq)),.i (.v (.bool m.md.lk)),.i (.v (.int .u8 m.md.dJ)),.i (.v (.int .u8 m.md.s1)),.i (.v (.int .i64 m.md.ef)),.i (.v (.int .i64 m.cW)),.i (.v (.int .i64 m.ck)),T,K,.i (.v (.int .i64 m.bn.bO)),.i (.str m.bn.cd),.i (.str m.bn.ca),.i (.str (ec m.eX)),.i (.str m.dL)]
section
variable(m:M)(g0 g1 X c8 cM Y T K:ay)
def aRd:(mk m g0 g1 X c8 cM Y T K).length=42:=rfl
def mk_one:(mk m g0 g1 X c8 cM Y T K).all one=(one g0 &&(one g1 &&(one X &&(one c8 &&(one cM &&(one Y &&(one T &&one K))))))):=by simp[mk,one]
def aRe(B:Nat)(H:ab):ff B H (mk m g0 g1 X c8 cM Y T K)=mk m (eL B H g0) (eL B H g1) (eL B H X) (eL B H c8) (eL B H cM) (eL B H Y) (eL B H T) (eL B H K):=by simp[mk,ff,eL]
def aRf:(mk m g0 g1 X c8 cM Y T K)[0]?=j (g0):=rfl
def aRg:(mk m g0 g1 X c8 cM Y T K)[1]?=j (g1):=rfl
def aRh:(mk m g0 g1 X c8 cM Y T K)[2]?=j (X):=rfl
def aRi:(mk m g0 g1 X c8 cM Y T K)[3]?=j (c8):=rfl
def aRj:(mk m g0 g1 X c8 cM Y T K)[4]?=j (cM):=rfl
def aRk:(mk m g0 g1 X c8 cM Y T K)[5]?=j (Y):=rfl
def aRl:(mk m g0 g1 X c8 cM Y T K)[6]?=j (.i (.v (.int .i64 m.aJ.r))):=rfl
def aRm:(mk m g0 g1 X c8 cM Y T K)[7]?=j (.i (.v (.int .i64 m.aJ.c))):=rfl
def aRn:(mk m g0 g1 X c8 cM Y T K)[8]?=j (.i (.v (.bool m.aJ.I))):=rfl
def aRo:(mk m g0 g1 X c8 cM Y T K)[9]?=j (.i (.v (.int .i64 m.b3.aJ.r))):=rfl
def aRp:(mk m g0 g1 X c8 cM Y T K)[10]?=j (.i (.v (.int .i64 m.b3.aJ.c))):=rfl
def aRq:(mk m g0 g1 X c8 cM Y T K)[11]?=j (.i (.v (.bool m.b3.aJ.I))):=rfl
def aRr:(mk m g0 g1 X c8 cM Y T K)[12]?=j (.i (.v (.int .i64 m.b3.a.cX))):=rfl
def aRs:(mk m g0 g1 X c8 cM Y T K)[13]?=j (.i (.v (.int .i64 m.b3.a.bd))):=rfl
def aRt:(mk m g0 g1 X c8 cM Y T K)[14]?=j (.i (.v (.int .i64 m.b3.a.co))):=rfl
def aRu:(mk m g0 g1 X c8 cM Y T K)[15]?=j (.i (.v (.bool m.b3.dq))):=rfl
def aRv:(mk m g0 g1 X c8 cM Y T K)[16]?=j (.i (.v (.int .u8 m.b3.dJ))):=rfl
def aRw:(mk m g0 g1 X c8 cM Y T K)[17]?=j (.i (.v (.int .u8 m.b3.s1))):=rfl
def aRx:(mk m g0 g1 X c8 cM Y T K)[18]?=j (.i (.v (.int .i64 m.b3.ef))):=rfl
def aRy:(mk m g0 g1 X c8 cM Y T K)[19]?=j (.i (.v (.int .i64 m.a.cX))):=rfl
def aRz:(mk m g0 g1 X c8 cM Y T K)[20]?=j (.i (.v (.int .i64 m.a.bd))):=rfl
def aRA:(mk m g0 g1 X c8 cM Y T K)[21]?=j (.i (.v (.int .i64 m.a.co))):=rfl
def aRB:(mk m g0 g1 X c8 cM Y T K)[22]?=j (.i (.v (.bool m.md.ins))):=rfl
def aRC:(mk m g0 g1 X c8 cM Y T K)[23]?=j (.i (.v (.bool m.md.jd))):=rfl
def aRD:(mk m g0 g1 X c8 cM Y T K)[24]?=j (.i (.v (.bool m.md.lj))):=rfl
def aRE:(mk m g0 g1 X c8 cM Y T K)[25]?=j (.i (.v (.bool m.md.dq))):=rfl
def aRF:(mk m g0 g1 X c8 cM Y T K)[26]?=j (.i (.v (.bool m.md.wr))):=rfl
def aRG:(mk m g0 g1 X c8 cM Y T K)[27]?=j (.i (.v (.bool m.md.jo))):=rfl
def aRH:(mk m g0 g1 X c8 cM Y T K)[28]?=j (.i (.v (.bool m.md.gq))):=rfl
def aRI:(mk m g0 g1 X c8 cM Y T K)[29]?=j (.i (.v (.bool m.md.lk))):=rfl
def aRJ:(mk m g0 g1 X c8 cM Y T K)[30]?=j (.i (.v (.int .u8 m.md.dJ))):=rfl
def aRK:(mk m g0 g1 X c8 cM Y T K)[31]?=j (.i (.v (.int .u8 m.md.s1))):=rfl
def aRL:(mk m g0 g1 X c8 cM Y T K)[32]?=j (.i (.v (.int .i64 m.md.ef))):=rfl
def aRM:(mk m g0 g1 X c8 cM Y T K)[33]?=j (.i (.v (.int .i64 m.cW))):=rfl
def aRN:(mk m g0 g1 X c8 cM Y T K)[34]?=j (.i (.v (.int .i64 m.ck))):=rfl
def aRO:(mk m g0 g1 X c8 cM Y T K)[35]?=j (T):=rfl
def aRP:(mk m g0 g1 X c8 cM Y T K)[36]?=j (K):=rfl
def aRQ:(mk m g0 g1 X c8 cM Y T K)[37]?=j (.i (.v (.int .i64 m.bn.bO))):=rfl
def aRR:(mk m g0 g1 X c8 cM Y T K)[38]?=j (.i (.str m.bn.cd)):=rfl
def aRS:(mk m g0 g1 X c8 cM Y T K)[39]?=j (.i (.str m.bn.ca)):=rfl
def aRT:(mk m g0 g1 X c8 cM Y T K)[40]?=j (.i (.str (ec m.eX))):=rfl
def aRU:(mk m g0 g1 X c8 cM Y T K)[41]?=j (.i (.str m.dL)):=rfl
def aRV:eP 3 (mk m g0 g1 X c8 cM Y T K)=[g0,g1,X]:=rfl
def aRW:eP 3 (e_ 3 (mk m g0 g1 X c8 cM Y T K))=[c8,cM,Y]:=rfl
def aRX:eP 3 (e_ 6 (mk m g0 g1 X c8 cM Y T K))=[.i (.v (.int .i64 m.aJ.r)),.i (.v (.int .i64 m.aJ.c)),.i (.v (.bool m.aJ.I))]:=rfl
def aRY:eP 3 (e_ 9 (mk m g0 g1 X c8 cM Y T K))=[.i (.v (.int .i64 m.b3.aJ.r)),.i (.v (.int .i64 m.b3.aJ.c)),.i (.v (.bool m.b3.aJ.I))]:=rfl
def aRZ:eP 10 (e_ 9 (mk m g0 g1 X c8 cM Y T K))=[.i (.v (.int .i64 m.b3.aJ.r)),.i (.v (.int .i64 m.b3.aJ.c)),.i (.v (.bool m.b3.aJ.I)),.i (.v (.int .i64 m.b3.a.cX)),.i (.v (.int .i64 m.b3.a.bd)),.i (.v (.int .i64 m.b3.a.co)),.i (.v (.bool m.b3.dq)),.i (.v (.int .u8 m.b3.dJ)),.i (.v (.int .u8 m.b3.s1)),.i (.v (.int .i64 m.b3.ef))]:=rfl
def aR0:eP 3 (e_ 12 (mk m g0 g1 X c8 cM Y T K))=[.i (.v (.int .i64 m.b3.a.cX)),.i (.v (.int .i64 m.b3.a.bd)),.i (.v (.int .i64 m.b3.a.co))]:=rfl
def aR1:eP 2 (e_ 16 (mk m g0 g1 X c8 cM Y T K))=[.i (.v (.int .u8 m.b3.dJ)),.i (.v (.int .u8 m.b3.s1))]:=rfl
def aR2:eP 3 (e_ 19 (mk m g0 g1 X c8 cM Y T K))=[.i (.v (.int .i64 m.a.cX)),.i (.v (.int .i64 m.a.bd)),.i (.v (.int .i64 m.a.co))]:=rfl
def aR3:eP 11 (e_ 22 (mk m g0 g1 X c8 cM Y T K))=[.i (.v (.bool m.md.ins)),.i (.v (.bool m.md.jd)),.i (.v (.bool m.md.lj)),.i (.v (.bool m.md.dq)),.i (.v (.bool m.md.wr)),.i (.v (.bool m.md.jo)),.i (.v (.bool m.md.gq)),.i (.v (.bool m.md.lk)),.i (.v (.int .u8 m.md.dJ)),.i (.v (.int .u8 m.md.s1)),.i (.v (.int .i64 m.md.ef))]:=rfl
def aR4:eP 2 (e_ 30 (mk m g0 g1 X c8 cM Y T K))=[.i (.v (.int .u8 m.md.dJ)),.i (.v (.int .u8 m.md.s1))]:=rfl
def aR5:eP 3 (e_ 37 (mk m g0 g1 X c8 cM Y T K))=[.i (.v (.int .i64 m.bn.bO)),.i (.str m.bn.cd),.i (.str m.bn.ca)]:=rfl
def aR6:eP 42 (mk m g0 g1 X c8 cM Y T K)=mk m g0 g1 X c8 cM Y T K:=rfl
def aR7(a b c:ay):a::b::c::e_ 3 (mk m g0 g1 X c8 cM Y T K)=mk m a b c c8 cM Y T K:=rfl
def aR8(a b c:ay):eP 3 (mk m g0 g1 X c8 cM Y T K)++[a,b,c]++e_ 6 (mk m g0 g1 X c8 cM Y T K)=mk m g0 g1 X a b c T K:=rfl
def aR9(a:ay):eP 2 (mk m g0 g1 X c8 cM Y T K)++[a]++e_ 3 (mk m g0 g1 X c8 cM Y T K)=mk m g0 g1 a c8 cM Y T K:=rfl
def aR_(a:ay):eP 5 (mk m g0 g1 X c8 cM Y T K)++[a]++e_ 6 (mk m g0 g1 X c8 cM Y T K)=mk m g0 g1 X c8 cM a T K:=rfl
def aR'(a:ay):eP 35 (mk m g0 g1 X c8 cM Y T K)++[a]++e_ 36 (mk m g0 g1 X c8 cM Y T K)=mk m g0 g1 X c8 cM Y a K:=rfl
def aSa(a:ay):eP 36 (mk m g0 g1 X c8 cM Y T K)++[a]++e_ 37 (mk m g0 g1 X c8 cM Y T K)=mk m g0 g1 X c8 cM Y T a:=rfl
def aSb(x y:Int)(z:Bool):eP 6 (mk m g0 g1 X c8 cM Y T K)++[.i (.v (.int .i64 x)),.i (.v (.int .i64 y)),.i (.v (.bool z))]++e_ 9 (mk m g0 g1 X c8 cM Y T K)=mk {m with aJ:=⟨x,y,z⟩} g0 g1 X c8 cM Y T K:=rfl
def aSc(x y:Int)(z:Bool):eP 9 (mk m g0 g1 X c8 cM Y T K)++[.i (.v (.int .i64 x)),.i (.v (.int .i64 y)),.i (.v (.bool z))]++e_ 12 (mk m g0 g1 X c8 cM Y T K)=mk {m with b3:={m.b3 with aJ:=⟨x,y,z⟩}} g0 g1 X c8 cM Y T K:=rfl
def aSd(x:Bool):eP 8 (mk m g0 g1 X c8 cM Y T K)++[.i (.v (.bool x))]++e_ 9 (mk m g0 g1 X c8 cM Y T K)=mk {m with aJ:={m.aJ with I:=x}} g0 g1 X c8 cM Y T K:=rfl
def aSe(x:Bool):eP 11 (mk m g0 g1 X c8 cM Y T K)++[.i (.v (.bool x))]++e_ 12 (mk m g0 g1 X c8 cM Y T K)=mk {m with b3:={m.b3 with aJ:={m.b3.aJ with I:=x}}} g0 g1 X c8 cM Y T K:=rfl
def aSf(x:Int):eP 33 (mk m g0 g1 X c8 cM Y T K)++[.i (.v (.int .i64 x))]++e_ 34 (mk m g0 g1 X c8 cM Y T K)=mk {m with cW:=x} g0 g1 X c8 cM Y T K:=rfl
def aSg(x:Int):eP 34 (mk m g0 g1 X c8 cM Y T K)++[.i (.v (.int .i64 x))]++e_ 35 (mk m g0 g1 X c8 cM Y T K)=mk {m with ck:=x} g0 g1 X c8 cM Y T K:=rfl
def aSh(a:ay):(mk m g0 g1 X c8 cM Y T K).set 35 a=mk m g0 g1 X c8 cM Y a K:=rfl
def aSi(a:ay):(mk m g0 g1 X c8 cM Y T K).set 36 a=mk m g0 g1 X c8 cM Y T a:=rfl
end
def rJ:=gl @aRd @mk_one @aRe @aRf @aRg @aRh @aRi @aRj @aRk @aRl @aRm @aRn @aRo @aRp @aRq (gl @aRr @aRs @aRt @aRu @aRv @aRw @aRx @aRy @aRz @aRA @aRB @aRC @aRD @aRE @aRF (gl @aRG @aRH @aRI @aRJ @aRK @aRL @aRM @aRN @aRO @aRP @aRQ @aRR @aRS @aRT @aRU (gl @aRV @aRW @aRX @aRY @aRZ @aR0 @aR1 @aR2 @aR3 @aR4 @aR5 @aR6 @aR7 @aR8 @aR9 (bq @aR_ @aR' @aSa (bq @aSb @aSc @aSd (bq @aSe @aSf @aSg (aC @aSh @aSi)))))))
def Ut:(E.kinds 42).getD 35 o=j 1:=aK
def Uu:(E.kinds 42).getD 36 o=j 1:=aK
def aSj:(E.kinds 38).getD 0 o=j 1:=aK
def iQ(m:M):aZ:=mk m (.i (.v (.int .i64 m.w))) (.i (.v (.int .i64 m.h))) (.i (.af 1 (cg m.G) J)) (.i (.v (.int .i64 m.w))) (.i (.v (.int .i64 m.h))) (.i (.af 1 (cg m.O) J)) (.i (.af 1 (eZ m.c9) J)) (.i (.af 1 (cg m.back) J))
def aSk(m:M)(a ag b ai:Nat)(h:m.gD=J):mk m (.i (.v (.int .i64 m.w))) (.i (.v (.int .i64 m.h))) (.x (.d a ag 0 m.h)) (.i (.v (.int .i64 m.w))) (.i (.v (.int .i64 m.h))) (.x (.d b ai 0 m.h)) (.i (.af 1 (eZ m.c9) J)) (.i (.af 1 (cg m.back) J))=aW m a ag b ai:=by unfold mk aW;rw[h];rfl
def p6(g:cQ)(k:Nat):c0:=a7 (g.take k)++(g.drop k).map aLy
def akF(g:cQ)(k:Nat):(p6 g k).length=g.length:=by rw[p6,dK,hf,mE,hV,j6];omega
def aSl(g:cQ):p6 g 0=(cg g).map q0:=by simp only[p6,nU,i6,cg,vC,show a7 []=[]from rfl,hb];rfl
def aSm(g:cQ):p6 g g.length=a7 g:=by simp[p6]
def aSn{g:cQ}{k:Nat}(h:k<g.length):(p6 g k)[k]?=j (.ek (.af 5 (cl g[k]) J)):=by rw[p6,hK (by rw[hf,hV];omega),hf,hV,Pp aa,r7,jk h];rfl
def aSo{g:cQ}{k:Nat}(h:k<g.length):(p6 g k).set k (.own (cl g[k]))=p6 g (k+1):=by
 have ao:(a7 (g.take k)).length=k:=by rw[hf,hV];omega
 rw[p6,AG _ _ aa,ao,r7,jk h,fC,HW,p6,Iz h,←Fa];simp[a7]
def aSp(l:c1)(ao:l.length≤1000)(H:ab):cE 79 [.i (.af 5 (cl l) J)] H (.ref H.length 0 0 l.length) (H++[.af 5 0 (cl l) J]):=by have p:=fo l;unfold cE dy;simp only[fg,show E.ext 79=j (mP 5)from rfl,bI,bj,dC,reach,fN,dS,cP,cB];simp[mP,p,show l.length≤1000000000 by omega,bj,reach,Chunk.refs,cB,dG,bD,Chunk.c2,ev]
def aSq(g:cQ)(aR:g.length≤1000)(H:ab):cE 78 [.i (.af 1 (cg g) J)] H (.x (.d H.length 0 0 g.length)) (H++[.aE 5 0 0 (p6 g 0)]):=by have p:=gn g;unfold cE dy;simp only[fg,show E.ext 78=j (uw 5)from rfl,bI,bj,dC,reach,fN,dS,cP,cB];simp[uw,p,show g.length≤1000000000 by omega,bj,de.c,de.to,reach,Chunk.refs,cB,dG,bD,Chunk.c2,ev,aSl]
def aSr(g:cQ)(aR:g.length≤1000)(ak:∀r∈g,r.length≤1000):∀(m k:Nat),k+m=g.length→
  ie Eu 0 [(3,.x (.d 0 0 0 g.length)),(8,g.length),(9,k)] [.aE 5 0 0 (p6 g k)] 0 [(3,.x (.d 0 0 0 g.length)),(8,g.length),(9,g.length),(10,J)] [.aE 5 0 0 (a7 g)]:=by
 intro m;induction m with
 |zero=>intro k aA;obtain rfl:k=g.length:=aa;rw[aSm];refine(cO Eu 0).trans ?_;simp(disch:=omega)only[aw,simprocAttr,R7,ej,dd]
 |succ m a'=>intro k aA;have bg:k<g.length:=aa;have qz:=aSn bg;have ki:=aSo bg;have nk:=akF g k;have aSs:=ak g[k] (oi bg);have an:=aSp g[k] aSs;have e:=a' (k+1) aa;have aSt:=fo g[k];refine gB ?_ e;clear e a';generalize p6 g (k+1)=FU at*;generalize p6 g k=fc at*;generalize g[k]=row at*;refine(cO Eu 0).trans ?_;simp(disch:=omega)only[aw,simprocAttr,R7,ej,dd,an,qz,ki,aSt,nk,ne_eq,ag']
def aSu{g:Nat}{bC:aZ}{c n:Nat}{x:Chunk}{H:ab}(he:E.ext g=o)(ak:bI bC=[])(ap:x.refs=[])(aj:∃L,b' E g bC []=j (.x (.d c 0 0 n),L)∧L[c]?=j x):
  cE g bC H (.x (.d H.length 0 0 n)) (H++[x]):=by
 obtain⟨L,aj,fl⟩:=aj;have p:=(gx (bD [])).2 bC ak;have mO:=lR ap;have dA:=sx fl ap;unfold cE dy;rw[ak];simp only[fg,he,reach,p,fN,aj,dS,ti,if_false,nU,tp,dC,bj,de.c,dA];simp[cB,cP,dG,bD,fl,mO,ev,de.to,de.c]
def Uv(g:cQ)(aR:g.length≤1000)(ak:∀r∈g,r.length≤1000)(H:ab):cE 45 [.i (.af 1 (cg g) J)] H (.x (.d H.length 0 0 g.length)) (H++[.aE 5 0 0 (a7 g)]):=aSu rfl rfl rfl (by
 have ar:=aSq g aR;have ao:=aSr g aR ak g.length 0 aa;rw[show((0:Nat):Int)=0 from rfl]at ao;have aA:=akF g 0;rw[oz func45 rfl Eu.1];simp(disch:=omega)only[aw,simprocAttr,R7,ej,dd,ar,ao,ag'];exact⟨_,rfl,rfl⟩)
def aSv(l:lh)(ao:l.length≤1000)(H:ab):cE 46 [.i (.af 1 (eZ l) J)] H (.ref H.length 0 0 l.length) (H++[.af 1 0 (eZ l) J]):=by have p:=n5 l;unfold cE dy;simp only[fg,show E.ext 46=j (mP 1)from rfl,bI,bj,dC,reach,fN,dS,cP,cB];simp[mP,p,show l.length≤1000000000 by omega,bj,reach,Chunk.refs,cB,dG,bD,Chunk.c2,ev]
def aSw{m:M}(hm:bt m):∃a b L,b' E 19 [.agg (iQ m)] []=j (.agg (aW {m with gD:=J} a 0 b 0),L)∧a≠b∧L[a]?=j (.aE 5 0 0 (a7 m.G))∧L[b]?=j (.aE 5 0 0 (a7 m.O)):=by
 have hw:=hm.w;have aV:=hm.h;have mg:=hm.G;have sJ:=hm.O;have c_:=hm.back;have dO:=hm.c9;have ar:=λ H=>Uv m.G aa (λ r ak=>by have:=mg.2 r ak;omega) H
 have aM:=λ H=>Uv m.O aa (λ r ak=>by have:=sJ.2 r ak;omega) H
 have bZ:=λ H=>Uv m.back aa (λ r ak=>by have:=c_.2 r ak;omega) H
 have dx:=λ H=>aSv m.c9 aa H
 rw[mg.1]at ar;rw[sJ.1]at aM;have fT:=Fc m.back;have z2:=Fb m.back;have t1:=n5 m.c9;have fm:=gn m.back;have dZ:=hf m.back;unfold iQ;rw[bz afq];simp(disch:=omega)only[aw,simprocAttr,aHD,ej,fI,rJ,ar,aM,bZ,dx,fT,z2,Ut,Uu,aSj];exact⟨2,3,_,Prod.ext (congrArg ay.agg (aSk {m with gD:=J} 2 0 3 0 rfl)) rfl,bU,rfl,rfl⟩
def akG(a b s:Int)(H:ab):cF 31 [.agg [.i (.v (.int .u8 (a))),.i (.v (.int .u8 (b)))],s] H (↑(Ee a b s)):=by unfold cF dy;simp only[fg,show E.ext 31=j zc from rfl,bI,bj,dC,reach,fN,dS,cP,cB];simp[zc,bj,reach,Chunk.refs,cB,ev]
def akH{a b s:Int}(h:(a=66∨a=48)∧(b=66∨b=48)∧(s=0∨s=1)):Ee a b s=ah:=by obtain⟨rfl|rfl,rfl|rfl,rfl|rfl⟩:=h<;>rfl
def aSx{r:c1}(h:1≤r.length∧r.length≤132∧ii r=ah)(H:ab):cF 34 [.i (.af 5 (cl r) J)] H J:=cI (by
 have e:=λ H=>M3 (l:=r) aa h.2.1 h.2.2 H
 refine bE afv ?_;simp(disch:=omega)only[aw,simprocAttr,aHH,dd,e];exact be)
def aSy(g:cQ)(aR:g.length<100000)(ak:∀r∈g,1≤r.length∧r.length≤132∧ii r=ah):∀(n k:Nat),k+n=g.length→
  ie Ex 0 [(0,.i (.af 1 (cg g) J)),(1,.aS (.func 34) [] []),(7,g.length),(8,k)] [] 0 [(0,.i (.af 1 (cg g) J)),(1,.aS (.func 34) [] []),(7,g.length),(8,g.length),(9,J)] []:=by
 intro n;induction n with
 |zero=>intro k aA;obtain rfl:k=g.length:=aa;refine(cO Ex 0).trans ?_;simp(disch:=omega)only[aw,simprocAttr,R9,ej,dd]
 |succ n a'=>
  intro k aA;have hU:k<g.length:=aa;have ap:=zG (eC hU);have ar:=λ H=>aSx (ak g[k] (oi hU)) H
  refine gB ?_ (a' (k+1) aa);clear a';refine(cO Ex 0).trans ?_;simp(disch:=omega)only[aw,simprocAttr,R9,ej,dd,ap,ar,aDU,aha]
def aSz(g:cQ)(aR:g.length<100000)(ak:∀r∈g,1≤r.length∧r.length≤132∧ii r=ah)(H:ab):cF 65 [.i (.af 1 (cg g) J),.aS (.func 34) [] []] H (↑(-1:Int)):=cI (by
 have e:=aSy g aR ak g.length 0 aa;rw[show((0:Nat):Int)=0 from rfl]at e;have ao:=gn g;refine bE Ex ?_;simp(disch:=omega)only[aw,simprocAttr,R9,ej,dd,e,ao,aha];exact be)
def aSA(g:cQ)(aR:g.length<100000)(ak:∀r∈g,1≤r.length∧r.length≤132∧ii r=ah)(H:ab):cF 33 [.i (.af 1 (cg g) J),.aS (.func 34) [] []] H J:=cI (by
 have e:=λ H=>aSz g aR ak H
 refine bE afu ?_;simp(disch:=omega)only[aw,simprocAttr,aHG,ej,e];exact be)
def akI{c:gG}{w h:Nat}(hw:w≤1000)(aj:xI c w h)(g:bx)(H:ab):cF 29 [.agg [c.r,c.c,c.I],.agg [w,h,.i g]] H ah:=cI (by
 obtain⟨r,q,I⟩:=c;obtain⟨⟨p,U⟩,⟨az,bh⟩,bF⟩:=aj;simp only at p U az bh bF⊢;have gw:¬r<0:=aa;have GK:¬q<0:=aa;cases I with
 |false=>refine bE R3 ?_;simp(disch:=omega)only[aw,simprocAttr,afs,p,U,az,bh];exact be
 |true=>
  have bF:=bF rfl;refine bE R3 ?_;simp(disch:=omega)only[aw,simprocAttr,afs,p,U,az,bh,bF];exact be)
def aSB{m:M}(hm:bt m):gV 11 [.agg (iQ m)] (↑(0:Int)):=by
 have hw:=hm.w;have aV:=hm.h;have ar:=λ H=>Tk m.w m.h hw aV m.G hm.G.1 hm.G.2 H
 have aM:=λ H=>Tk m.w m.h hw aV m.O hm.O.1 hm.O.2 H
 have bZ:=λ g H=>akI (c:=m.aJ) (w:=m.w) (h:=m.h) aa hm.aJ g H
 have dx:=λ g H=>akI (c:=m.b3.aJ) (w:=m.w) (h:=m.h) aa hm.b3 g H
 have pz:=λ H=>TR hm.a H
 have KV:=λ H=>TR hm.aH H
 have Tt:=λ H=>akG m.md.dJ m.md.s1 m.md.ef H
 have akJ:=λ H=>akG m.b3.dJ m.b3.s1 m.b3.ef H
 rw[akH hm.bO]at Tt;rw[akH hm.iF]at akJ;have Uf:=λ H=>ah7 m.eX (by have:=hm.eX;omega) H
 have aSC:=λ H=>aSA m.back (by have:=hm.back.1;omega) hm.back.2 H
 obtain⟨t1,t2,t3⟩:=hm.dm;have p:=n5 m.c9;have U:=gn m.back;have az:=hm.c9;have bh:=hm.back.1;have bF:((cg m.back).length:Int)≤500:=aa;have dN:((eZ m.c9).length:Int)=m.w:=aa;unfold iQ;refine bE afm ?_;simp(disch:=omega)only[aw,simprocAttr,aHz,ej,fI,rJ,Ut,Uu,ar,aM,bZ,dx,pz,KV,Tt,akJ,Uf,aSC,t1,t2,t3,bF,dN];exact be
def aSD{m:M}(hm:bt m)(H:ab):cF 11 [.agg (iQ m)] H (↑(0:Int)):=hF rfl rfl rfl (aSB hm)
def xT(m:M):cZ:=[.v (.int .i64 m.w),.v (.int .i64 m.h),.af 1 (cg m.G) J,.v (.int .i64 m.w),.v (.int .i64 m.h),.af 1 (cg m.O) J,.v (.int .i64 m.aJ.r),.v (.int .i64 m.aJ.c),.v (.bool m.aJ.I),.v (.int .i64 m.b3.aJ.r),.v (.int .i64 m.b3.aJ.c),.v (.bool m.b3.aJ.I),.v (.int .i64 m.b3.a.cX),.v (.int .i64 m.b3.a.bd),.v (.int .i64 m.b3.a.co),.v (.bool m.b3.dq),.v (.int .u8 m.b3.dJ),.v (.int .u8 m.b3.s1),.v (.int .i64 m.b3.ef),.v (.int .i64 m.a.cX),.v (.int .i64 m.a.bd),.v (.int .i64 m.a.co),.v (.bool m.md.ins),.v (.bool m.md.jd),.v (.bool m.md.lj),.v (.bool m.md.dq),.v (.bool m.md.wr),.v (.bool m.md.jo),.v (.bool m.md.gq),.v (.bool m.md.lk),.v (.int .u8 m.md.dJ),.v (.int .u8 m.md.s1),.v (.int .i64 m.md.ef),.v (.int .i64 m.cW),.v (.int .i64 m.ck),.af 1 (eZ m.c9) J,.af 1 (cg m.back) J,.v (.int .i64 m.bn.bO),.str m.bn.cd,.str m.bn.ca,.str (ec m.eX),.str m.dL]
def akK(m:M):lu (xT m)=iQ m:=rfl
def FV(H:ab)(x:bx)(r:aZ):f' H (.i x::r)=match f' H r with
 |some (xs,bG)=>j (x::xs,bG)
 |none=>o:=rfl
def NR(H:ab)(k:de)(r:aZ):f' H (.x k::r)=match pk H k with
 |some (x,H1)=>match f' H1 r with
  |some (xs,bG)=>j (x::xs,bG)
  |none=>o
 |none=>o:=rfl
def akL{m:M}{a ag b ai aH aL:Nat}{H:ab}(wb:m.gD=J)(b9:H[a]?=j (.aE 5 ag aH (a7 m.G)))(c_:H[b]?=j (.aE 5 ai aL (a7 m.O)))(dc:a≠b)(mg:m.G.length=m.h)(sJ:m.O.length=m.h):
  f' H (aW m a ag b ai)=j (xT m,(H.set a (.fd ag (cg m.G))).set b (.fd ai (cg m.O))):=by
 have R:∀(g:cQ) (c gc s:Nat) (H:ab),H[c]?=j (.aE 5 gc s (a7 g))→pk H (.d c gc 0 g.length)=j (.af 1 (cg g) J,H.set c (.fd gc (cg g))):=by intro g c gc s H h;rw[Ri,h,Zl,if_pos rfl,Fc,Zn,Fb,i6,xq (by rw[gn];exact cS _)]
 have f1:=R m.G a ag aH H b9;have aSE:(H.set a (.fd ag (cg m.G)))[b]?=j (.aE 5 ai aL (a7 m.O)):=by rw[dW dc];exact c_
 have f2:=R m.O b ai aL _ aSE;rw[mg]at f1;rw[sJ]at f2;unfold aW;rw[wb];rw[FV,FV,NR,f1];simp only[FV,NR,f2,QP];rfl
def aSF{m:M}{a ag b ai:Nat}{H:ab}(wb:m.gD=J)(b9:H[a]?=j (.fd ag (cg m.G)))(c_:H[b]?=j (.fd ai (cg m.O)))(mg:m.G.length=m.h)(sJ:m.O.length=m.h):
  f' H (aW m a ag b ai)=j (xT m,H):=by
 have R:∀(g:cQ) (c gc:Nat),H[c]?=j (.fd gc (cg g))→pk H (.d c gc 0 g.length)=j (.af 1 (cg g) J,H):=by intro g c gc h;rw[Ri,h,Zm,if_pos rfl,i6,xq (by rw[gn];exact cS _)]
 have f1:=R m.G a ag b9;have f2:=R m.O b ai c_;rw[mg]at f1;rw[sJ]at f2;unfold aW;rw[wb];rw[FV,FV,NR,f1];simp only[FV,NR,f2,QP];rfl
def Cy(m:M)(Z P:aZ):ab:=[.box Z,.box (aW m 2 0 3 0),.aE 5 0 0 (a7 m.G),.aE 5 0 0 (a7 m.O),.box P]
def akM{m:M}{Z P:aZ}{c I d:Nat}{H:ab}(xG:∀a∈Z,∃x,a=.i x)(mF:∀a∈P,∃x,a=.i x)(h:rA I m H)(aj:H[c]?=j (.box Z))(aP:H[d]?=j (.box P))(fV:c≠d)(x y z:bx):
  oM 0 [(4,.ptr (c) 0 0 0),(5,.ptr (I) 0 0 0),(6,.ptr (d) 0 0 0),(28,.i x),(29,.i y),(30,.i z)] H=([(4,.ptr (0) 0 0 0),(5,.ptr (1) 0 0 0),(6,.ptr (4) 0 0 0),(28,.i x),(29,.i y),(30,.i z)],Cy m Z P):=by
 obtain⟨A,ag,B,ai,aH,aL,ax,b9,c_,jq⟩:=h;have akN:∀{q:Nat} {W:aZ},(∀a∈W,∃x,a=.i x)→H[q]?=j (.box W)→q≠I∧q≠A∧q≠B:=by
  intro q W rn bu;refine⟨λ e=>?_,λ e=>?_,λ e=>?_⟩
  ·subst e;rw[ax]at bu;cases bu;obtain⟨x,ap⟩:=rn (.x (.d A ag 0 m.h)) (by simp[aW]);cases ap
  ·subst e;rw[b9]at bu;cases bu
  ·subst e;rw[c_]at bu;cases bu
 obtain⟨cm,cp,c3⟩:=akN xG aj;obtain⟨d1,d2,d3⟩:=akN mF aP;have zX:I≠A:=λ e=>by subst e;rw[b9]at ax;cases ax
 have iP:I≠B:=λ e=>by subst e;rw[c_]at ax;cases ax
 have aSG:ff 0 H (aW m A ag B ai)=aW m A 0 B 0:=by simp[aW,ff,eL,de.c,b9,c_,rS]
 have g0:∀k,(e0 0 H 0 H)[k]?=(H[k]?).map (el 0 H k):=λ k=>by rw[w7];simp
 have cy:(e0 0 H 0 H)[c]?=j (.box Z):=by rw[g0,aj];simp only[eH,el,FQ xG]
 have cN:(e0 0 H 0 H)[d]?=j (.box P):=by rw[g0,aP];simp only[eH,el,FQ mF]
 have fy:(e0 0 H 0 H)[I]?=j (.box (aW m A 0 B 0)):=by rw[g0,ax];simp only[eH,el,aSG]
 have jN:(e0 0 H 0 H)[A]?=j (.aE 5 0 0 (a7 m.G)):=by rw[g0,b9];simp[el]
 have nf:(e0 0 H 0 H)[B]?=j (.aE 5 0 0 (a7 m.O)):=by rw[g0,c_];simp[el]
 have Cw:od 0 H [(4,.ptr (c) 0 0 0),(5,.ptr (I) 0 0 0),(6,.ptr (d) 0 0 0),(28,.i x),(29,.i y),(30,.i z)]=[(4,.ptr (c) 0 0 0),(5,.ptr (I) 0 0 0),(6,.ptr (d) 0 0 0),(28,.i x),(29,.i y),(30,.i z)]:=by simp[od,eL,tQ,aj,ax,aP]
 rw[HK,Cw];generalize e0 0 H 0 H=H1 at*;have lt:∀{q:Nat} {w:Chunk},H1[q]?=j w→¬H1.length≤q:=λ h=>fH.2 (bQ.1 h).1
 have aSH:=(z' (aY:=λ _=>o) xG).2;have aSI:=(z' (aY:=λ _=>o) mF).2;have aSJ:=λ aY=>(z' (aY:=aY) xG).1
 have aSK:=λ aY=>(z' (aY:=aY) mF).1
 have dA:oL 0 [(4,.ptr (c) 0 0 0),(5,.ptr (I) 0 0 0),(6,.ptr (d) 0 0 0),(28,.i x),(29,.i y),(30,.i z)] H1=[c,I,A,B,d]:=by simp[oL,bI,bj,reach,cy,cN,fy,jN,nf,kw,bV,aSH,aSI,Chunk.refs,lt cy,lt cN,lt fy,lt jN,lt nf,cm,cp,c3,d1,d2,d3,zX,iP,jq,fV,bi cm,bi cp,bi c3,bi d1,bi d2,bi d3,bi zX,bi iP,bi jq,bi fV]
 rw[HR (iC _),dA];have nT:bD [c,I,A,B,d] c=j 0:=by simp[bD]
 have sh:bD [c,I,A,B,d] I=j 1:=by simp[bD,bi cm]
 have zT:bD [c,I,A,B,d] A=j 2:=by simp[bD,bi cp,bi zX]
 have aSL:bD [c,I,A,B,d] B=j 3:=by simp[bD,bi c3,bi iP,bi jq]
 have aSM:bD [c,I,A,B,d] d=j 4:=by simp[bD,bi fV,d1,d2,d3]
 have em:=ka _ m A 0 B 0 _ _ zT aSL;simp only[yb,Cy,fC,fN,cB,nT,sh,aSM,cy,cN,fy,jN,nf,eH,jQ,jp,Aa,em,aSJ,aSK]
noncomputable def Jj(R:Fr)(H:ab):hj:=xg E 0 8 (fu Tryz.f8 0) (oM 0 R H)
def bt.fold:∀{l:gm} {m:M},bt m→pg l→bt (l.foldl Go.VI.gX m)
 |[],_,h,_=>h
 |e::l,m,h,aR=>bt.fold (l:=l) (h.gX (aR e aX)) λ x ap=>aR x (by simp[ap])
def aSN{Z P:aZ}(xG:∀a∈Z,∃x,a=.i x)(mF:∀a∈P,∃x,a=.i x)(l:gm)(ao:l.length<100000)(aR:pg l):∀(n k:Nat) (m:M) (c I d:Nat) (H:ab),k+n=l.length→bt m→rA I m H→H[c]?=j (.box Z)→H[d]?=j (.box P)→c≠d→
  Jj [(4,.ptr (c) 0 0 0),(5,.ptr (I) 0 0 0),(6,.ptr (d) 0 0 0),(28,.i (.af 7 (eS l) J)),(29,.i (.v (.int .i64 (l.length)))),(30,.i (.v (.int .i64 (k))))] H=j (.exit 0,[(4,.ptr (0) 0 0 0),(5,.ptr (1) 0 0 0),(6,.ptr (4) 0 0 0),(28,.i (.af 7 (eS l) J)),(29,.i (.v (.int .i64 (l.length)))),(30,.i (.v (.int .i64 (l.length))))]++[(31,.i (.v (.bool (J))))],Cy ((l.drop k).foldl gX m) Z P):=by
 intro n;induction n with
 |zero=>intro k m c I d H aA hm aT aj aP fV;obtain rfl:k=l.length:=aa;unfold Jj;rw[akM xG mF aT aj aP fV,Br,mN,List.foldl_nil];generalize Cy m Z P=W;rw[cO L8 0];simp(disch:=omega)only[aw,simprocAttr,H0,oy,cC]
 |succ n a'=>
  intro k m c I d H aA hm aT aj aP fV;have hU:k<l.length:=aa;have ap:(eS l)[k]?=j (EZ l[k]):=by simp[eS,hU]
  have he:=aR l[k] (oi hU);obtain⟨bG,ar,p,U⟩:=I9 (f:=21) (bC:=[v_ l[k]]) (H:=Cy m Z P++[.box (lu (EZ l[k]))]) (I:=1) (A:=2) (B:=3) (ag:=0) (ai:=0) rfl rfl rfl (aRc hm l[k] he) ⟨rfl,⟨0,rfl⟩,⟨0,rfl⟩,bU⟩;have aM:=a' (k+1) _ 0 1 4 bG aa (hm.gX he) p (U.2.1 0 _ rfl bU trivial) (U.2.1 4 _ rfl bU trivial) bU;unfold Jj;rw[akM xG mF aT aj aP fV,Br,jk hU,vd];refine gB ?_ aM;clear aM a';generalize l[k]=e at*;rw[z8]at ar;simp only[EZ]at ap ar;simp only[Cy,cC,lu,fC,fN]at ar⊢;rw[cO L8 0];simp(disch:=omega)only[aw,simprocAttr,H0,oy,ap,ar,show∀R H,ez E 0 8 (uU _) R H=Jj (norm [4,5,6,28,29,30] R) H from λ R H=>sz rfl aK aK aK aK R H]
def iH(m:M)(s:bm):M:={(h1 m.bn s).2.foldl gX {m with gD:=J}with bn:=(h1 m.bn s).1,gD:=J}
def bt.Uw{m:M}(h:bt m)(q:dz)(b:Bool):bt {m with bn:=q,gD:=b}:=
 {w:=h.w,h:=h.h,G:=h.G,O:=h.O,aJ:=h.aJ,b3:=h.b3,a:=h.a,aH:=h.aH,dm:=h.dm,c9:=h.c9,back:=h.back,bO:=h.bO,iF:=h.iF,eX:=h.eX,dL:=h.dL}
def WP(m:M):Prop:=bt m∧gP m.bn=ah
def WP.Ux{m:M}(h:WP m)(s:bm):pg (h1 m.bn s).2:=by unfold h1;rw[Jh h.2];exact akB s h.2
def WP.write{m:M}(h:WP m)(s:bm):WP (iH m s):=by refine⟨(bt.fold (h.1.Uw m.bn J) (h.Ux s)).Uw _ _,?_⟩;show gP (h1 m.bn s).1=ah;unfold h1;rw[Jh h.2];exact Up s h.2
def aSO{g:Nat}{bC:aZ}{a b:Nat}{m:M}{x y:Chunk}{H:ab}(he:E.ext g=o)(ak:bI bC=[])(ap:x.refs=[])(bb:y.refs=[])(dc:a≠b)(aj:∃L,b' E g bC []=j (.agg (aW m a 0 b 0),L)∧L[a]?=j x∧L[b]?=j y):
  cE g bC H (.agg (aW m H.length 0 (H.length+1) 0)) (H++[x,y]):=by
 obtain⟨L,aj,fl,uI⟩:=aj;have p:=(gx (bD [])).2 bC ak;have mO:=lR ap;have IC:=lR bb;have ib:bj (.agg (aW m a 0 b 0))=[a,b]:=rfl;have bK:=fH.2 (bQ.1 fl).1;have bJ:=fH.2 (bQ.1 uI).1;have dA:reach L 64 [a,b] []=[a,b]:=by simp[reach,fl,uI,ap,bb,dc,bi dc,bK,bJ]
 have ar:=ka (dG [] H.length [a,b]) m a 0 b 0 H.length (H.length+1) (by simp[dG,bD]) (by simp[dG,bD,bi dc,rl]);unfold cE dy;rw[ak];simp only[fg,he,reach,p,fN,aj,dS,ti,if_false,nU,tp,dC,ib,dA];simp[cB,cP,ar,fl,uI,mO,IC,ev]
def aSP{m:M}(hm:bt m)(H:ab):cE 19 [.agg (iQ m)] H (.agg (aW {m with gD:=J} H.length 0 (H.length+1) 0)) (H++[.aE 5 0 0 (a7 m.G),.aE 5 0 0 (a7 m.O)]):=by obtain⟨a,b,L,p,U,az,bh⟩:=aSw hm;exact aSO rfl rfl rfl rfl U ⟨L,p,az,bh⟩
def aSQ(m:M):bI (iQ m)=[]:=rfl
def aSR(m:M)(H:ab):f' H (iQ m)=j (xT m,H):=by rw[←akK];exact QQ (xT m)
def aSS(m:M)(H:ab):f' H (mk m (.i (.v (.int .i64 m.w))) (.i (.v (.int .i64 m.h))) (.i (.af 1 (cg m.G) J)) (.i (.v (.int .i64 m.w))) (.i (.v (.int .i64 m.h))) (.i (.af 1 (cg m.O) J)) (.i (.af 1 (eZ m.c9) J)) (.i (.af 1 (cg m.back) J)))=j (xT m,H):=aSR m H
def aST(m:M):(xT m).map ay.i=mk m (.i (.v (.int .i64 m.w))) (.i (.v (.int .i64 m.h))) (.i (.af 1 (cg m.G) J)) (.i (.v (.int .i64 m.w))) (.i (.v (.int .i64 m.h))) (.i (.af 1 (cg m.O) J)) (.i (.af 1 (eZ m.c9) J)) (.i (.af 1 (cg m.back) J)):=rfl
def aSU(m:M):ke [o,o,j 1,o,o,j 1,o,o,o,o,o,o,o,o,o,o,o,o,o,o,o,o,o,o,o,o,o,o,o,o,o,o,o,o,o,j 1,j 1,o,o,o,o,o] (mk m (.i (.v (.int .i64 m.w))) (.i (.v (.int .i64 m.h))) (.i (.af 1 (cg m.G) J)) (.i (.v (.int .i64 m.w))) (.i (.v (.int .i64 m.h))) (.i (.af 1 (cg m.O) J)) (.i (.af 1 (eZ m.c9) J)) (.i (.af 1 (cg m.back) J)))=mk m (.i (.v (.int .i64 m.w))) (.i (.v (.int .i64 m.h))) (.i (.af 1 (cg m.G) J)) (.i (.v (.int .i64 m.w))) (.i (.v (.int .i64 m.h))) (.i (.af 1 (cg m.O) J)) (.i (.af 1 (eZ m.c9) J)) (.i (.af 1 (cg m.back) J)):=rfl
def aSV:(E.kinds 76).getD 35 o=j 1:=aK
def aSW:(E.kinds 76).getD 36 o=j 1:=aK
def aSX(m:M)(a ag b ai:Nat):(aW m a ag b ai).set 35 (.i (.af 1 (eZ m.c9) J))=aW m a ag b ai:=rfl
def aSY(m:M)(a ag b ai:Nat):(aW m a ag b ai).set 36 (.i (.af 1 (cg m.back) J))=aW {m with gD:=J} a ag b ai:=rfl
def aSZ(m:M)(a ag b ai:Nat):e_ 42 (aW m a ag b ai)=[]:=rfl
def aS0(m:M)(g0 g1 X c8 cM Y T K:ay):e_ 42 (mk m g0 g1 X c8 cM Y T K)=[]:=rfl
def tH:=bq @aSZ @aS0 @aSS (bq @aST @aSU Ut (bq Uu aSV aSW (aC @aSX @aSY)))
def NS:aZ:=[.i (.v (.int .i64 (0))),.i (.v (.int .i64 (0))),.i (.af 0 [] ah),.i (.v (.int .i64 (0))),.i (.v (.int .i64 (0))),.i (.af 0 [] ah),.i (.v (.int .i64 (0))),.i (.v (.int .i64 (0))),.i (.v (.bool (J))),.i (.v (.int .i64 (0))),.i (.v (.int .i64 (0))),.i (.v (.bool (J))),.i (.v (.int .i64 (0))),.i (.v (.int .i64 (0))),.i (.v (.int .i64 (0))),.i (.v (.bool (J))),.i (.v (.int .u8 0)),.i (.v (.int .u8 0)),.i (.v (.int .i64 (0))),.i (.v (.int .i64 (0))),.i (.v (.int .i64 (0))),.i (.v (.int .i64 (0))),.i (.v (.bool (J))),.i (.v (.bool (J))),.i (.v (.bool (J))),.i (.v (.bool (J))),.i (.v (.bool (J))),.i (.v (.bool (J))),.i (.v (.bool (J))),.i (.v (.bool (J))),.i (.v (.int .u8 0)),.i (.v (.int .u8 0)),.i (.v (.int .i64 (0))),.i (.v (.int .i64 (0))),.i (.v (.int .i64 (0))),.i (.af 0 [] ah),.i (.af 0 [] ah),.i (.v (.int .i64 (0))),.i (.str []),.i (.str []),.i (.str []),.i (.str [])]
def pO{m:M}(hw:WP m)(s:bm)(aU:s.length<5000):gV 8 [.agg (iQ m),.i (.str s)] (.agg (iQ (iH m s))):=by
 have hm:=hw.1;have ar:=λ H=>aSP hm H
 have aM:=λ H=>aSD hm H
 obtain⟨bK,bJ⟩:=S9 hw.2;have bZ:=λ H=>aKw m.bn aa aa s aa H
 have aR:=hw.Ux s;obtain⟨l,ao⟩:∃l,(h1 m.bn s).2=l:=⟨_,rfl⟩;obtain⟨q,bu⟩:∃q,(h1 m.bn s).1=q:=⟨_,rfl⟩;have B0:l.length<100000:=by have:=(S8 s (S9 hw.2)).2;rw[←ao];unfold h1;rw[Jh hw.2];omega
 obtain⟨m2,hk⟩:∃m2,iH m s=m2:=⟨_,rfl⟩;have uS:=hw.write s;rw[hk]at uS⊢;unfold iH at hk;unfold MZ xz at bZ;rw[ao]at aR;rw[ao,bu]at hk;rw[ao,bu]at bZ;have fM:=MY l;have a8:iQ m=mk (m) (.i (.v (.int .i64 (m).w))) (.i (.v (.int .i64 (m).h))) (.i (.af 1 (cg m.G) J)) (.i (.v (.int .i64 (m).w))) (.i (.v (.int .i64 (m).h))) (.i (.af 1 (cg m.O) J)) (.i (.af 1 (eZ (m).c9) J)) (.i (.af 1 (cg (m).back) J)):=rfl;rw[a8]at ar aM⊢;refine bE L8 ?_;simp(disch:=omega)only[aw,simprocAttr,H0,oy,rJ,b1,b7,bV,T',tH,ar,aM,bZ,fM,show∀R H,ez E 0 8 (uU _) R H=Jj (norm [4,5,6,28,29,30] R) H from λ R H=>sz rfl aK aK aK aK R H];have sp:bt {m with gD:=J}:=hm.Uw m.bn J;have dx:=aSN (Z:=NS) (P:=[.i (.v (.int .i64 (q.bO))),.i (.str q.cd),.i (.str q.ca)]) (by simp[NS]) aX l B0 aR l.length 0 {m with gD:=J} 1 4 5 [.box (mk (m) (.i (.v (.int .i64 (m).w))) (.i (.v (.int .i64 (m).h))) (.i (.af 1 (cg (m).G) J)) (.i (.v (.int .i64 (m).w))) (.i (.v (.int .i64 (m).h))) (.i (.af 1 (cg (m).O) J)) (.i (.af 1 (eZ (m).c9) J)) (.i (.af 1 (cg (m).back) J))),.box NS,.aE 5 0 0 (a7 m.G),.aE 5 0 0 (a7 m.O),.box (aW {m with gD:=J} 2 0 3 0),.box [.i (.v (.int .i64 (q.bO))),.i (.str q.cd),.i (.str q.ca)]] aa sp ⟨2,0,3,0,0,0,rfl,rfl,rfl,bU⟩ rfl rfl bU;rw[i6,show((0:Nat):Int)=0 from rfl]at dx;have hM:=bt.fold sp aR;obtain⟨m1,p⟩:∃m1,l.foldl gX {m with gD:=J}=m1:=⟨_,rfl⟩;rw[p]at dx hM hk;simp only[NS,Cy,cC]at dx;rw[dx];have Ok:∀H:ab,H[2]?=j (.aE 5 0 0 (a7 m1.G))→H[3]?=j (.aE 5 0 0 (a7 m1.O))→f' H (aW m2 2 0 3 0)=j (xT m2,(H.set 2 (.fd 0 (cg m2.G))).set 3 (.fd 0 (cg m2.O))):=by subst hk;intro H b9 c_;exact akL rfl b9 c_ bU hM.G.1 hM.O.1
 have aS1:({m1 with gD:=J,bn:=⟨q.bO,q.cd,q.ca⟩}:M)=m2:=hk;simp(disch:=omega)only[aw,simprocAttr,H0,oy,rJ,b1,b7,bV,T',tH];rw[aS1,Ok _ rfl rfl];simp(disch:=omega)only[aw,simprocAttr,H0,oy,rJ,tH];exact be
def FW{m:M}(hw:WP m)(s:bm)(aU:s.length<5000)(H:ab):cF 8 [.agg (iQ m),.i (.str s)] H (.agg (iQ (iH m s))):=hF rfl rfl rfl (pO hw s aU)
def NT(r c:Int)(I:Bool):k2 prog .neq 30 (.agg [.i (.v (.int .i64 r)),.i (.v (.int .i64 c)),.i (.v (.bool I))]) (.agg [.i (.v (.int .i64 r)),.i (.v (.int .i64 c)),.i (.v (.bool I))])=j (.i (.v (.bool J))):=by rw[LC];simp[j0,Bz,Bx,By,p9,qX,p8,sT,ay.bool]
def NU(a b c d e f g h:Bool)(x y z:Int):k2 prog .neq 37 (.agg [.i (.v (.bool a)),.i (.v (.bool b)),.i (.v (.bool c)),.i (.v (.bool d)),.i (.v (.bool e)),.i (.v (.bool f)),.i (.v (.bool g)),.i (.v (.bool h)),.i (.v (.int .u8 x)),.i (.v (.int .u8 y)),.i (.v (.int .i64 z))]) (.agg [.i (.v (.bool a)),.i (.v (.bool b)),.i (.v (.bool c)),.i (.v (.bool d)),.i (.v (.bool e)),.i (.v (.bool f)),.i (.v (.bool g)),.i (.v (.bool h)),.i (.v (.int .u8 x)),.i (.v (.int .u8 y)),.i (.v (.int .i64 z))])=j (.i (.v (.bool J))):=by rw[LC];simp[j0,Bz,Bx,By,p9,qX,p8,sT,ay.bool]
structure eE (h:fO→fO):Prop where
 w:∀c,(h c).w=c.w
 a:∀c,(h c).a=c.a
 i:∀c,h (h c)=h c
 b:∀bd,h (ry bd)=ry bd
 c:∀a,h (cont a)=cont a
 m:∀r a c,h (mi r a (h c))=h (mi r a c)
section
variable{h:fO→fO}(aV:eE h)
include aV
def eE.Cz(l:c1):(l.map h).map h=l.map h:=by
 rw[vC];exact yO λ c _=>aV.i c
def eE.rC(n:Nat)(bd:Int):(ea n bd).map h=ea n bd:=by simp[ea,aV.b]
def eE.qK(l:c1)(k:Nat):(dw l k).map h=dw (l.map h) k:=by
 unfold dw;rw[fQ];cases e:l[k]? with
 |none=>rfl
 |some c=>
  simp only[eH,aV.w,aV.a];split
  ·simp only[tC,aV.b]
  ·rfl
def eE.bo(l:c1)(c:Nat):∀n,(jm l c n).map h=jm (l.map h) c n
 |0=>rfl
 |n+1=>by rw[jm,jm,aV.qK,eE.bo l c n]
def eE.fix(l:c1):(mV l).map h=mV (l.map h):=by
 unfold mV;rw[fQ,mE];cases e:l[l.length-1]? with
 |none=>rfl
 |some c=>
  simp only[eH,aV.w,aV.a];split
  ·simp only[tC,aV.b]
  ·rfl
def eE.ins(l:c1)(c n:Nat)(a:eA):(nG l c n a).map h=nG (l.map h) c n a:=by unfold nG BX;rw[aV.fix];simp only[pW,vU,tD,aV.qK,aV.rC,mE]
def eE.del(l:c1)(c n:Nat)(a:eA):(pZ l c n a).map h=pZ (l.map h) c n a:=by unfold pZ;simp only[pW,vU,tD,aV.qK,aV.rC,mE]
def eE.era(l:c1)(I q:Nat)(a:eA):(qI l I q a).map h=qI (l.map h) I q a:=by
 unfold qI;split
 ·rfl
 ·simp only[pW,vU,tD,aV.qK,aV.rC]
def eE.put(l:c1)(c:Nat)(t:bX)(w:Int)(a:eA):(mU l c t w a).map h=(mU (l.map h) c t w a).map h:=by unfold mU;split<;>simp only[tC,aV.bo,aV.Cz]
def eT(h:fO→fO)(g:cQ):cQ:=g.map (List.map h)
def eE.eF(g:cQ):eT h (eT h g)=eT h g:=by
 unfold eT;rw[vC];exact yO λ l _=>aV.Cz l
def eE.akO(w:Nat)(bd:Int)(I q:Nat)(g:cQ):eT h (ja w bd I q g)=ja w bd I q (eT h g):=by simp only[eT,ja,pW,vU,tD,List.map_replicate,aV.rC]
def eE.up(w:Nat)(bd:Int)(I q k:Nat)(g:cQ):eT h (sG w bd I q k g)=sG w bd I q k (eT h g):=by simp only[eT,sG,pW,vU,tD,List.map_replicate,aV.rC]
def eE.aS2(w:Nat)(bd:Int)(I q k:Nat)(g:cQ):eT h (sH w bd I q k g)=sH w bd I q k (eT h g):=by simp only[eT,sH,pW,vU,tD,List.map_replicate,aV.rC]
def eE.zS(w:Nat)(bd:Int)(I q:Nat)(k:Int)(g:cQ):eT h (rB w bd I q k g)=rB w bd I q k (eT h g):=by
 unfold rB;split
 ·exact aV.up ..
 ·exact aV.aS2 ..
def akP(I:Nat)(k:Int)(g:cQ):eT h (jX I k g)=jX I k (eT h g):=by
 unfold jX sI eT;split
 ·simp only[vU,tD]
 ·rfl
def akQ(b al:cQ):eT h (uK b al)=uK (eT h b) (eT h al):=by simp only[uK,vV,eT,tD,pW,dK,mE]
def cT(h:fO→fO)(m:M):M:={m with G:=eT h m.G,O:=eT h m.O,back:=eT h m.back,bn:=⟨0,[],[]⟩,gD:=J}
def lr{x y:M}(p:eT h x.G=eT h y.G)(U:eT h x.O=eT h y.O)(az:eT h x.back=eT h y.back)(bh:(x.w,x.h,x.aJ,x.b3,x.a,x.md,x.cW,x.ck,x.c9,x.eX,x.dL)=(y.w,y.h,y.aJ,y.b3,y.a,y.md,y.cW,y.ck,y.c9,y.eX,y.dL)):cT h x=cT h y:=by obtain⟨⟩:=x;obtain⟨⟩:=y;simp only[bM]at bh;simp only[cT]at*;simp[p,U,az,bh]
def eU(h:fO→fO)(f:M→M):Prop:=∀m,cT h (f m)=cT h (f (cT h m))
def eU.comp{f g:M→M}(aN:eU h f)(aR:eU h g):eU h λ m=>f (g m):=λ m=>by rw[aN (g m),aR m,←aN]
def dU{c:Prop} [Decidable c]{a b b_ b0:M}(p:cT h a=cT h b_)(U:cT h b=cT h b0):cT h (if c then a else b)=cT h (if c then b_ else b0):=by split<;>assumption
def CA(m:M):fL (cT h m)=(fL m).map h:=by show(eT h m.G).getD m.aJ.r.toNat []=(m.G.getD m.aJ.r.toNat []).map h;simp only[eT,pN,fQ];cases m.G[m.aJ.r.toNat]?<;>rfl
def FX(g:cQ)(k:Nat)(r:c1):eT h (g.set k r)=(eT h g).set k (r.map h):=by simp[eT,tC]
include aV
def eE.mY:eU h λ m=>m:=λ m=>lr (aV.eF _).symm (aV.eF _).symm (aV.eF _).symm rfl
def eE.cells{f:M→M}(p:∀m,(f m).G=m.G∧(f m).O=m.O∧(f m).back=m.back)(U:∀m,((f m).w,(f m).h,(f m).aJ,(f m).b3,(f m).a,(f m).md,(f m).cW,(f m).ck,(f m).c9,(f m).eX,(f m).dL)=((f (cT h m)).w,(f (cT h m)).h,(f (cT h m)).aJ,(f (cT h m)).b3,(f (cT h m)).a,(f (cT h m)).md,(f (cT h m)).cW,(f (cT h m)).ck,(f (cT h m)).c9,(f (cT h m)).eX,(f (cT h m)).dL)):eU h f:=λ m=>by obtain⟨hD,a2,a3⟩:=p m;obtain⟨fm,dZ,KG⟩:=p (cT h m);exact lr (by rw[hD,fm];exact(aV.eF _).symm) (by rw[a2,dZ];exact(aV.eF _).symm) (by rw[a3,KG];exact(aV.eF _).symm) (U m)
def eE.vY{f:M→c1}{u:M→gG}(p:∀m,(f m).map h=(f (cT h m)).map h)(U:∀m,u m=u (cT h m)):eU h λ m=>{m with aJ:=u m,G:=m.G.set m.aJ.r.toNat (f m)}:=λ m=>by
 refine lr ?_ (aV.eF _).symm (aV.eF _).symm ?_
 ·show eT h (m.G.set m.aJ.r.toNat (f m))=eT h ((eT h m.G).set m.aJ.r.toNat (f (cT h m)));rw[FX,FX,aV.eF,p]
 ·show(m.w,m.h,u m,m.b3,m.a,m.md,m.cW,m.ck,m.c9,m.eX,m.dL)=(m.w,m.h,u (cT h m),m.b3,m.a,m.md,m.cW,m.ck,m.c9,m.eX,m.dL);rw[U]
def eE.xK(I q:Nat):eU h λ m=>zU m I q:=
 aV.vY (f:=λ m=>qI (fL m) I q m.a) (u:=λ m=>{m.aJ with I:=J}) (λ m=>by rw[CA,aV.era,aV.era,aV.Cz];rfl) (λ _=>rfl)
def eE.IU(ins:Bool)(n:Nat):eU h λ m=>tF m ins n:=
 aV.vY (f:=λ m=>if ins=ah then nG (fL m) m.aJ.c.toNat n m.a else pZ (fL m) m.aJ.c.toNat n m.a) (u:=λ m=>{m.aJ with I:=J}) (λ m=>by
  split
  ·rw[CA,aV.ins,aV.ins,aV.Cz];rfl
  ·rw[CA,aV.del,aV.del,aV.Cz];rfl) (λ _=>rfl)
def eE.uO(n:Int):eU h λ m=>uO m n:=λ m=>by
 refine dU ?_ (dU ?_ (dU ?_ (aV.mY m)))
 ·exact aV.xK m.aJ.c.toNat m.w m
 ·exact aV.xK 0 (m.aJ.c.toNat+1) m
 ·exact aV.xK 0 m.w m
def eE.Nu{f:M→cQ}(p:∀m,eT h (f m)=eT h (f (cT h m))):eU h λ m=>{m with G:=f m}:=λ m=>lr (p m) (aV.eF _).symm (aV.eF _).symm rfl
def eE.rows(I q:Nat):eU h λ m=>B' m I q:=aV.Nu (f:=λ m=>ja m.w m.a.bd I q m.G) λ m=>by show eT h (ja m.w m.a.bd I q m.G)=eT h (ja m.w m.a.bd I q (eT h m.G));rw[aV.akO,aV.akO,aV.eF]
def eE.vZ(n:Int):eU h λ m=>vZ m n:=λ m=>by
 refine dU ?_ (dU ?_ (dU ?_ (dU ?_ (aV.mY m))))
 ·exact aV.rows (m.aJ.r.toNat+1) m.h m
 ·exact aV.rows 0 m.aJ.r.toNat m
 ·exact aV.rows 0 m.h m
 ·exact lr (aV.eF _).symm (aV.eF _).symm rfl rfl
def eE.zV(n:Int):eU h λ m=>zV m n:=eU.comp (aV.uO n) (aV.vZ n)
def eE.lT(k:Bool){fY iw:M→Int}(p:∀m,fY m=fY (cT h m))(U:∀m,iw m=iw (cT h m)):eU h λ m=>lT m (fY m) (iw m) k:=λ m=>by
 refine lr ?_ (aV.eF _).symm ?_ rfl
 ·show eT h (rB m.w m.a.bd (fY m).toNat m.ck.toNat (e' (iw m) (-(m.ck-fY m)) (m.ck-fY m)) m.G)=eT h (rB m.w m.a.bd (fY (cT h m)).toNat m.ck.toNat (e' (iw (cT h m)) (-(m.ck-fY (cT h m))) (m.ck-fY (cT h m))) (eT h m.G));rw[←p,←U,aV.zS,aV.zS,aV.eF]
 ·show eT h (if k &&(decide (m.cW=0) &&!m.md.gq)then uK m.back (jX (fY m).toNat (e' (iw m) (-(m.ck-fY m)) (m.ck-fY m)) m.G)else m.back)=eT h (if k &&(decide (m.cW=0) &&!m.md.gq)then uK (eT h m.back) (jX (fY (cT h m)).toNat (e' (iw (cT h m)) (-(m.ck-fY (cT h m))) (m.ck-fY (cT h m))) (eT h m.G))else eT h m.back);rw[←p,←U];split
  ·rw[akQ,akQ,akP,akP,aV.eF,aV.eF]
  ·exact(aV.eF _).symm
def eE.aJ{u:M→gG}(p:∀m,u m=u (cT h m)):eU h λ m=>{m with aJ:=u m}:=λ m=>lr (aV.eF _).symm (aV.eF _).symm (aV.eF _).symm (by
 show(m.w,m.h,u m,m.b3,m.a,m.md,m.cW,m.ck,m.c9,m.eX,m.dL)=(m.w,m.h,u (cT h m),m.b3,m.a,m.md,m.cW,m.ck,m.c9,m.eX,m.dL);rw[p])
def eE.feed:eU h mh:=λ m=>by
 refine dU ?_ ?_
 ·exact(eU.comp (aV.lT ah (fY:=λ m=>m.cW) (iw:=λ _=>1) (λ _=>rfl) (λ _=>rfl)) (aV.aJ (u:=λ m=>(p0 m.aJ (cx m)).1) λ _=>rfl)) m
 ·exact aV.aJ (u:=λ m=>(p0 m.aJ (cx m)).1) (λ _=>rfl) m
def eE.rev:eU h I6:=λ m=>by
 refine dU ?_ ?_
 ·exact(eU.comp (aV.lT J (fY:=λ m=>m.cW) (iw:=λ _=>-1) (λ _=>rfl) (λ _=>rfl)) (aV.aJ (u:=λ m=>(sL m.aJ (cx m)).1) λ _=>rfl)) m
 ·exact aV.aJ (u:=λ m=>(sL m.aJ (cx m)).1) (λ _=>rfl) m
def eE.mX:eU h n7:=aV.aJ (u:=λ m=>{m.aJ with c:=0,I:=J}) λ _=>rfl
def eE.Jf(n:Int):eU h λ m=>v8 m n:=λ m=>by refine dU ?_ (aV.mY m);exact(eU.comp aV.mX (aV.lT J (fY:=λ m=>m.aJ.r) (iw:=λ _=>n) (λ _=>rfl) (λ _=>rfl))) m
def eE.Uy(f:lh→Int→Int):∀k,eU h λ m=>oF f k m
 |0=>aV.mY
 |k+1=>λ m=>(eU.comp (eE.Uy f k) (aV.aJ (u:=λ m=>{m.aJ with c:=f m.c9 m.aJ.c,I:=J}) λ _=>rfl)) m
def eE.TM(n:Int):eU h λ m=>Ca m n:=λ m=>by
 refine dU ?_ (dU ?_ (aV.mY m))
 ·exact lr (aV.eF _).symm (aV.eF _).symm (aV.eF _).symm rfl
 ·exact lr (aV.eF _).symm (aV.eF _).symm (aV.eF _).symm rfl
def eE.TO(n:Int):eU h λ m=>Cb m n:=λ m=>by refine dU ?_ (aV.mY m);exact lr (aV.eF _).symm (aV.eF _).symm (aV.eF _).symm rfl
def eE.TQ(l:bX):eU h λ m=>Ft m l:=λ m=>by refine dU ?_ (aV.mY m);exact lr (aV.eF _).symm (aV.eF _).symm (aV.eF _).symm rfl
def eE.I5:eU h FI:=λ m=>lr (aV.eF _).symm (aV.eF _).symm (aV.eF _).symm rfl
def eE.FK:eU h zZ:=λ m=>lr (aV.eF _).symm (aV.eF _).symm (aV.eF _).symm rfl
def eE.md{u:M→li}(p:∀m,u m=u (cT h m)):eU h λ m=>{m with md:=u m}:=λ m=>lr (aV.eF _).symm (aV.eF _).symm (aV.eF _).symm (by
 show(m.w,m.h,m.aJ,m.b3,m.a,u m,m.cW,m.ck,m.c9,m.eX,m.dL)=(m.w,m.h,m.aJ,m.b3,m.a,u (cT h m),m.cW,m.ck,m.c9,m.eX,m.dL);rw[p])
end
section
variable{h:fO→fO}(aV:eE h)
include aV
def eE.jd:eU h I4:=λ m=>dU (aV.mX m) (aV.mY m)
def eE.T2(c:Int):eU h λ m=>FF m c:=λ m=>by
 refine dU ?_ (dU ?_ (dU ?_ (dU ?_ (dU ?_ (dU ?_ (aV.mY m))))))
 ·exact aV.aJ (u:=λ m=>n2 m.aJ (-1) (cx m)) (λ _=>rfl) m
 ·exact aV.aJ (u:=λ m=>{m.aJ with c:=pc m.c9 m.aJ.c,I:=J}) (λ _=>rfl) m
 ·exact(eU.comp aV.jd aV.feed) m
 ·exact aV.mX m
 ·exact aV.md (u:=λ m=>{m.md with ef:=1}) (λ _=>rfl) m
 ·exact aV.md (u:=λ m=>{m.md with ef:=0}) (λ _=>rfl) m
def eE.getD(l:c1)(k:Nat)(a:eA):(l.map h).getD k (cont a)=h (l.getD k (cont a)):=by
 simp only[pN,fQ];cases l[k]? with
 |none=>exact(aV.c a).symm
 |some c=>rfl
def eE.h5(m:M):Go.VI.h5 (cT h m)=Go.VI.h5 m:=by unfold Go.VI.h5;rw[CA];show(if 0≤iG m∧(((fL m).map h).getD (iG m).toNat (cont m.a)).w=0 then iG m-1 else iG m)=_;rw[aV.getD,aV.w]
def eE.mark(r:Int):eU h λ m=>rE m r:=λ m=>by show cT h (rE m r)=cT h (rE (cT h m) r);unfold rE;rw[aV.h5 m];refine dU (aV.mY m) ?_;refine lr ?_ (aV.eF _).symm (aV.eF _).symm rfl;show eT h (m.G.set m.aJ.r.toNat ((fL m).set (Go.VI.h5 m).toNat (mi r m.a ((fL m).getD (Go.VI.h5 m).toNat (cont m.a)))))=eT h ((eT h m.G).set m.aJ.r.toNat ((fL (cT h m)).set (Go.VI.h5 m).toNat (mi r m.a ((fL (cT h m)).getD (Go.VI.h5 m).toNat (cont m.a)))));rw[CA,aV.getD,FX,FX,aV.eF,tC,tC,aV.Cz,aV.m]
def eE.zX:eU h oG:=λ m=>dU ((eU.comp aV.feed aV.mX) m) (aV.mY m)
def eE.uR:eU h uR:=aV.aJ (u:=λ m=>{m.aJ with I:=J}) λ _=>rfl
def eE.iP(w:Int):eU h λ m=>rF m w:=λ m=>by refine dU (dU ((eU.comp aV.feed aV.mX) m) ?_) (aV.mY m);exact aV.aJ (u:=λ m=>{m.aJ with c:=m.w-w,I:=J}) (λ _=>rfl) m
def eE.NB(w:Int):eU h λ m=>rG m w:=λ m=>by refine dU ?_ (aV.mY m);exact aV.vY (f:=λ m=>nG (fL m) m.aJ.c.toNat w.toNat m.a) (u:=λ m=>m.aJ) (λ m=>by rw[CA,aV.ins,aV.ins,aV.Cz];rfl) (λ _=>rfl) m
def eE.TW(r w:Int):eU h λ m=>uQ m r w:=
 aV.vY (f:=λ m=>mU (fL m) m.aJ.c.toNat [r] w m.a) (u:=λ m=>m.aJ) (λ m=>by rw[CA,aV.put];rfl) (λ _=>rfl)
def eE.I0(w:Int):eU h λ m=>Cf m w:=λ m=>by
 refine dU ?_ ?_
 ·exact aV.aJ (u:=λ m=>{m.aJ with c:=m.w-1,I:=m.md.wr}) (λ _=>rfl) m
 ·exact aV.aJ (u:=λ m=>{m.aJ with c:=m.aJ.c+w}) (λ _=>rfl) m
def eE.I1(r:Int):eU h λ m=>qP m r:=λ m=>by refine dU (aV.mY m) (dU (aV.mark r m) ?_);exact(eU.comp (aV.I0 (wid r)) (eU.comp (aV.TW r (wid r)) (eU.comp (aV.NB (wid r)) (eU.comp (aV.iP (wid r)) (eU.comp aV.uR aV.zX))))) m
def eE.T_(s:bm)(c:Int):eU h λ m=>FL m s c:=λ m=>by
 refine dU ?_ (dU (aV.I5 m) (dU (aV.FK m) (dU ((eU.comp aV.feed aV.mX) m) (dU (aV.feed m) (dU (aV.rev m) (dU ?_ (dU ?_ (aV.mY m))))))))
 ·exact aV.md (u:=λ m=>qN m.md s c) (λ _=>rfl) m
 ·exact lr (aV.eF _).symm (aV.eF _).symm (aV.eF _).symm rfl
 ·exact lr rfl rfl rfl rfl
def eE.mod(I n:Int)(on:Bool):eU h λ m=>FJ m I n on:=λ m=>by
 refine dU ?_ (dU ?_ (dU ?_ (dU (dU ?_ ?_) ?_)))
 ·exact aV.md (u:=λ m=>hP I on m.md n) (λ _=>rfl) m
 ·exact lr (aV.eF _).symm (aV.eF _).symm (aV.eF _).symm rfl
 ·exact aV.md (u:=λ m=>hP I on m.md n) (λ _=>rfl) m
 ·exact lr rfl (aV.eF _).symm (aV.eF _).symm rfl
 ·exact lr (aV.eF _).symm (aV.eF _).symm (aV.eF _).symm rfl
 ·exact lr (aV.eF _).symm (aV.eF _).symm (aV.eF _).symm rfl
def eE.v'(v:Int)(on:Bool):∀l,eU h λ m=>v' m v on l
 |[]=>aV.mY
 |n::l=>eU.comp (eE.v' v on l) (aV.mod v n on)
def eE.Ui(c:Int)(l:bX):eU h λ m=>z7 m c l:=λ m=>by
 have BY:∀n,cT h {m with aJ:=jn m.aJ n (cx m)}=cT h {cT h m with aJ:=jn (cT h m).aJ n (cx (cT h m))}:=λ n=>aV.aJ (u:=λ m=>jn m.aJ n (cx m)) (λ _=>rfl) m
 have a1:∀n,cT h {m with aJ:=n2 m.aJ n (cx m)}=cT h {cT h m with aJ:=n2 (cT h m).aJ n (cx (cT h m))}:=λ n=>aV.aJ (u:=λ m=>n2 m.aJ n (cx m)) (λ _=>rfl) m
 have C:∀n,cT h (Cp m n)=cT h (Cp (cT h m) n):=λ n=>aV.aJ (u:=λ m=>zM ⟨m.aJ.r,n-1,J⟩ (cx m)) (λ _=>rfl) m
 have T:=aV.aJ (u:=λ m=>⟨toR (b8 l 0 1) (cx m),lS (b8 l 1 1) (cx m),J⟩) (λ _=>rfl) m;refine dU (aV.IU ah _ m)<|dU (BY _)<|dU (BY _)<|dU (a1 _)<|dU (a1 _)<|dU ?_<|dU ?_<|dU (C _)<|dU T<|dU (aV.Uy _ _ m)<|dU (aV.zV _ m)<|dU (aV.uO _ m)<|dU (aV.Jf _ m)<|dU (aV.Jf _ m)<|dU (aV.IU J _ m)<|dU ?_<|dU ?_<|dU ?_<|dU (aV.Uy _ _ m)<|dU (C _)<|dU (a1 _)<|dU ?_<|dU (BY _)<|dU T<|dU (aV.TM _ m)<|dU (aV.TO _ m)<|dU (aV.TQ l m)<|dU (aV.I5 m)<|dU (aV.FK m) (aV.mY m)
 ·exact(eU.comp aV.mX (aV.aJ (u:=λ m=>jn m.aJ (0-b8 l 0 1) (cx m)) λ _=>rfl)) m
 ·exact(eU.comp aV.mX (aV.aJ (u:=λ m=>jn m.aJ (b8 l 0 1) (cx m)) λ _=>rfl)) m
 ·exact aV.lT ah (fY:=λ m=>m.cW) (iw:=λ _=>b8 l 0 1) (λ _=>rfl) (λ _=>rfl) m
 ·exact aV.lT J (fY:=λ m=>m.cW) (iw:=λ _=>0-b8 l 0 1) (λ _=>rfl) (λ _=>rfl) m
 ·exact aV.xK m.aJ.c.toNat (min (m.aJ.c+b8 l 0 1) m.w).toNat m
 ·exact aV.aJ (u:=λ m=>⟨toR (b8 l 0 1) (cx m),lS (m.aJ.c+1) (cx m),J⟩) (λ _=>rfl) m
def eE.seq(s:bm)(v:Int)(bn:bX)(c:Int):eU h λ m=>FR m s v bn c:=λ m=>by refine dU (aV.mY m) (dU (aV.v' v _ bn m) (dU (aV.mY m) (dU ?_ (aV.Ui c bn m))));exact lr (aV.eF _).symm (aV.eF _).symm (aV.eF _).symm rfl
def eE.gX(e:ih):eU h λ m=>gX m e:=λ m=>by refine dU (aV.I1 _ m) (dU (aV.T2 _ m) (dU (aV.T_ _ _ m) (dU (aV.seq _ _ _ _ m) (dU ?_ (aV.mY m)))));exact lr (aV.eF _).symm (aV.eF _).symm (aV.eF _).symm rfl
def eE.fold:∀(l:gm),eU h λ m=>l.foldl Go.VI.gX m
 |[]=>aV.mY
 |e::l=>eU.comp (eE.fold l) (aV.gX e)
def eE.p'(l:gm){m b6:M}(e:cT h m=cT h b6):cT h (l.foldl Go.VI.gX m)=cT h (l.foldl Go.VI.gX b6):=by rw[aV.fold l m,aV.fold l b6,e]
end
def NV:eE id:=⟨λ _=>rfl,λ _=>rfl,λ _=>rfl,λ _=>rfl,λ _=>rfl,λ _ _ _=>rfl⟩
def aS3(g:cQ):eT id g=g:=by simp[eT]
def aS4{m b6:M}(e:cT id m=cT id b6)(ax:m.bn=b6.bn)(an:m.gD=b6.gD):m=b6:=by obtain⟨⟩:=m;obtain⟨⟩:=b6;simp only at ax an;simp only[cT,aS3,M.mk.injEq]at e;simp[e,ax,an]
def xU(h:fO→fO)(aV:eE h)(m:M)(s:bm):cT h (iH m s)=cT h ((h1 m.bn s).2.foldl gX m):=
 (show cT h (iH m s)=cT h ((h1 m.bn s).2.foldl gX {m with gD:=J})from rfl).trans (aV.p' _ rfl)
def akR(m:M)(a b:bm):iH (iH m a) b=iH m (a++b):=by
 have aN:=aQS m.bn a b;refine aS4 ?_ ?_ rfl
 ·rw[xU id NV,xU id NV,aN];show cT id ((h1 (h1 m.bn a).1 b).2.foldl gX (iH m a))=_;rw[List.foldl_append];exact NV.p' _ (xU id NV m a)
 ·show(h1 (h1 m.bn a).1 b).1=(h1 m.bn (a++b)).1;rw[aN]
def WP.new{w h:Nat}(hw:1≤w∧w≤132)(aV:1≤h∧h≤60):WP (jY w h):=⟨bt.new hw aV,rfl⟩
def akS{m:M}{a b:Nat}{H:ab}(hm:bt m)(an:m.gD=J)(b9:H[a]?=j (.aE 5 0 0 (a7 m.G)))(c_:H[b]?=j (.aE 5 0 0 (a7 m.O)))(dc:a≠b):f' H (aW m a 0 b 0)=j (xT m,(H.set a (.fd 0 (cg m.G))).set b (.fd 0 (cg m.O))):=akL an b9 c_ dc hm.G.1 hm.O.1
def akT(w h:Nat)(hw:1≤w∧w≤132)(aV:1≤h∧h≤60)(H:ab):cE 7 [w,h] H (.bl [.agg (aW (jY w h) H.length 0 (H.length+1) 0),↑(0:Int)]) (H++[.aE 5 0 0 (a7 (jY w h).G),.aE 5 0 0 (a7 (jY w h).O)]):=ajy w h hw aV H
def akU{m:M}(h:m.gD=J):({m with gD:=J}:M)=m:=by obtain⟨⟩:=m;simp only at h;subst h;rfl
def aS5:(iH (iH (jY 3 1) [97,27,91]) [67,98]).G=[[⟨[97],1,⟨-1,-1,0⟩⟩,⟨[32],1,⟨-1,-1,0⟩⟩,⟨[98],1,⟨-1,-1,0⟩⟩]]:=aK
def NW(H:ab):cF 6 [] H ah:=cI (by
 have ar:=λ H=>akT 3 1 bU bU H
 rw[show((3:Nat):Int)=3 from rfl,show((1:Nat):Int)=1 from rfl]at ar;have hw:=WP.new (w:=3) (h:=1) bU bU;have aR:=aS5;have an:(jY 3 1).gD=J:=rfl;obtain⟨N,ot⟩:∃N,jY 3 1=N:=⟨_,rfl⟩;rw[ot]at ar hw aR an;have aM:=λ H=>FW hw [97,27,91] bU H
 have uS:=hw.write [97,27,91];obtain⟨Uz,ID⟩:∃Uz,iH N [97,27,91]=Uz:=⟨_,rfl⟩;rw[ID]at aM uS aR;have bZ:=λ H=>FW uS [67,98] bU H
 obtain⟨UA,aS6⟩:∃UA,iH Uz [67,98]=UA:=⟨_,rfl⟩;rw[aS6]at bZ aR;have akV:cg UA.G=[[.af 5 [[.str [97],.v (.int .i64 1),.v (.int .i64 (-1)),.v (.int .i64 (-1)),.v (.int .i64 0)],[.str [32],.v (.int .i64 1),.v (.int .i64 (-1)),.v (.int .i64 (-1)),.v (.int .i64 0)],[.str [98],.v (.int .i64 1),.v (.int .i64 (-1)),.v (.int .i64 (-1)),.v (.int .i64 0)]] J]]:=by rw[aR];rfl
 simp only[iQ]at aM bZ;refine bE afj ?_;simp(disch:=omega)only[aw,simprocAttr,afk,ej,dd,rJ,b1,b7,bV,tH,ar,aM,bZ,akV,dC];rw[akU an,akS hw.1 an rfl rfl bU];simp(disch:=omega)only[aw,simprocAttr,afk,ej,dd,rJ,b1,b7,bV,tH,ar,aM,bZ,akV,dC];exact be)
def UB(m:M):∀a∈iQ m,∃x,a=.i x:=by intro a aF;rw[←akK]at aF;obtain⟨x,_,rfl⟩:=D0.1 aF;exact⟨x,rfl⟩
def hid(c:fO):fO:=if lo c.a=ah then{c with t:=cH c.t.length 42}else c
def FY{c:fO}(h:¬lo c.a=ah):hid c=c:=if_neg h
def CB{c:fO}(h:lo c.a=ah):hid c={c with t:=cH c.t.length 42}:=if_pos h
def FZ(c:fO):(hid c).w=c.w∧(hid c).a=c.a∧(hid c).t.length=c.t.length:=by
 by_cases h:lo c.a=ah
 ·rw[CB h];exact⟨rfl,rfl,mG⟩
 ·rw[FY h];exact⟨rfl,rfl,rfl⟩
def UC(c:fO):hid (hid c)=hid c:=by
 by_cases h:lo c.a=ah
 ·rw[CB (c:=hid c) (by rw[(FZ c).2.1];exact h),CB h];simp
 ·rw[FY (c:=hid c) (by rw[(FZ c).2.1];exact h)]
def qW:eE hid where
 w c:=(FZ c).1
 a c:=(FZ c).2.1
 i:=UC
 b bd:=FY (by show¬(!decide (Ce 0 64=0))=ah;decide)
 c a:=by
  by_cases h:lo a=ah
  ·rw[CB (c:=cont a) h];rfl
  ·exact FY (c:=cont a) h
 m r a c:=by
  obtain⟨p,U,az⟩:=FZ c;unfold mi;rw[U,az];split
  ·exact UC c
  ·split
   ·by_cases h:lo c.a=ah
    ·rw[CB (c:=⟨(hid c).t++[r],(hid c).w,c.a⟩) h,CB (c:=⟨c.t++[r],c.w,c.a⟩) h];simp only[dK,p,az]
    ·rw[FY h]
   ·exact UC c
def aS7{a:eA}(aj:lo a=ah)(l:c1)(k:Nat)(r hq:Int):(mU l k [r] 1 a).map hid=(mU l k [hq] 1 a).map hid:=by
 have e:∀r,hid ⟨[r],1,a⟩=⟨[42],1,a⟩:=λ r=>CB (c:=⟨[r],1,a⟩) aj
 unfold mU;rw[if_neg bU,if_neg bU,tC,tC,e,e]
def akW(m:M):(mh m).a=m.a:=by unfold mh;split<;>rfl
def akX(m:M):(oG m).a=m.a:=by
 unfold oG;split
 ·exact akW _
 ·rfl
def akY(m:M)(w:Int):(rF m w).a=m.a:=by
 unfold rF;split
 ·split
  ·exact akW _
  ·rfl
 ·rfl
def akZ(m:M)(w:Int):(rG m w).a=m.a:=by unfold rG;split<;>rfl
def aS8(m:M)(w:Int):(Cf m w).a=m.a:=by unfold Cf;split<;>rfl
def aS9(m:M)(r:Int):(qP m r).a=m.a:=by
 unfold qP;split
 ·rfl
 ·split
  ·unfold rE;split<;>rfl
  ·rw[aS8];show(rG _ _).a=_;rw[akZ,akY];exact akX m
def aS_{m:M}(aj:lo m.a=ah){r hq:Int}(p:wid r=1)(U:wid hq=1):cT hid (qP m r)=cT hid (qP m hq):=by
 unfold qP;rw[p,U];split
 ·rfl
 ·rw[if_neg bU,if_neg bU];have aF:(rG (rF (uR (oG m)) 1) 1).a=m.a:=by rw[akZ,akY];exact akX m
  generalize rG (rF (uR (oG m)) 1) 1=X at*;have e:cT hid (uQ X r 1)=cT hid (uQ X hq 1):=by refine lr ?_ rfl rfl rfl;show eT hid (X.G.set X.aJ.r.toNat (mU (fL X) X.aJ.c.toNat [r] 1 X.a))=eT hid (X.G.set X.aJ.r.toNat (mU (fL X) X.aJ.c.toNat [hq] 1 X.a));rw[FX,FX,aS7 (by rw[aF];exact aj)]
  rw[qW.I0 1 (uQ X r 1),qW.I0 1 (uQ X hq 1),e]
def aS':∀n:Fin 95,wid ((n.val:Int)+32)=1:=by decide+kernel
def aTa:∀n:Fin 32,wid (Fz.getD n.val 0)=1:=by decide+kernel
def wc(s:bm):Prop:=∀b∈s,32≤b.toNat∧b.toNat<127
def ak0(d:li){n:Nat}(h:32≤n∧n<127):wid (mapM d n)=1:=by
 unfold mapM;split
 ·have:=aS' ⟨n-32,aa⟩;rwa [show((n-32:Nat):Int)+32=n by omega]at this
 next U=>have:=aTa ⟨((n:Int)-95).toNat,aa⟩;exact this
def ak1(m:M)(b:UInt8):gX m (n0 b.toNat)=qP m (mapM m.md b.toNat):=rfl
def aTb{m b6:M}{b b0:UInt8}(aj:lo m.a=ah)(e:cT hid m=cT hid b6)(p:32≤b.toNat∧b.toNat<127)(U:32≤b0.toNat∧b0.toNat<127):cT hid (gX m (n0 b.toNat))=cT hid (gX b6 (n0 b0.toNat))∧lo (gX m (n0 b.toNat)).a=ah:=by
 have hm:b6.md=m.md:=(congrArg M.md e).symm;have bK:=aS_ aj (ak0 m.md p) (ak0 m.md U);have bJ:∀r,cT hid (qP m r)=cT hid (qP b6 r):=λ r=>(qW.I1 r m).trans ((congrArg (λ x=>cT hid (qP x r)) e).trans (qW.I1 r b6).symm)
 rw[ak1 m,ak1 b6,hm,aS9 m];exact⟨bK.trans (bJ _),aj⟩
def Ab(s:bm):gm:=s.map λ b=>n0 b.toNat
def ak2(b:UInt8)(s:bm):Ab (b::s)=n0 b.toNat::Ab s:=rfl
def aTc(s:bm):∀(dB:bm) (m b6:M),s.length=dB.length→wc s→wc dB→lo m.a=ah→cT hid m=cT hid b6→cT hid ((Ab s).foldl gX m)=cT hid ((Ab dB).foldl gX b6):=by
 induction s with
 |nil=>intro dB m b6 ao _ _ _ e;obtain rfl:dB=[]:=pq.1 (by simpa using ao.symm);exact e
 |cons b s a'=>
  intro dB m b6 ao p U aj e;cases dB with
  |nil=>cases ao
  |cons b0 dB=>obtain⟨cL,e4⟩:=aTb aj e (p b Fq) (U b0 Fq);have:=a' dB _ _ (by simpa using ao) (λ x ap=>p x (vk _ ap)) (λ x ap=>U x (vk _ ap)) e4 cL;rw[ak2,ak2,vd,vd];exact this
def aTd{I:dz}(h:gP I=ah):(hz (hz I 27).1 91).1=⟨2,[],[]⟩:=by
 obtain⟨bO,cd,ca⟩:=I;have e:bO=0∨bO=1∨bO=2∨bO=3∨bO=4:=by
  by_cases a8:bO=0
  ·exact .inl a8
  ·by_cases p:bO=1
   ·exact .inr (.inl p)
   ·by_cases U:bO=2
    ·exact .inr (.inr (.inl U))
    ·by_cases az:bO=3∨bO=4
     ·omega
     ·unfold gP at h;simp only[a8,p,U,az,if_false]at h;split at h<;>cases h
 have bK:((27:UInt8).toNat:Int)=27:=rfl;have bJ:((91:UInt8).toNat:Int)=91:=rfl;rcases e with rfl|rfl|rfl|rfl|rfl<;>simp[hz,j_,kU,lP,lQ,lO,bK,bJ]
def we:ih:=BU (0,[8],[],0) 109
def aTe{I:dz}(h:gP I=ah):∃l,∀s,wc s→iE (27::91::56::109::s) I=(⟨0,[],[]⟩,l++we::Ab s):=by
 refine⟨(hz I 27).2++(hz (hz I 27).1 91).2,λ s aU=>?_⟩;have ar:hz ⟨2,[],[]⟩ 56=(⟨2,[],[56]⟩,[]):=aK;have aM:hz ⟨2,[],[56]⟩ 109=(⟨0,[],[]⟩,[we]):=aK;have bZ:∀s,wc s→iE s ⟨0,[],[]⟩=(⟨0,[],[]⟩,Ab s):=by
  intro s;induction s with
  |nil=>intro _;rfl
  |cons b s a'=>intro aU;have an:=aU b Fq;rw[iE,ahR [] b aa aa,a' λ x ap=>aU x (vk _ ap)];rfl
 simp only[iE,aTd h,ar,aM,bZ s aU];simp
def aTf:∀n:Nat,n<256→¬Ce (Fw (Fv n 64) 0) 64=0:=by decide+kernel
def aTg{a:eA}(h:iv a=ah):lo (tG a [8])=ah:=by obtain⟨p,U,az⟩:=Nx h;rw[show tG a [8]=⟨a.cX,a.bd,Fw (Fv a.co 64) 0⟩from aK];obtain⟨n,aI⟩:=jC az.1;unfold lo;simp only[aI];simp[aTf n aa]
def aTh{t u:M}(bA:WP t)(hu:WP u)(e:cT hid t=cT hid u)(ax:t.bn=u.bn)(s a b:bm)(ao:a.length=b.length)(aF:wc a)(an:wc b):
  cT hid (iH t (s++([27,91,56,109]++a)))=cT hid (iH u (s++([27,91,56,109]++b)))∧(iH t (s++([27,91,56,109]++a))).bn=(iH u (s++([27,91,56,109]++b))).bn:=by
 rw[←akR t s,←akR u s];have p:=bA.write s;have U:=hu.write s;have ar:cT hid (iH t s)=cT hid (iH u s):=by rw[xU hid qW,xU hid qW,←ax];exact qW.p' _ e
 have nT:(iH t s).bn=(iH u s).bn:=by show(h1 t.bn s).1=(h1 u.bn s).1;rw[ax]
 generalize iH t s=t1 at*;generalize iH u s=yG at*;obtain⟨l,ak⟩:=aTe p.2;have Jk:∀x,wc x→h1 t1.bn ([27,91,56,109]++x)=(⟨0,[],[]⟩,l++we::Ab x):=λ x ap=>by unfold h1;rw[Jh p.2];exact ak x ap
 refine⟨?_,?_⟩
 ·rw[xU hid qW,xU hid qW,←nT,Jk a aF,Jk b an];simp only[List.foldl_append,vd];have aM:cT hid (l.foldl gX t1)=cT hid (l.foldl gX yG):=qW.p' l ar;have aR:pg (l++we::Ab a):=by have:=p.Ux ([27,91,56,109]++a);rwa [Jk a aF]at this
  have hm:=bt.fold (l:=l) p.1 (λ x ap=>aR x (List.mem_append_left _ ap));have bZ:cT hid (gX (l.foldl gX t1) we)=cT hid (gX (l.foldl gX yG) we):=by rw[qW.gX we (l.foldl gX t1),qW.gX we (l.foldl gX yG),aM]
  refine aTc a b _ _ ao aF an ?_ bZ;show lo (gX (l.foldl gX t1) we).a=ah;rw[show gX (l.foldl gX t1) we={l.foldl gX t1 with a:=tG (l.foldl gX t1).a [8]}from rfl];exact aTg hm.a
 ·show(h1 t1.bn _).1=(h1 yG.bn _).1;rw[←nT,Jk a aF,Jk b an]
def aTi(w h:Nat)(hw:1≤w∧w≤132)(aV:1≤h∧h≤60)(H:ab):cF 68 [w,h] H ah:=cI (by
 obtain⟨p,U⟩:=hw;obtain⟨az,bh⟩:=aV;refine bE afI ?_;simp(disch:=first|omega|(simp only[cR];omega))only[aw,simprocAttr,aHU];exact be)
def aTj{c:fO}(h:iv c.a=ah)(H:ab):cF 70 [.agg [.i (.str (ec c.t)),c.w,c.a.cX,c.a.bd,c.a.co]] H J:=cI (by
 have e:=λ H=>TR h H
 refine bE afK ?_;simp(disch:=first|omega|(simp only[cR];omega))only[aw,simprocAttr,aHW,e];exact be)
def NX(l:c1):Prop:=∀c∈l,iv c.a=ah
def fj.aTk{l:c1}(h:fj l):NX l:=by
 induction h with
 |nil=>intro c aj;cases aj
 |one p U _ a'=>
  intro c aj;rcases mx.1 aj with rfl|aj
  ·exact IN p
  ·exact a' c aj
 |two p U _ a'=>
  intro c aj;rcases mx.1 aj with rfl|aj
  ·exact IN p
  ·rcases mx.1 aj with rfl|aj
   ·have:=IN p;exact this
   ·exact a' c aj
def aTl(l:c1)(ao:l.length≤132)(aF:NX l):∀(m k:Nat),k+m=l.length→
  ie EF 0 [(0,.i (.af 5 (cl l) J)),(1,.aS (.func 70) [] []),(7,l.length),(8,k)] [] 0 [(0,.i (.af 5 (cl l) J)),(1,.aS (.func 70) [] []),(7,l.length),(8,l.length),(9,J)] []:=by
 intro m;induction m with
 |zero=>intro k aA;obtain rfl:k=l.length:=aa;refine(cO EF 0).trans ?_;simp(disch:=first|omega|(simp only[cR,fo];omega))only[aw,simprocAttr,Se,dd,fo,SF]
 |succ m a'=>
  intro k aA;obtain⟨c,aj⟩:∃c,l[k]?=j c:=⟨_,eC aa⟩;have b2:=zE aj;have bu:=λ H=>aTj (aF c (jP aj)) H
  have e:=a' (k+1) aa;refine gB ?_ e;clear e a';refine(cO EF 0).trans ?_;simp(disch:=first|omega|(simp only[cR,fo];omega))only[aw,simprocAttr,Se,dd,aEf,b2,bu,fo,SF]
def aTm(l:c1)(ao:l.length≤132)(aF:NX l)(H:ab):cF 123 [.i (.af 5 (cl l) J),.aS (.func 70) [] []] H (↑(-1:Int)):=cI (by
 have h:=aTl l ao aF l.length 0 aa;simp only[gO]at h;refine bE EF ?_;simp(disch:=first|omega|(simp only[cR,fo];omega))only[aw,simprocAttr,Se,dd,h,fo,SF];exact be)
def aTn(l:c1)(ao:l.length≤132)(aF:NX l)(H:ab):cF 69 [.i (.af 5 (cl l) J),.aS (.func 70) [] []] H J:=cI (by
 have h:=λ H=>aTm l ao aF H
 refine bE afJ ?_;simp(disch:=first|omega|(simp only[cR];omega))only[aw,simprocAttr,aHV,dd,h];exact be)
def aTo(w h:Nat)(hw:1≤w∧w≤132)(g:cQ)(aR:g.length≤1000)(aA:lg w g):∀(m k:Nat),k+m=g.length→
  ie Et 0 [(3,.ptr 0 0 0 0),(50,.i (.af 1 (cg g) J)),(51,g.length),(52,k)] [.box [w,h,.i (.af 1 (cg g) J)]] 0 [(3,.ptr 0 0 0 0),(50,.i (.af 1 (cg g) J)),(51,g.length),(52,g.length),(53,J)] [.box [w,h,.i (.af 1 (cg g) J)]]:=by
 intro m;induction m with
 |zero=>intro k wN;obtain rfl:k=g.length:=aa;refine(cO Et 0).trans ?_;simp(disch:=first|omega|(simp only[cR,gn];omega))only[aw,simprocAttr,R6,ej,dd,gn,SC]
 |succ m a'=>
  intro k wN;obtain⟨r,ak⟩:∃r,g[k]?=j r:=⟨_,eC aa⟩;have b2:=zG ak;obtain⟨p,U⟩:=aA r (jP ak);have pu:=λ H=>M3 (l:=r) aa aa U H
  have aTp:=λ H=>aTn r aa (xH.1 U).aTk H
  have hlen:((cl r).length:Int)=w:=by rw[fo,p]
  have e:=a' (k+1) aa;refine gB ?_ e;clear e a';generalize cl r=x at*;refine(cO Et 0).trans ?_;simp(disch:=first|omega|(simp only[cR,gn];omega))only[aw,simprocAttr,R6,ej,dd,b2,pu,aTp,hlen,gn,SC]
def aTq{m:M}(hm:bt m)(H:ab):cF 38 [.agg (iQ m)] H ah:=cI (by
 have ar:=λ H=>aTi m.w m.h hm.w hm.h H
 have ao:=aTo m.w m.h hm.w m.G (by rw[hm.G.1];have:=hm.h;omega) hm.G.2 m.G.length 0 aa;simp only[gO]at ao;rw[hm.G.1]at ao;have n1:(cg m.G).length=m.h:=by rw[gn,hm.G.1]
 obtain⟨⟨cm,cp⟩,⟨c3,fU⟩,_⟩:=hm.aJ;unfold iQ;generalize cg m.G=x at*;refine bE Et ?_;simp(disch:=first|omega|(simp only[cR,n1];omega))only[aw,simprocAttr,R6,ej,dd,rJ,tH,ar,ao,n1,SC];exact be)
abbrev hQ:=List UInt8×Bool×Int
def UD(g:hQ):cZ:=[.str g.1,.v (.bool g.2.1),.v (.int .i64 g.2.2)]
def gY(l:List hQ):cb:=l.map UD
def CC(g:hQ):ay:=Bu g.1 g.2.1 g.2.2
def Ac(c:fO):List hQ:=if zh c.a.co 64≠0 then[([42],J,3)]else if c.w=0 then[]else[(ec c.t,decide (c.w=2),ux c.a.co)]
def hi(r:c1):List hQ:=r.flatMap Ac
def aTr(c:fO):(Ac c).length≤1:=by
 unfold Ac;split
 ·exact cS _
 ·split
  ·exact iC _
  ·exact cS _
def NY:∀r:c1,(hi r).length≤r.length
 |[]=>cS _
 |c::r=>by have p:=aTr c;have U:=NY r;unfold hi at*;rw[zi,dK,da];omega
def aTs(c:fO):(Ac c).map CC=vE (ec c.t) c.w c.a.co:=by
 unfold Ac vE;split
 ·rfl
 ·split<;>rfl
def ak3:∀r:c1,Bv (cl r)=j ((hi r).map CC)
 |[]=>rfl
 |c::r=>by have a':=ak3 r;unfold cl at a'⊢;rw[fC,Iu,Bv,a'];simp only[eH,hi,zi,pW,aTs]
def aTt(r:c1)(ao:r.length≤132):xk [[bx.af 5 (cl r) J]]=j ((hi r).map CC):=by unfold xk;simp only;rw[fo,if_pos aa,ak3]
def ph(l:List hQ):(gY l).length=l.length:=by simp[gY]
def aTu(l:List hQ)(g:hQ):gY l++[[.str g.1,.v (.bool g.2.1),.v (.int .i64 g.2.2)]]=gY (l++[g]):=by simp[gY,UD]
def aTv(row:ay)(d:List hQ)(aP:d.length≤1000)(g:hQ)(T:ab):
  ∃dk,Ef E 73 (zg f73 0) ((7,.agg [.i (.str g.1),.i (.v (.bool (g.2.1))),.i (.v (.int .i64 (g.2.2)))])::[(2,.ptr 2 0 0 0),(4,.i (.af 0 [] ah)),(6,.aS (.func 74) [] [.ptr 1 0 0 0])]) (.af 3 (d.length) (gY d) J::.box [row]::.box [.ref 0 (d.length) 0 (d.length)]::T)=
   j (.normal,(.af 3 (d.length+1) (gY (d++[g])) J::.box [row]::.box [.ref 0 (d.length+1) 0 (d.length+1)]::dk)):=by
 have ao:=ph d;have aU:=aTu d g;generalize gY (d++[g])=y at*;generalize gY d=x at*;rw[avD (fn:=f73) (k:=0) rfl];have aR:∀a c:Chunk,(T++[a]++[c])[T.length+1]?=j c:=λ a c=>by have e:T.length+1=(T++[a]).length:=aX;rw[e,Pb]
 simp(disch:=first|omega|(simp only[cR,ao];omega))only[aw,simprocAttr,afN,jV,ao,aU,aR];exact be
def ak4(row:ay):∀(l d:List hQ) (aP:d.length+l.length≤1000) (T:ab),
  ∃dk,k6 (Ef E 73 (zg f73 0)) 7 [(2,.ptr 2 0 0 0),(4,.i (.af 0 [] ah)),(6,.aS (.func 74) [] [.ptr 1 0 0 0])] (l.map CC) (.af 3 (d.length) (gY d) J::.box [row]::.box [.ref 0 (d.length) 0 (d.length)]::T)=j (.normal,[(2,.ptr 2 0 0 0),(4,.i (.af 0 [] ah)),(6,.aS (.func 74) [] [.ptr 1 0 0 0])],(.af 3 ((d++l).length) (gY (d++l)) J::.box [row]::.box [.ref 0 ((d++l).length) 0 ((d++l).length)]::dk))
 |[],d,_,T=>⟨T,by rw[dC];rfl⟩
 |b::l,d,aP,T=>by simp only[da]at aP;obtain⟨hc,p⟩:=aTv row d aa b T;obtain⟨hn,U⟩:=ak4 row l (d++[b]) (by simp only[dK,db];omega) hc;refine⟨hn,?_⟩;rw[fC,Zg,CC,Bu,p];have e:d++b::l=(d++[b])++l:=aX;rw[e];have aM:(d++[b]).length=d.length+1:=aX;rw[aM]at U;exact U
def aTw(r:c1)(ao:r.length≤132):∃L ex,b' E 73 [.ref 0 0 0 0,.aS (.func 74) [] [.ptr 1 0 0 0]] [.af 3 0 [] J,.box [.i (.af 5 (cl r) J)]]=
  j (.i (.af 3 (gY (hi r)) J),.bs 3 (hi r).length (gY (hi r)) ex::.box [.i (.af 5 (cl r) J)]::L):=by
 have fM:=NY r;obtain⟨T,h⟩:=ak4 (.i (.af 5 (cl r) J)) (hi r) [] (by simp;omega) [];have iy:k6 (Ef E 73 (zg f73 0)) 7 [(2,.ptr 2 0 0 0),(4,.i (.af 0 [] ah)),(6,.aS (.func 74) [] [.ptr 1 0 0 0])] ((hi r).map CC) [.af 3 0 [] J,.box [.i (.af 5 (cl r) J)],.box [.ref 0 0 0 0]]=j (.normal,[(2,.ptr 2 0 0 0),(4,.i (.af 0 [] ah)),(6,.aS (.func 74) [] [.ptr 1 0 0 0])],.af 3 (hi r).length (gY (hi r)) J::.box [.i (.af 5 (cl r) J)]::.box [.ref 0 (hi r).length 0 (hi r).length]::T):=h;clear h;have aU:=aTt r ao;have n1:=ph (hi r);generalize gY (hi r)=y at*;generalize cl r=x at*;generalize (hi r).map CC=gs at*;rw[bz afM];simp(disch:=first|omega|(simp only[cR,n1];omega))only[aw,simprocAttr,afN,jV,iy,aU,n1,show∀B R H,ez E B 73 (Code.rangeFunc _ _ _ _) R H=Lc (Ef E 73 (zg f73 0)) 7 R H (tV E H (bw E R _))from λ B R H=>avC rfl rfl R H];exact⟨_,_,rfl⟩
def aTx(r:c1)(ao:r.length≤132):∃ex,dy E (b' E) 73 [.ref 1 0 0 0,.aS (.func 74) [] [.ptr 0 0 0 0]] [.box [.i (.af 5 (cl r) J)],.af 3 0 [] J]=
  j (.i (.af 3 (gY (hi r)) J),[.box [.i (.af 5 (cl r) J)],.bs 3 (hi r).length (gY (hi r)) ex]):=by
 obtain⟨L,ex,h⟩:=aTw r ao;refine⟨ex,?_⟩;unfold dy;simp[fg,azV,bI,bj,reach,Chunk.refs,cP,cB,bD,Chunk.c2,h,dG,ev]
def aTy(r:c1)(ao:r.length≤132):∃L,b' E 40 [.aS (.func 74) [] [.ptr 0 0 0 0]] [.box [.i (.af 5 (cl r) J)]]=j (.i (.af 3 (gY (hi r)) J),.box [.i (.af 5 (cl r) J)]::L):=by obtain⟨ex,h⟩:=aTx r ao;rw[bz afw];simp(disch:=first|omega|(simp only[cR];omega))only[aw,simprocAttr,aHI,jV,h];exact be
def aTz{f g c:Nat}{v:aZ}{r:ay}{H:ab}(he:E.ext f=o)(ak:bj r=[])(bo:bI v=[])(aT:H[c]?=j (.box v))(h:∃L,b' E f [.aS (.func g) [] [.ptr 0 0 0 0]] [.box v]=j (r,.box v::L)):
  cF f [.aS (.func g) [] [.ptr c 0 0 0]] H r:=by
 obtain⟨L,h⟩:=h;have U:∀aY,cP aY v=v:=λ aY=>(gx aY).2 v bo
 have iW:∀aY,cB aY r=r:=λ aY=>(gx aY).1 r ak
 have dA:=sx aT bo;obtain⟨ao,SQ⟩:=bQ.1 aT;unfold cF dy;simp[fg,he,bI,bj,dA,cP,cB,bD,aT,Chunk.c2,U,h,ak,bo,Chunk.refs,reach,iW,ev];exact DF λ i=>by
  by_cases h:c=i
  ·subst h;simp[ao,SQ]
  ·simp[h]
def aTA(x:bx):∃L,b' E 41 [.i x] []=j (.aS (.func 74) [] [.ptr 0 0 0 0],.box [.i x]::L):=by rw[bz afx];simp(disch:=first|omega|(simp only[cR];omega))only[aw,simprocAttr,aHJ];exact be
def aTB(x:bx)(H:ab):cE 41 [.i x] H (.aS (.func 74) [] [.ptr H.length 0 0 0]) (H++[.box [.i x]]):=ahd rfl rfl rfl (aTA x)
def ak5(H:ab):cF 71 [] H (.agg [.i (.str [32]),J,↑(0:Int)]):=cI (by
 refine bE afL ?_;simp(disch:=first|omega|(simp only[cR];omega))only[aw,simprocAttr,aHX];exact be)
def Jl(g:hQ):Bool:=g.1==[32] &&(!g.2.1 &&decide (g.2.2=0))
def aTC(g:hQ):k2 prog .eql 104 (.agg [.i (.str g.1),.i (.v (.bool (g.2.1))),.i (.v (.int .i64 (g.2.2)))]) (.agg [.i (.str [32]),.i (.v (.bool (J))),.i (.v (.int .i64 (0)))])=j (.i (.v (.bool (Jl g)))):=by rw[Y9];unfold j0;simp only;rw[if_neg (by simp only[Bz];decide)];simp only[Bx,By];simp[p9,qX,p8,sT,ay.bool,Jl]
def UE(l:List hQ)(n:Nat):Bool:=match l[n]? with
 |some g=>Jl g
 |none=>ah
def aTD{l:List hQ}{n:Nat}{g:hQ}(h:l[n]?=j g):UE l n=Jl g:=by unfold UE;rw[h]
def uX(l:List hQ):Nat→Nat
 |0=>0
 |n+1=>if UE l n=ah then uX l n else n+1
def ak6(l:List hQ):∀n,uX l n≤n
 |0=>cS _
 |n+1=>by
  rw[uX];split
  ·exact Nat.le_succ_of_le (ak6 l n)
  ·exact cS _
def nI(l:List hQ):List hQ:=l.take (uX l l.length)
def ak7{l:List hQ}{k:Nat}{g:hQ}(h:l[k]?=j g):(gY l)[k]?=j [.str g.1,.v (.bool g.2.1),.v (.int .i64 g.2.2)]:=by simp[gY,h,UD]
def aTE(rows:cb)(ex:Bool)(h:rows.length≤1000000000)(H:ab):cF 72 [.i (.af 3 rows ex)] H (.i (.af 3 rows J)):=
 LB (show E.ext 72=j (zb 3)from rfl) rfl rfl ⟨[],by simp[zb,h]⟩
def aTF(l:List hQ)(ao:l.length≤132):∀n,n≤l.length→
  ie BE 0 [(0,.i (.af 3 (gY l) J)),(3,n)] [] 0 [(0,.i (.af 3 (gY l) J)),(3,↑(uX l n)),(16,J)] []:=by
 intro n;induction n with
 |zero=>intro aI;rw[uX];refine(cO BE 0).trans ?_;simp(disch:=first|omega|(simp only[cR,ph];omega))only[aw,simprocAttr,L',jV,ph,My]
 |succ n a'=>
  intro aI;obtain⟨g,aR⟩:∃g,l[n]?=j g:=⟨_,eC aa⟩;have b2:=ak7 aR;have nO:((n+1:Nat):Int)-1=(n:Nat):=aa;have Bm:=aTC g;rw[uX,aTD aR];cases an:Jl g with
  |true=>rw[an]at Bm;rw[if_pos rfl];refine gB ?_ (a' aa);clear a';refine(cO BE 0).trans ?_;simp(disch:=first|omega|(simp only[cR,ph];omega))only[aw,simprocAttr,L',jV,b2,nO,ny,ak5,Bm,ph,My]
  |false=>rw[an]at Bm;rw[if_neg aX];clear a';refine(cO BE 0).trans ?_;simp(disch:=first|omega|(simp only[cR,ph];omega))only[aw,simprocAttr,L',jV,b2,nO,ny,ak5,Bm,ph,My]
def aTG(l:List hQ)(n:Nat):(gY l).take n=gY (l.take n):=by simp[gY,vU]
def aTH(l:List hQ)(ao:l.length≤132):gV 39 [.i (.af 3 (gY l) J)] (.i (.af 3 (gY (nI l)) J)):=by
 have h:=aTF l ao l.length (cS _);have aVU:=ak6 l l.length;have qJ:=aTG l (uX l l.length);unfold nI;have cD:=λ rows ex h H=>aTE rows ex h H
 have bg:(gY (l.take (uX l l.length))).length=uX l l.length:=by rw[ph,hV];omega
 generalize uX l l.length=n at*;refine bE BE ?_;simp(disch:=first|omega|(simp only[cR,ph,bg];omega))only[aw,simprocAttr,L',jV,h,qJ,bg,cD,ny,tw,ph,My];exact be
def aTI(l:List hQ)(ao:l.length≤132)(H:ab):cF 39 [.i (.af 3 (gY l) J)] H (.i (.af 3 (gY (nI l)) J)):=hF rfl rfl rfl (aTH l ao)
def jZ(g:List (List hQ)):cb:=g.map λ l=>[.af 3 (gY l) J]
def Ad(g:List (List hQ)):(jZ g).length=g.length:=by simp[jZ]
def rK(g:cQ)(k:Nat):List (List hQ):=(g.take k).map λ r=>nI (hi r)
def ak8{g:cQ}{k:Nat}(h:k≤g.length):(jZ (rK g k)).length=k:=by rw[Ad,rK,mE,hV];omega
def aTJ{g:cQ}{k:Nat}{r:c1}(h:g[k]?=j r):jZ (rK g k)++[[.af 3 (gY (nI (hi r))) J]]=jZ (rK g (k+1)):=by obtain⟨aA,rfl⟩:=bQ.1 h;rw[rK,rK,Iz aA,pW,jZ,jZ,pW];rfl
def aTK(w h:Nat)(hw:1≤w∧w≤132)(g:cQ)(aR:g.length≤1000)(aA:lg w g)(r c:Int)(jo:Bool):∀(m k:Nat),k+m=g.length→
  ie Ek 0 [(2,.ptr 0 0 0 0),(3,.ptr 1 0 0 0),(28,.i (.af 1 (cg g) J)),(29,g.length),(30,k)] [.box [↑(0:Int),↑(0:Int),.i (.af 0 [] ah),↑(0:Int),↑(0:Int),J],.box [w,h,.ref 2 0 0 (k),r,c,jo],.af 1 0 (jZ (rK g k)) J] 0 [(2,.ptr 0 0 0 0),(3,.ptr 1 0 0 0),(28,.i (.af 1 (cg g) J)),(29,g.length),(30,g.length),(31,J)] [.box [↑(0:Int),↑(0:Int),.i (.af 0 [] ah),↑(0:Int),↑(0:Int),J],.box [w,h,.ref 2 0 0 (g.length),r,c,jo],.af 1 0 (jZ (rK g g.length)) J]:=by
 intro m;induction m with
 |zero=>intro k wN;obtain rfl:k=g.length:=aa;have ao:=ak8 (cS g.length);generalize jZ (rK g g.length)=y at*;refine(cO Ek 0).trans ?_;simp(disch:=first|omega|(simp only[cR,gn,ao];omega))only[aw,simprocAttr,RZ,jV,ej,nY,dd,gn,ao,Sw]
 |succ m a'=>
  intro k wN;obtain⟨row,ak⟩:∃row,g[k]?=j row:=⟨_,eC aa⟩;have b2:=zG ak;obtain⟨p,U⟩:=aA row (jP ak);have au:=λ A B C=>aTz (f:=40) (g:=74) (c:=3) (H:=[A,B,C,.box [.i (.af 5 (cl row) J)]]) rfl rfl rfl rfl (aTy row aa)
  have n1:=NY row;have dO:=λ H=>aTI (hi row) aa H
  have ao:=ak8 (show k≤g.length by omega);have aU:=aTJ ak;have e:=a' (k+1) aa;refine gB ?_ e;clear e a';generalize cl row=x at*;generalize gY (nI (hi row))=t at*;generalize gY (hi row)=z at*;generalize jZ (rK g (k+1))=wC at*;generalize jZ (rK g k)=y at*;refine(cO Ek 0).trans ?_;simp(disch:=first|omega|(simp only[cR,gn,ao];omega))only[aw,simprocAttr,RZ,jV,ej,nY,dd,b2,aTB,au,dO,ao,aU,gn,Sw]
def uY(m:M):aZ:=[.i (.v (.int .i64 (m.w))),.i (.v (.int .i64 (m.h))),.i (.af 1 (jZ (m.G.map λ r=>nI (hi r))) J),.i (.v (.int .i64 (m.aJ.r))),.i (.v (.int .i64 (m.aJ.c))),.i (.v (.bool (m.md.jo)))]
def NZ{m:M}(hm:bt m)(H:ab):cF 14 [.agg (iQ m)] H (.agg (uY m)):=cI (by
 have ar:=λ H=>aTq hm H
 have ao:=aTK m.w m.h hm.w m.G (by rw[hm.G.1];have:=hm.h;omega) hm.G.2 m.aJ.r m.aJ.c m.md.jo m.G.length 0 aa;have bo:rK m.G m.G.length=m.G.map λ r=>nI (hi r):=by rw[rK,Ny]
 rw[bo]at ao;simp only[gO]at ao;rw[show jZ (rK m.G 0)=[]from rfl,hm.G.1]at ao;have n1:(cg m.G).length=m.h:=by rw[gn,hm.G.1]
 have ak9:(jZ (m.G.map λ r=>nI (hi r))).length=m.h:=by rw[Ad,mE,hm.G.1]
 unfold uY;unfold iQ at ar⊢;generalize jZ (m.G.map λ r=>nI (hi r))=v at*;refine bE Ek ?_;simp(disch:=first|omega|(simp only[cR,n1,ak9];omega))only[aw,simprocAttr,RZ,jV,ej,nY,dd,rJ,tH,ar,ao,n1,ak9,Sw];exact be)
def aTL(g:hQ):k2 prog .neq 104 (.agg [.i (.str g.1),.i (.v (.bool (g.2.1))),.i (.v (.int .i64 (g.2.2)))]) (.agg [.i (.str g.1),.i (.v (.bool (g.2.1))),.i (.v (.int .i64 (g.2.2)))])=j (.i (.v (.bool (J)))):=by rw[LC];unfold j0;simp only;rw[if_neg (by simp only[Bz];decide)];simp only[Bx,By];simp[p9,qX,p8,sT,ay.bool]
def aTM(l:List hQ)(ao:l.length≤132):∀(m k:Nat),k+m=l.length→
  ie Es 0 [(0,.i (.af 3 (gY l) J)),(1,.i (.af 3 (gY l) J)),(12,l.length),(13,k)] [] 0 [(0,.i (.af 3 (gY l) J)),(1,.i (.af 3 (gY l) J)),(12,l.length),(13,l.length),(14,J)] []:=by
 intro m;induction m with
 |zero=>intro k aA;obtain rfl:k=l.length:=aa;refine(cO Es 0).trans ?_;simp(disch:=first|omega|(simp only[cR,ph];omega))only[aw,simprocAttr,R5,jV,ph,SB]
 |succ m a'=>intro k aA;obtain⟨g,aR⟩:∃g,l[k]?=j g:=⟨_,eC aa⟩;have b2:=ak7 aR;have gE:=aTL g;have e:=a' (k+1) aa;refine gB ?_ e;clear e a';refine(cO Es 0).trans ?_;simp(disch:=first|omega|(simp only[cR,ph];omega))only[aw,simprocAttr,R5,jV,b2,gE,ph,SB]
def aTN(l:List hQ)(ao:l.length≤132)(H:ab):cF 37 [.i (.af 3 (gY l) J),.i (.af 3 (gY l) J)] H ah:=cI (by
 have h:=aTM l ao l.length 0 aa;simp only[gO]at h;refine bE Es ?_;simp(disch:=first|omega|(simp only[cR,ph];omega))only[aw,simprocAttr,R5,jV,h,ph,SB];exact be)
def aTO(c:fO):Ac (hid c)=Ac c:=by
 by_cases h:lo c.a=ah
 ·have an:zh c.a.co 64≠0:=λ e=>by have:Ce c.a.co 64=0:=e;simp[lo,this]at h
  unfold Ac;rw[(FZ c).2.1,if_pos an,if_pos an]
 ·rw[FY h]
def ak_:∀r:c1,hi (r.map hid)=hi r
 |[]=>rfl
 |c::r=>by have a':=ak_ r;unfold hi at*;rw[fC,zi,zi,a',aTO]
def ak'(m:M):uY (cT hid m)=uY m:=by
 have e:(eT hid m.G).map (λ r=>nI (hi r))=m.G.map λ r=>nI (hi r):=by
  unfold eT;rw[vC];exact yO λ r _=>congrArg nI (ak_ r)
 unfold uY;show([.i (.v (.int .i64 (m.w))),.i (.v (.int .i64 (m.h))),.i (.af 1 (jZ ((eT hid m.G).map λ r=>nI (hi r))) J),.i (.v (.int .i64 (m.aJ.r))),.i (.v (.int .i64 (m.aJ.c))),.i (.v (.bool (m.md.jo)))]:aZ)=_;rw[e]
def ala{m b6:M}(e:cT hid m=cT hid b6):uY b6=uY m:=by rw[←ak' b6,←e,ak']
def aTP{t u:M}(e:cT hid t=cT hid u)(ax:t.bn=u.bn)(s:bm):cT hid (iH t s)=cT hid (iH u s)∧(iH t s).bn=(iH u s).bn:=by
 refine⟨?_,?_⟩
 ·rw[xU hid qW,xU hid qW,←ax];exact qW.p' _ e
 ·show(h1 t.bn s).1=(h1 u.bn s).1;rw[ax]
def aTQ{g:List (List hQ)}{k:Nat}{l:List hQ}(h:g[k]?=j l):(jZ g)[k]?=j [.af 3 (gY l) J]:=by simp[jZ,h]
def aTR(g:List (List hQ))(aR:g.length≤1000)(aA:∀l∈g,l.length≤132):∀(m k:Nat),k+m=g.length→
  ie Er 0 [(1,.i (.af 1 (jZ g) J)),(2,.aS (.func 37) [] []),(15,.i (.af 1 (jZ g) J)),(16,g.length),(17,k)] [] 0 [(1,.i (.af 1 (jZ g) J)),(2,.aS (.func 37) [] []),(15,.i (.af 1 (jZ g) J)),(16,g.length),(17,g.length),(18,J)] []:=by
 intro m;induction m with
 |zero=>intro k wN;obtain rfl:k=g.length:=aa;refine(cO Er 0).trans ?_;simp(disch:=first|omega|(simp only[cR,Ad];omega))only[aw,simprocAttr,R4,jV,nY,Ad,SA]
 |succ m a'=>
  intro k wN;obtain⟨l,ao⟩:∃l,g[k]?=j l:=⟨_,eC aa⟩;have b2:=aTQ ao;have bu:=λ H=>aTN l (aA l (jP ao)) H
  have e:=a' (k+1) aa;refine gB ?_ e;clear e a';generalize gY l=x at*;refine(cO Er 0).trans ?_;simp(disch:=first|omega|(simp only[cR,Ad];omega))only[aw,simprocAttr,R4,jV,nY,aDW,b2,bu,Ad,SA]
def aTS(g:List (List hQ))(aR:g.length≤1000)(aA:∀l∈g,l.length≤132)(H:ab):cF 36 [.i (.af 1 (jZ g) J),.i (.af 1 (jZ g) J),.aS (.func 37) [] []] H ah:=cI (by
 have h:=aTR g aR aA g.length 0 aa;simp only[gO]at h;refine bE Er ?_;simp(disch:=first|omega|(simp only[cR,Ad];omega))only[aw,simprocAttr,R4,jV,nY,h,Ad,SA];exact be)
def aTT(l:List hQ):(nI l).length≤l.length:=by unfold nI;rw[hV];exact Nat.min_le_right _ _
def alb{m:M}(hm:bt m)(H:ab):cF 13 [.agg (uY m),.agg (uY m)] H ah:=cI (by
 have e:=λ H=>aTS (m.G.map λ r=>nI (hi r)) (by rw[mE,hm.G.1];have:=hm.h;omega) (λ l ao=>by
  obtain⟨r,ak,rfl⟩:=D0.1 ao;have p:=aTT (hi r);have U:=NY r;have az:=(hm.G.2 r ak).1;have bh:=hm.w;omega) H
 unfold uY;generalize jZ (m.G.map λ r=>nI (hi r))=v at*;refine bE afn ?_;simp(disch:=first|omega|(simp only[cR];omega))only[aw,simprocAttr,aHA,nY,e];exact be)
def p7(b:UInt8):Bool:=decide (b.toNat<32)||decide (126<b.toNat)
def alc{s:bm}(h:s.any p7=J):wc s:=by intro b an;have:=MH.1 h b an;unfold p7 at this;simp at this;exact⟨this.1,aa⟩
def tI(a b:bm):Bool:=decide (a.length=b.length) &&(decide (a.length≤20) &&!(a.any p7||b.any p7))
def aTU{a b:bm}(h:tI a b=ah):a.length=b.length∧a.length≤20∧wc a∧wc b:=by unfold tI at h;simp only[c',decide_eq_true_eq,rh,Bool.or_eq_false_iff]at h;exact⟨h.1,h.2.1,alc h.2.2.1,alc h.2.2.2⟩
def aTV(a b:bm)(ao:a.length=b.length)(mJ:a.length≤20):∀(m k:Nat),k+m=a.length→
  ew E 0 12 (fu Tryz.f12 0) [(0,.i (.str a)),(1,.i (.str b)),(17,.i (.v (.int .i64 (a.length)))),(18,.i (.v (.int .i64 (k))))] []=
  if((a.drop k).any p7||(b.drop k).any p7)=ah then j (.ret,[(4,.i (.v (.bool (J))))],[])else
   j (.exit 0,[(0,.i (.str a)),(1,.i (.str b)),(17,.i (.v (.int .i64 (a.length)))),(18,.i (.v (.int .i64 (a.length)))),(19,.i (.v (.bool (J))))],[]):=by
 intro m;induction m with
 |zero=>intro k aA;obtain rfl:k=a.length:=aa;rw[mN,ao,mN,List.any_nil,if_neg aX];rw[cO tx 0];simp(disch:=first|omega|(simp only[cR];omega))only[aw,simprocAttr,vH,zv]
 |succ m a'=>
  intro k aA;have bg:k<a.length:=aa;have DC:k<b.length:=aa;have a':=a' (k+1) aa;have aF:a[k]?=j a[k]:=eC bg;have an:b[k]?=j b[k]:=eC DC;rw[jk bg,jk DC,MG,MG];generalize a[k]=x at*;generalize b[k]=y at*;by_cases p:x.toNat<32
  ·rw[if_pos (by simp[p7,p])];clear a';rw[cO tx 0];simp(disch:=first|omega|(simp only[cR];omega))only[aw,simprocAttr,vH,aF,an,zv]
  ·by_cases U:126<x.toNat
   ·rw[if_pos (by simp[p7,U])];clear a';rw[cO tx 0];simp(disch:=first|omega|(simp only[cR];omega))only[aw,simprocAttr,vH,aF,an,zv]
   ·by_cases az:y.toNat<32
    ·rw[if_pos (by simp[p7,az])];clear a';rw[cO tx 0];simp(disch:=first|omega|(simp only[cR];omega))only[aw,simprocAttr,vH,aF,an,zv]
    ·by_cases bh:126<y.toNat
     ·rw[if_pos (by simp[p7,bh])];clear a';rw[cO tx 0];simp(disch:=first|omega|(simp only[cR];omega))only[aw,simprocAttr,vH,aF,an,zv]
     ·rw[show p7 x=J by simp[p7,p,U],show p7 y=J by simp[p7,az,bh],D3,D3,←a'];clear a';rw[cO tx 0];simp(disch:=first|omega|(simp only[cR];omega))only[aw,simprocAttr,vH,aF,an,zv]
def aTW(a b:bm)(H:ab):cF 12 [.i (.str a),.i (.str b)] H (↑(tI a b)):=cI (by
 by_cases p:a.length=b.length
 ·by_cases U:a.length≤20
  ·have h:=aTV a b p U a.length 0 aa;rw[i6,i6]at h;simp only[gO]at h;have gw:((a.length:Int)=(b.length:Int))=True:=eq_true aa;have yE:¬20<(a.length:Int):=aa;cases aj:(a.any p7||b.any p7)with
   |true=>rw[show tI a b=J by simp[tI,aj]];rw[aj,if_pos rfl]at h;refine bE tx ?_;simp(disch:=first|omega|(simp only[cR];omega))only[aw,simprocAttr,vH,h,gw,yE,zv];exact be
   |false=>rw[show tI a b=ah by simp[tI,aj,p,p▸U]];rw[aj,if_neg aX]at h;refine bE tx ?_;simp(disch:=first|omega|(simp only[cR];omega))only[aw,simprocAttr,vH,h,gw,yE,zv];exact be
  ·have gw:((a.length:Int)=(b.length:Int))=True:=eq_true aa;have yE:20<(a.length:Int):=aa;rw[show tI a b=J by simp[tI,U]];refine bE tx ?_;simp(disch:=first|omega|(simp only[cR];omega))only[aw,simprocAttr,vH,gw,yE];exact be
 ·have gw:¬(a.length:Int)=(b.length:Int):=aa;rw[show tI a b=J by simp[tI,p]];refine bE tx ?_;simp(disch:=first|omega|(simp only[cR];omega))only[aw,simprocAttr,vH,gw];exact be)
abbrev CD:=List UInt8×List UInt8×List UInt8
def ald(x:CD):cZ:=[.str x.1,.str x.2.1,.str x.2.2]
def rL(l:List CD):cb:=l.map ald
def N0(l:List CD):(rL l).length=l.length:=by simp[rL]
noncomputable def tJ(R:Fr)(H:ab):hj:=xg E 0 5 (fu Tryz.f5 0) (oM 0 R H)
def N1(m:M)(a b c d e f g h:bx):bI (mk m (.i a) (.i b) (.i c) (.i d) (.i e) (.i f) (.i g) (.i h))=[]:=rfl
def aTX{t u:M}{c d:Nat}{H:ab}(aj:H[c]?=j (.box (iQ t)))(aP:H[d]?=j (.box (iQ u)))(fV:c≠d)(x y z:bx):oM 0 [(7,.ptr (c) 0 0 0),(9,.ptr (d) 0 0 0),(31,.i x),(32,.i y),(33,.i z)] H=([(7,.ptr (0) 0 0 0),(9,.ptr (1) 0 0 0),(31,.i x),(32,.i y),(33,.i z)],[.box (iQ t),.box (iQ u)]):=by
 have Cw:od 0 H [(7,.ptr (c) 0 0 0),(9,.ptr (d) 0 0 0),(31,.i x),(32,.i y),(33,.i z)]=[(7,.ptr (c) 0 0 0),(9,.ptr (d) 0 0 0),(31,.i x),(32,.i y),(33,.i z)]:=by simp[od,eL,tQ,aj,aP]
 have cy:(e0 0 H 0 H)[c]?=j (.box (iQ t)):=by rw[w7,aj];simp only[eH,el,FQ (UB t)]
 have cN:(e0 0 H 0 H)[d]?=j (.box (iQ u)):=by rw[w7,aP];simp only[eH,el,FQ (UB u)]
 rw[HK,Cw];generalize e0 0 H 0 H=H1 at*;have bK:=fH.2 (bQ.1 cy).1;have bJ:=fH.2 (bQ.1 cN).1;have dA:oL 0 [(7,.ptr (c) 0 0 0),(9,.ptr (d) 0 0 0),(31,.i x),(32,.i y),(33,.i z)] H1=[c,d]:=by simp[oL,bI,bj,reach,cy,cN,kw,aSQ,bK,bJ,fV,bi fV]
 rw[HR (iC _),dA];have nT:bD [c,d] c=j 0:=by simp[bD]
 have sh:bD [c,d] d=j 1:=by simp[bD,bi fV]
 simp only[yb,fC,fN,cB,nT,sh,cy,cN,eH,jQ,jp,(z' (UB _)).1]
def aTY{t:M}(an:t.gD=J)(x y z:bx):oM 0 [(7,.ptr (2) 0 0 0),(9,.ptr (3) 0 0 0),(31,.i x),(32,.i y),(33,.i z)] [.aE 5 0 0 (a7 t.G),.aE 5 0 0 (a7 t.O),.box (aW t 0 0 1 0),.box (aW t 0 0 1 0)]=([(7,.ptr (0) 0 0 0),(9,.ptr (3) 0 0 0),(31,.i x),(32,.i y),(33,.i z)],[.box (aW t 1 0 2 0),.aE 5 0 0 (a7 t.G),.aE 5 0 0 (a7 t.O),.box (aW t 1 0 2 0)]):=by
 have Cw:∀H:ab,H[2]?=j (.box (aW t 0 0 1 0))→H[3]?=j (.box (aW t 0 0 1 0))→od 0 H [(7,.ptr (2) 0 0 0),(9,.ptr (3) 0 0 0),(31,.i x),(32,.i y),(33,.i z)]=[(7,.ptr (2) 0 0 0),(9,.ptr (3) 0 0 0),(31,.i x),(32,.i y),(33,.i z)]:=λ H aj aP=>by simp[od,eL,tQ,aj,aP]
 have cy:e0 0 [.aE 5 0 0 (a7 t.G),.aE 5 0 0 (a7 t.O),.box (aW t 0 0 1 0),.box (aW t 0 0 1 0)] 0 [.aE 5 0 0 (a7 t.G),.aE 5 0 0 (a7 t.O),.box (aW t 0 0 1 0),.box (aW t 0 0 1 0)]=[.aE 5 0 0 (a7 t.G),.aE 5 0 0 (a7 t.O),.box (aW t 0 0 1 0),.box (aW t 0 0 1 0)]:=by simp[e0,el,aW,ff,eL,de.c,rS,an]
 rw[HK,Cw _ rfl rfl,cy];have dA:oL 0 [(7,.ptr (2) 0 0 0),(9,.ptr (3) 0 0 0),(31,.i x),(32,.i y),(33,.i z)] [.aE 5 0 0 (a7 t.G),.aE 5 0 0 (a7 t.O),.box (aW t 0 0 1 0),.box (aW t 0 0 1 0)]=[2,0,1,3]:=by simp[oL,bI,bj,reach,kw,bV,Chunk.refs]
 rw[HR (iC _),dA];simp[yb,cB,bD,ka,Chunk.c2]
def aTZ{l:List CD}(ao:l.length≤6){k:Nat}{s a b:bm}(aA:l[k]?=j (s,a,b)){t u:M}{d:Nat}{Q:ab}(hw:WP t)(bo:WP u)(he:cT hid t=cT hid u)(ax:t.bn=u.bn)
  (qy:d=1∧Q=[.box (iQ t),.box (iQ u)]∨t=u∧t.gD=J∧d=3∧Q=[.box (aW t 1 0 2 0),.aE 5 0 0 (a7 t.G),.aE 5 0 0 (a7 t.O),.box (aW t 1 0 2 0)]):
  (∃aq,ew E 0 5 (fu Tryz.f5 0) [(7,.ptr (0) 0 0 0),(9,.ptr (d) 0 0 0),(31,.i (.af 3 (rL l) J)),(32,.i (.v (.int .i64 (l.length)))),(33,.i (.v (.int .i64 (k))))] Q=j (.ret,[(6,.i (.v (.bool (ah))))],aq))∨∃t2 hl:M,WP t2∧WP hl∧cT hid t2=cT hid hl∧t2.bn=hl.bn∧∃e aq,aq[0]?=j (.box (mk (t2) (.i (.v (.int .i64 (t2).w))) (.i (.v (.int .i64 (t2).h))) (.i (.af 1 (cg (t2).G) J)) (.i (.v (.int .i64 (t2).w))) (.i (.v (.int .i64 (t2).h))) (.i (.af 1 (cg (t2).O) J)) (.i (.af 1 (eZ (t2).c9) J)) (.i (.af 1 (cg (t2).back) J))))∧aq[e]?=j (.box (mk (hl) (.i (.v (.int .i64 (hl).w))) (.i (.v (.int .i64 (hl).h))) (.i (.af 1 (cg (hl).G) J)) (.i (.v (.int .i64 (hl).w))) (.i (.v (.int .i64 (hl).h))) (.i (.af 1 (cg (hl).O) J)) (.i (.af 1 (eZ (hl).c9) J)) (.i (.af 1 (cg (hl).back) J))))∧0≠e∧ew E 0 5 (fu Tryz.f5 0) [(7,.ptr (0) 0 0 0),(9,.ptr (d) 0 0 0),(31,.i (.af 3 (rL l) J)),(32,.i (.v (.int .i64 (l.length)))),(33,.i (.v (.int .i64 (k))))] Q=tJ [(7,.ptr (0) 0 0 0),(9,.ptr (e) 0 0 0),(31,.i (.af 3 (rL l) J)),(32,.i (.v (.int .i64 (l.length)))),(33,.i (.v (.int .i64 (k+1))))] aq:=by
 have nk:=(bQ.1 aA).1;have ap:(rL l)[k]?=j [.str s,.str a,.str b]:=by simp[rL,aA,ald]
 have hlen:=N0 l;have bg:(k:Int)<l.length:=aa;generalize rL l=a1 at*;have nQ:=λ H=>aTW a b H
 by_cases aVV:s.length≤60
 ·have CE:¬60<(s.length:Int):=aa;cases aj:tI a b with
  |true=>
   obtain⟨dc,mJ,aF,an⟩:=aTU aj;rw[aj]at nQ;right;have q:=aTh hw bo he ax s a b dc aF an;rw[←eo,←eo]at q;obtain⟨cy,cN⟩:=q;have ar:=λ H=>FW hw (s++[27,91,56,109]++a) (by simp;omega) H
   have aM:=λ H=>FW bo (s++[27,91,56,109]++b) (by simp;omega) H
   have gf:=hw.write (s++[27,91,56,109]++a);have ft:=bo.write (s++[27,91,56,109]++b);generalize iH t (s++[27,91,56,109]++a)=t1 at*;generalize iH u (s++[27,91,56,109]++b)=yG at*;have v1:=λ H=>NZ gf.1 H
   have v2:=λ H=>NZ ft.1 H
   rw[ala cy]at v2;have v3:=λ H=>alb gf.1 H
   obtain⟨g_,qd⟩:=aTP cy cN [27,91,50,56,109];have bZ:=λ H=>FW gf [27,91,50,56,109] bU H
   have dx:=λ H=>FW ft [27,91,50,56,109] bU H
   have ou:=gf.write [27,91,50,56,109];have IJ:=ft.write [27,91,50,56,109];generalize iH t1 [27,91,50,56,109]=t2 at*;generalize iH yG [27,91,50,56,109]=hl at*;have FU:=λ H=>NZ ou.1 H
   have F0:=λ H=>NZ IJ.1 H
   rw[ala g_]at F0;have Jm:=λ H=>alb ou.1 H
   have Ci:hl.aJ=t2.aJ:=(congrArg M.aJ g_).symm;have z1:hl.md=t2.md:=(congrArg M.md g_).symm;have wO:hl.eX=t2.eX:=(congrArg M.eX g_).symm;have N2:hl.dL=t2.dL:=(congrArg M.dL g_).symm;simp only[iQ,uY]at ar aM bZ dx v1 v2 v3 FU F0 Jm;generalize jZ (t1.G.map λ r=>nI (hi r))=aVW at*;generalize jZ (t2.G.map λ r=>nI (hi r))=aVX at*;rcases qy with⟨rfl,rfl⟩|⟨rfl,wb,rfl,rfl⟩
   ·refine⟨t2,hl,ou,IJ,g_,qd,1,[.box (mk (t2) (.i (.v (.int .i64 (t2).w))) (.i (.v (.int .i64 (t2).h))) (.i (.af 1 (cg (t2).G) J)) (.i (.v (.int .i64 (t2).w))) (.i (.v (.int .i64 (t2).h))) (.i (.af 1 (cg (t2).O) J)) (.i (.af 1 (eZ (t2).c9) J)) (.i (.af 1 (cg (t2).back) J))),.box (mk (hl) (.i (.v (.int .i64 (hl).w))) (.i (.v (.int .i64 (hl).h))) (.i (.af 1 (cg (hl).G) J)) (.i (.v (.int .i64 (hl).w))) (.i (.v (.int .i64 (hl).h))) (.i (.af 1 (cg (hl).O) J)) (.i (.af 1 (eZ (hl).c9) J)) (.i (.af 1 (cg (hl).back) J))),.box [.i (.str s),.i (.str a),.i (.str b)]],rfl,rfl,bU,?_⟩;simp only[iQ];rw[cO zl 0];simp(disch:=first|omega|(simp only[cR,hlen];omega))only[aw,simprocAttr,uz,lK,rJ,b1,b7,bV,N1,tH,ap,CE,nQ,ar,aM,bZ,dx,v1,v2,v3,FU,F0,Jm,Ci,z1,wO,N2,NT,NU,show∀R H,ez E 0 5 (uU _) R H=tJ (norm [7,9,31,32,33] R) H from λ R H=>sz rfl aK aK aK aK R H]
   ·refine⟨t2,hl,ou,IJ,g_,qd,3,[.box (mk (t2) (.i (.v (.int .i64 (t2).w))) (.i (.v (.int .i64 (t2).h))) (.i (.af 1 (cg (t2).G) J)) (.i (.v (.int .i64 (t2).w))) (.i (.v (.int .i64 (t2).h))) (.i (.af 1 (cg (t2).O) J)) (.i (.af 1 (eZ (t2).c9) J)) (.i (.af 1 (cg (t2).back) J))),.fd 0 (cg t.G),.fd 0 (cg t.O),.box (mk (hl) (.i (.v (.int .i64 (hl).w))) (.i (.v (.int .i64 (hl).h))) (.i (.af 1 (cg (hl).G) J)) (.i (.v (.int .i64 (hl).w))) (.i (.v (.int .i64 (hl).h))) (.i (.af 1 (cg (hl).O) J)) (.i (.af 1 (eZ (hl).c9) J)) (.i (.af 1 (cg (hl).back) J))),.box [.i (.str s),.i (.str a),.i (.str b)]],rfl,rfl,bU,?_⟩;rw[cO zl 0];simp(disch:=first|omega|(simp only[cR,hlen];omega))only[aw,simprocAttr,uz,lK,rJ,b1,b7,bV,N1,tH,ap,CE,nQ,ar,aM,bZ,dx,v1,v2,v3,FU,F0,Jm,Ci,z1,wO,N2,NT,NU,show∀R H,ez E 0 5 (uU _) R H=tJ (norm [7,9,31,32,33] R) H from λ R H=>sz rfl aK aK aK aK R H];rw[akS hw.1 wb rfl rfl bU];simp(disch:=first|omega|(simp only[cR,hlen];omega))only[aw,simprocAttr,uz,lK,rJ,b1,b7,bV,N1,tH,ap,CE,nQ,ar,aM,bZ,dx,v1,v2,v3,FU,F0,Jm,Ci,z1,wO,N2,NT,NU,show∀R H,ez E 0 5 (uU _) R H=tJ (norm [7,9,31,32,33] R) H from λ R H=>sz rfl aK aK aK aK R H];rw[aSF wb rfl rfl hw.1.G.1 hw.1.O.1];simp(disch:=first|omega|(simp only[cR,hlen];omega))only[aw,simprocAttr,uz,lK,rJ,b1,b7,bV,N1,tH,ap,CE,nQ,ar,aM,bZ,dx,v1,v2,v3,FU,F0,Jm,Ci,z1,wO,N2,NT,NU,show∀R H,ez E 0 5 (uU _) R H=tJ (norm [7,9,31,32,33] R) H from λ R H=>sz rfl aK aK aK aK R H]
  |false=>rw[aj]at nQ;left;rw[cO zl 0];simp(disch:=first|omega|(simp only[cR,hlen];omega))only[aw,simprocAttr,uz,lK,ap,CE,nQ,NW,show∀R H,ez E 0 5 (uU _) R H=tJ (norm [7,9,31,32,33] R) H from λ R H=>sz rfl aK aK aK aK R H];exact be
 ·left;have CE:60<(s.length:Int):=aa;rw[cO zl 0];simp(disch:=first|omega|(simp only[cR,hlen];omega))only[aw,simprocAttr,uz,lK,ap,CE,NW,show∀R H,ez E 0 5 (uU _) R H=tJ (norm [7,9,31,32,33] R) H from λ R H=>sz rfl aK aK aK aK R H];exact be
def aT0{l:List CD}(ao:l.length≤6):∀(n k:Nat) (t u:M) (d:Nat) (Q:ab),k+n=l.length→WP t→WP u→cT hid t=cT hid u→t.bn=u.bn→(d=1∧Q=[.box (iQ t),.box (iQ u)]∨t=u∧t.gD=J∧d=3∧Q=[.box (aW t 1 0 2 0),.aE 5 0 0 (a7 t.G),.aE 5 0 0 (a7 t.O),.box (aW t 1 0 2 0)])→∀R H,oM 0 R H=([(7,.ptr (0) 0 0 0),(9,.ptr (d) 0 0 0),(31,.i (.af 3 (rL l) J)),(32,.i (.v (.int .i64 (l.length)))),(33,.i (.v (.int .i64 (k))))],Q)→
  ∃ex bY aq,tJ R H=j (ex,bY,aq)∧(ex=.ret∧bY=[(6,.i (.v (.bool (ah))))]∨ex=.exit 0):=by
 intro n;induction n with
 |zero=>
  intro k t u d Q aA hw bo he ax qy R H aR;obtain rfl:k=l.length:=aa;have hlen:=N0 l;unfold tJ;rw[aR,Br];generalize rL l=a1 at*;have e:ew E 0 5 (fu Tryz.f5 0) [(7,.ptr 0 0 0 0),(9,.ptr d 0 0 0),(31,.i (.af 3 a1 J)),(32,.i (.v (.int .i64 (l.length)))),(33,.i (.v (.int .i64 (l.length))))] Q=j (.exit 0,[(7,.ptr 0 0 0 0),(9,.ptr d 0 0 0),(31,.i (.af 3 a1 J)),(32,.i (.v (.int .i64 (l.length)))),(33,.i (.v (.int .i64 (l.length)))),(34,.i (.v (.bool (J))))],Q):=by rw[cO zl 0];simp(disch:=first|omega|(simp only[cR,hlen];omega))only[aw,simprocAttr,uz,lK,show∀R H,ez E 0 5 (uU _) R H=tJ (norm [7,9,31,32,33] R) H from λ R H=>sz rfl aK aK aK aK R H]
  exact⟨_,_,_,e,.inr rfl⟩
 |succ n a'=>
  intro k t u d Q aA hw bo he ax qy R H aR;obtain⟨⟨s,a,b⟩,ap⟩:∃x,l[k]?=j x:=⟨_,eC aa⟩;unfold tJ;rw[aR,Br];rcases aTZ ao ap hw bo he ax qy with⟨aq,e⟩|⟨t2,hl,bK,bJ,cL,e4,im,aq,cy,cN,fy,e⟩
  ·exact⟨_,_,_,e,.inl ⟨rfl,rfl⟩⟩
  ·rw[e];exact a' (k+1) t2 hl 1 _ aa bK bJ cL e4 (.inl ⟨rfl,rfl⟩) _ _ (aTX cy cN fy _ _ _)
def aT1(a b w h:Nat)(aF:a<256)(an:b<256)(hw:1≤w∧w≤132)(aV:1≤h∧h≤60)(aT2:Int.tmod (a:Int) 20+1=(w:Nat))(aT3:Int.tmod (b:Int) 8+1=(h:Nat))(l:List CD)(dN:l.length≤6):gV 5 [.i (.v (.int .u8 (a))),.i (.v (.int .u8 (b))),.i (.af 3 (rL l) J)] ah:=by
 have hlen:=N0 l;have aT4:¬6<(l.length:Int):=aa;have ar:=λ H=>akT w h hw aV H
 have ot:=WP.new hw aV;have wb:(jY w h).gD=J:=rfl;generalize jY w h=N at*;have ak:=aT0 dN l.length 0 N N _ _ aa ot ot rfl rfl (.inr ⟨rfl,wb,rfl,rfl⟩) [(7,.ptr (2) 0 0 0),(9,.ptr (3) 0 0 0),(31,.i (.af 3 (rL l) J)),(32,.i (.v (.int .i64 (l.length)))),(33,.i (.v (.int .i64 (0))))] [.aE 5 0 0 (a7 N.G),.aE 5 0 0 (a7 N.O),.box (aW N 0 0 1 0),.box (aW N 0 0 1 0)] (aTY wb _ _ _);obtain⟨ex,bY,aq,aM,U⟩:=ak;generalize rL l=a1 at*;refine bE zl ?_;simp(disch:=first|omega|(simp only[cR];omega))only[aw,simprocAttr,uz,lK,rJ,b1,b7,bV,tH,hlen,aT4,aT2,aT3,ar,show∀R H,ez E 0 5 (uU _) R H=tJ (norm [7,9,31,32,33] R) H from λ R H=>sz rfl aK aK aK aK R H];rw[akU wb,aM];rcases U with⟨rfl,rfl⟩|rfl
 ·simp(disch:=first|omega|(simp only[cR];omega))only[aw,simprocAttr,uz,lK];exact be
 ·simp(disch:=first|omega|(simp only[cR];omega))only[aw,simprocAttr,uz,lK,NW];exact be
def c5(a b:Nat)(aF:a<256)(an:b<256)(l:List CD)(ao:l.length≤9223372036854775807):gV 5 [.i (.v (.int .u8 (a))),.i (.v (.int .u8 (b))),.i (.af 3 (rL l) J)] ah:=by
 have hlen:=N0 l;by_cases p:l.length≤6
 ·exact aT1 a b (a%20+1) (b%8+1) aF an aa aa (by rw[aiD aa];omega) (by rw[aiD aa];omega) l p
 ·have gw:6<(l.length:Int):=aa;refine bE zl ?_;simp(disch:=first|omega|(simp only[cR];omega))only[aw,simprocAttr,uz,lK,gw,hlen,NW];exact be
end Go.VI
namespace Go.VI
open Go.Lib
open Go.Proofs
open Go.RowKit
open Go.Shelf
open Go.Proofs.Tryz
set_option maxRecDepth 100000
set_option maxHeartbeats 40000000
set_option linter.unusedVariables false
set_option linter.unusedSimpArgs false
set_option linter.defProp false
def Jn{ad:cn}{ae:cj}{H:ab}{a:ay}{vs:Array Value}(h:pF ad ae H [a] vs):∃x,vs=#[x]∧bf ad ae H a x:=by
 obtain⟨aU,ak⟩:=h;obtain⟨l⟩:=vs
 match l,aU with
 |[x],_=>exact⟨x,rfl,ak 0 a rfl⟩
def ale{ad:cn}{a:bx}{v:Value}(h:dH ad a v):v.oneCell'=ah:=by
 cases h
 ·assumption
 all_goals rfl
section
variable{E:Env}{ad:cn}{ae:cj}{H:ab}{w:World}
def CF(au:cf E ad ae H w){ft:World}(an:Below w.heap.size w ft):cz E ad ae H w H ft λ aQ aG=>aQ=ad∧aG=ae:=by
 have hold:=an.block;refine⟨ad,ae,⟨λ b al h=>?_,λ c x ap=>(au.ch c x ap).mono (λ _=>rfl) (λ _ _ h=>h) (fz.refl _ _ _) λ r b n h=>hold b (au.sep _ _ _ h).2.1,au.inj,λ c b n h=>?_,au.fv⟩,
  ⟨an.os,an.tape,an.output,an.size,λ b h _=>hold b h,λ _ _ h=>h,λ b h=>.inl h,λ c b n h=>.inr ⟨_,_,h⟩⟩,fz.refl _ _ _,rfl,rfl⟩
 ·have:=au.ei b al h;rw[hold b (kg.1 this).1];exact this
 ·obtain⟨p,U,az⟩:=au.sep _ _ _ h;exact⟨p,wx U an.size,az⟩
end
section
variable{E:Env}{ad:cn}{ae:cj}{H:ab}{w:World}
def UF(au:cf E ad ae H w){av:World}(an:Below w.heap.size w av){g:Nat}(aR:w.heap.size≤g){cs:Array Value}{elem:TypeId}{bs:Nat×Nat}(qo:av.heap[g]?=j (.cells cs elem bs))(hs:wy bs cs.size)
  {aD:Nat}{rows:cb}(bp:0<aD)(aN:Flat aD rows)(eN:∀(i:Nat) (r:cZ) (k:Nat) (a:bx),rows[i]?=j r→r[k]?=j a→dH ad a (cs.getD (i*aD+k) undef))(hle:rows.length*aD≤cs.size){cap:Nat}(j4:rows.length≤cap)(fp:cap*aD≤cs.size):
  cz E ad ae H w (H++[.af aD 0 rows J]) av λ aQ aG=>bf aQ aG (H++[.af aD 0 rows J]) (.ref H.length 0 0 rows.length) (.slice (j ⟨g,0,o⟩) rows.length cap):=by
 have n1:g<av.heap.size:=(kg.1 qo).1;have hold:=an.block;have hm:fz ad ae H ad (gv ae H.length g cs.size) (H++[.af aD 0 rows J]):=by
  refine ng (λ _ _ h=>h) aX λ c aj=>?_
  exact jw.same (by rw[eO aj]) (λ r=>by simp[gv,show c≠H.length by omega])
 have h8:∀(c:fK) b n,gv ae H.length g cs.size c=j (b,n)→(c=⟨H.length,0⟩∧b=g∧n=cs.size)∨ae c=j (b,n):=by
  intro c b n h;unfold gv at h;split at h
  ·cases h;exact .inl ⟨by assumption,rfl,rfl⟩
  ·exact .inr h
 refine⟨ad,gv ae H.length g cs.size,⟨λ b al an=>?_,λ c x ap=>?_,λ c cv b n dT p U=>?_,λ c b n h=>?_,au.fv⟩,⟨an.os,an.tape,an.output,an.size,λ b iZ _=>hold b iZ,λ _ _ h=>h,λ b h=>.inl h,λ c b n h=>?_⟩,hm,?_⟩
 ·have:=au.ei b al an;have bg:b<w.heap.size:=(kg.1 this).1;rw[hold b bg];exact this
 ·by_cases aj:c<H.length
  ·rw[eO aj]at ap;refine(au.ch c x ap).mono (λ r=>by simp[gv,show c≠H.length by omega]) (λ _ _ h=>h) hm λ r b n h=>hold b (au.sep _ _ _ h).2.1
  ·have:c=H.length:=by have:=(bQ.1 ap).1;simp at this;omega
   subst this;simp at ap;subst ap;exact⟨λ e=>aa,aN,.inr ⟨g,cs,elem,bs,by simp[gv],qo,hs,hle,λ h=>(by cases h),eN⟩⟩
 ·rcases h8 _ _ _ p with⟨rfl,rfl,rfl⟩|ar
  ·rcases h8 _ _ _ U with⟨e,_,_⟩|aM
   ·exact e.symm
   ·have:=(au.sep _ _ _ aM).2.1;omega
  ·rcases h8 _ _ _ U with⟨e,rfl,_⟩|aM
   ·have:=(au.sep _ _ _ ar).2.1;omega
   ·exact au.inj _ _ _ _ _ ar aM
 ·rcases h8 _ _ _ h with⟨rfl,rfl,rfl⟩|ar
  ·refine⟨?_,n1,aX⟩;cases cr:ad b with
   |none=>rfl
   |some al=>have:=(kg.1 (au.ei _ _ cr)).1;omega
  ·have:=au.sep _ _ _ ar;exact⟨this.1,wx this.2.1 an.size,by simp;omega⟩
 ·rcases h8 _ _ _ h with⟨rfl,rfl,rfl⟩|ar
  ·exact .inl aR
  ·exact .inr ⟨_,_,ar⟩
 ·refine .ref _ _ _ _ _ aX (λ RD dv io h=>?_) (λ _ _ _ h=>by simp at h) ⟨_,_,rfl⟩ (λ _ _ _ _ h=>aa);simp at h;obtain⟨rfl,rfl,rfl⟩:=h;exact⟨aa,_,_,rfl,.inr ⟨g,cs.size,by simp[gv],aa,by simpa using fp,.inl aX⟩⟩
def N3(au:cf E ad ae H w){av:World}(an:Below w.heap.size w av){z:Nat}(bp:0<z)(a:Option Addr):cz E ad ae H w (H++[.af z 0 [] J]) av λ aQ aG=>bf aQ aG (H++[.af z 0 [] J]) (.ref H.length 0 0 0) (.slice a 0 0):=by
 refine(CF au an).trans λ eI ey dR _ _ _=>?_
 have gd:ey H.length=o:=by
  cases h:ey H.length with
  |none=>rfl
  |some I=>have:=dR.C_ (b:=I.1) (n:=I.2) h;omega
 have hm:fz eI ey H eI ey (H++[.af z 0 [] J]):=ng (λ _ _ h=>h) aX λ c aj=>jw.same (by rw[eO aj]) (λ _=>rfl)
 refine⟨eI,ey,⟨dR.ei,λ c x ap=>?_,dR.inj,λ c b n h=>by have:=dR.sep c b n h;exact⟨this.1,this.2.1,by simp;omega⟩,dR.fv⟩,Trans.refl _ _ _,hm,?_⟩
 ·by_cases aj:c<H.length
  ·rw[eO aj]at ap;exact(dR.ch c x ap).mono (λ _=>rfl) (λ _ _ h=>h) hm (λ _ _ _ _=>rfl)
  ·have:c=H.length:=by have:=(bQ.1 ap).1;simp at this;omega
   subst this;simp at ap;subst ap;exact⟨λ e=>aa,λ i r h=>by simp at h,.inl ⟨gd,rfl⟩⟩
 ·refine .ref _ _ _ _ _ aX (λ RD dv io h=>?_) (λ _ _ _ h=>by simp at h) ⟨_,_,rfl⟩ (λ _ _ _ _ h=>aa);simp at h;obtain⟨rfl,rfl,rfl⟩:=h;exact⟨aX,_,_,rfl,.inl ⟨gd,rfl⟩⟩
def alf(P:Program)(f:FuncId)(z:Nat)(T:TypeId):Prop:=
 (∀(ia:Addr) (n c:Nat) (fD:k8) (w:World),fD.length=n*z→n≤1000000000→(∀ac u,fD[ac]?=j u→w.cell? (ia.add ac)=j u)→(∀u∈fD,u.oneCell'=ah)→
  Calls P f #[.slice (j ia) n c] w λ e av=>∃gJ,e=.returned gJ∧av.ownsRow w.heap.size T z gJ n fD∧Below w.heap.size w av)∧
 ∀(n c:Nat) (w:World),Calls P f #[.slice o n c] w λ e av=>e=.returned (.slice o 0 0)∧av=w
def UG{E:Env}{f:FuncId}{z:Nat}{T:TypeId}(bp:0<z)(cD:alf E.P f z T):sA E f (mP z):=by
 intro args H r aq ak ad ae w vs au b9;unfold mP at ak;split at ak
 next fT rows ex=>
  split at ak
  next aj=>
   obtain⟨rfl,fF⟩:=aj;cases ak;obtain⟨y,rfl,g_⟩:=Jn b9;cases ji g_ with
   |nil _ _ a cap ap=>
    cases a with
    |none=>
     refine(cD.2 0 cap w).mono λ e av ⟨p,U⟩=>?_
     subst p U;exact⟨_,rfl,N3 au (tK _ _) bp o⟩
    |some ia=>
     refine(cD.1 ia 0 cap [] w aX bU (λ ac u bc=>by cases bc) (λ u hu=>by cases hu)).mono λ e av ⟨gJ,he,jj,pi⟩=>?_
     subst he;obtain⟨_,bo⟩:=jj;rcases bo with⟨rfl,_⟩|⟨g,D',kH,rfl,CG,kj,CH,_,eQ,_⟩
     ·exact⟨_,rfl,N3 au pi bp o⟩
     ·exact⟨_,rfl,UF au pi CG kj (qf _) bp (λ i r h=>by simp at h) (λ i r k a h=>by simp at h) aX CH aa⟩
   |af _ _ _ b off cap cs elem bs dn cr j4 ap ib p U=>
    have Jo:=au.ei b _ cr;have uc:∀i k,i<rows.length→k<fT→cs[off+i*fT+k]?=j (dn i k)∧(dn i k).oneCell'=ah:=by intro i k aB aA;have oo:rows[i]?=j rows[i]:=eC aB;have hlen:=ib i _ oo;have Jp:rows[i][k]?=j rows[i][k]:=eC aa;exact⟨p i _ k _ oo Jp,ale (U i _ k _ oo Jp)⟩
    have Ov:∀ac,ac/fT*fT+ac%fT=ac:=λ ac=>by rw[wD];exact AA _ _
    have r_:∀ac,ac<rows.length*fT→cs[off+ac]?=j (dn (ac/fT) (ac%fT))∧(dn (ac/fT) (ac%fT)).oneCell'=ah:=by intro ac bc;have:=uc (ac/fT) (ac%fT) ((JP bp).2 bc) (Df _ bp);rw[vb,Ov]at this;exact this
    have Jq:∀ac u,((hB (rows.length*fT)).map λ ac=>dn (ac/fT) (ac%fT))[ac]?=j u→ac<rows.length*fT∧u=dn (ac/fT) (ac%fT):=by
     intro ac u bc;rw[fQ]at bc;by_cases bg:ac<rows.length*fT
     ·rw[D_ bg]at bc;simp only[eH,br]at bc;exact⟨bg,bc.symm⟩
     ·rw[sd (by simp;omega)]at bc;cases bc
    refine(cD.1 ⟨b,off,o⟩ rows.length cap ((hB (rows.length*fT)).map λ ac=>dn (ac/fT) (ac%fT)) w aX fF (λ ac u bc=>?_) (λ u hu=>?_)).mono λ e av ⟨gJ,he,jj,pi⟩=>?_
    ·obtain⟨bg,rfl⟩:=Jq ac u bc;rw[Addr.add_lit];simp[q9,Jo,(r_ ac bg).1]
    ·obtain⟨ac,bc⟩:=QV hu;obtain⟨bg,rfl⟩:=Jq ac u bc;exact(r_ ac bg).2
    ·subst he;obtain⟨_,bo⟩:=jj;rcases bo with⟨rfl,hL⟩|⟨g,D',kH,rfl,CG,kj,CH,_,eQ,qJ⟩
     ·obtain rfl:rows=[]:=pq.1 hL;exact⟨_,rfl,N3 au pi bp o⟩
     ·have hle:rows.length*fT≤kH.size:=by rw[eQ];exact kF _ CH
      refine⟨_,rfl,UF au pi CG kj (qf _) bp ib (λ i r k a aB aA=>?_) hle CH aa⟩;have yC:i<rows.length:=(bQ.1 aB).1;have nk:k<fT:=by have:=(bQ.1 aA).1;rw[ib i r aB]at this;exact this
      have bc:i*fT+k<rows.length*fT:=by have:(i+1)*fT≤rows.length*fT:=kF _ yC;rw[hT]at this;omega
      have aP:(i*fT+k)/fT=i:=by rw[wD,Nat.mul_add_div bp,Nat.div_eq_of_lt nk,fr]
      have aT5:(i*fT+k)%fT=k:=by rw[wD,Nat.mul_add_mod,EW nk]
      have:(kH.toList.take (rows.length*fT))[i*fT+k]?=j (dn i k):=by rw[qJ,fQ,D_ bc];simp only[eH,br];rw[aP,aT5]
      rw[Ub bc]at this;have Ci:kH[i*fT+k]?=j (dn i k):=by simpa using this
      rw[dM,Ci];exact U i r k a aB aA
  ·cases ak
 ·cases ak
def aT6{E:Env}{f:FuncId}{z:Nat}{T:TypeId}(cD:alf E.P f 1 T):sA E f (uw z):=by
 intro args H r aq ak ad ae w vs au b9;unfold uw at ak;split at ak
 next fT rows ex=>
  split at ak
  next aj=>
   obtain⟨rfl,fF⟩:=aj;cases ak;refine(UG (E:=E) (f:=f) (T:=T) bU cD [.i (.af 1 rows ex)] H (.ref H.length 0 0 rows.length) (H++[.af 1 0 rows J]) (by unfold mP;exact if_pos ⟨rfl,fF⟩) ad ae w vs au b9).mono λ e av ⟨x,he,k⟩=>?_
   exact⟨x,he,O' (z:=z) au k⟩
  ·cases ak
 next c g al n=>
  unfold Q6 at ak;split at ak;rotate_left
  ·cases ak
  rename_i d new H1 aU;split at ak;rotate_left
  ·cases ak
  rename_i pB;simp only[br,bM]at ak;obtain⟨rfl,rfl⟩:=ak;obtain⟨y,rfl,g_⟩:=Jn b9;obtain⟨g2,off,s2,dv,_,nR,ci,gd,rfl,eY,a,cap,rfl,ns,kL,qn,se⟩:=Kq E.P au g_ aU;have fS:d<H.length:=(bQ.1 nR).1;have qk:∀(i:Nat) (y:er),i<new.length→dv[off+i]?=j y→nd ad ae w z d (off+i) y (eY.getD i undef):=λ i y aB bb=>qn i y (by rw[gd i aB];exact bb)
  have Pk:(H.set d (Chunk.aE z g2 (s2+1) (fB dv off new.length))).length=H.length:=aX;have ub:∀av:World,new=[]→Below w.heap.size w av→cz E ad ae H w (H.set d (Chunk.aE z g2 (s2+1) (fB dv off new.length))++[.aE z 0 0 new]) av λ aQ aG=>bf aQ aG (H.set d (Chunk.aE z g2 (s2+1) (fB dv off new.length))++[.aE z 0 0 new]) (.x (.d (H.set d (Chunk.aE z g2 (s2+1) (fB dv off new.length))).length 0 0 new.length)) (.slice o 0 0):=by
   intro av a8 an;subst a8;refine(CF au an).trans λ eI ey dR _ _ ar=>?_
   obtain⟨rfl,rfl⟩:=ar;obtain⟨fs,eW,i1,hn,kK,_⟩:=Dy dR nR (g1:=g2) (s1:=s2+1) (vl:=fB dv off 0) (.inr ⟨rfl,aa,by rw[tc]⟩) (by rw[tc];exact cS _) (λ i y bb=>by rw[tc]at bb;exact bb);obtain⟨kn,ko,GP,yI,Dx,GQ⟩:=Pf i1 z o;exact⟨kn,ko,GP,hn.trans yI,kK.trans Dx,GQ⟩
  cases a with
  |none=>
   have a8:new=[]:=by
    cases new with
    |nil=>rfl
    |cons q l=>obtain⟨ia,p,_⟩:=se 0 aX;cases p
   refine(cD.2 new.length cap w).mono λ e av ⟨p,U⟩=>?_
   subst p U;exact⟨_,rfl,ub _ a8 (tK _ _)⟩
  |some ia=>
   refine(cD.1 ia new.length cap eY.toList w (by simp[kL]) pB (λ ac u bc=>?_) (λ u hu=>?_)).mono λ e av ⟨gJ,he,jj,pi⟩=>?_
   ·have kM:ac<new.length:=by have:=(bQ.1 bc).1;simpa[kL]using this
    obtain⟨aVY,p,U⟩:=se ac kM;cases p;rw[U];simp only[nM]at bc;rw[dM,bc];rfl
   ·obtain⟨ac,bc⟩:=QV hu;have kM:ac<new.length:=by have:=(bQ.1 bc).1;simpa[kL]using this
    simp only[nM]at bc;have:=(qn ac _ (eC kM)).one;rwa [dM,bc]at this
   subst he;obtain⟨_,bo⟩:=jj;rcases bo with⟨rfl,hL⟩|⟨ai,D',kH,rfl,CG,kj,CH,_,eQ,qJ⟩
   ·exact⟨_,rfl,ub _ (pq.1 hL) pi⟩
   ·refine⟨_,rfl,?_⟩;rw[Pk];have rb:∀ac,ac<new.length→kH.getD ac undef=eY.getD ac undef:=by
     intro ac bc;have p:(kH.toList.take (new.length*1))[ac]?=eY.toList[ac]?:=by rw[qJ]
     rw[Ub aa,nM,nM]at p;rw[dM,dM,p]
    refine Du au (c:=H.length) (d:=d) (I:=0) (rows:=[]) (cs:=#[]) (eY:=eY) (fm:=ai) (jA:=kH) (ar:=T) (wQ:=(0,0)) (av:=av) (n:=new.length) (off:=off) (e3:=new) (g1:=0) (s1:=0) (z:=z) (g2:=g2) (s2:=s2) (dv:=dv)
      aa nR ci aX (by rw[hK aX];simp) (by rw[eO (by simpa using fS)];simp[fS]) (λ e p U=>?_) (λ h=>aa) kj (qf _) aa (.inr CG) (λ b an _=>pi.block b an) pi.size pi.os pi.tape pi.output
     qk (λ ac y bc=>by simp at bc) (λ ac y bc=>?_) (λ aG hJ=>?_)
    ·by_cases az:e<H.length
     · rw[eO (by simpa using az),dW (bi U)]
     · rw[sd (by simp;omega),sd aa]
    ·have l3:=(bQ.1 bc).1;exact .inl ⟨ac,l3,aa,by rw[←gd ac l3];exact bc,rb ac l3⟩
    ·refine .x _ _ ⟨aX,⟨_,_,rfl⟩,λ ds a6 dB e3 h=>?_⟩ (.d (show(H.set d (Chunk.aE z g2 (s2+1) (fB dv off new.length))++[Chunk.aE z 0 0 new])[H.length]?=j (.aE z 0 0 new)from by rw[hK aX];simp));rw[hK aX]at h;simp at h;obtain⟨rfl,rfl,rfl,rfl⟩:=h;exact⟨cS _,λ _=>⟨aa,_,_,rfl,.inr ⟨_,_,hJ,aa,aa,.inl rfl⟩⟩⟩
 ·cases ak
end
def aT7(ia:Addr)(n c:Nat)(fD:k8)(w:World)(bp:fD.length=n*1)(pB:n≤1000000000)(aj:∀ac u,fD[ac]?=j u→w.cell? (ia.add ac)=j u)(p:∀u∈fD,u.oneCell'=ah):
  Calls prog 46 #[.slice (j ia) n c] w λ e av=>∃gJ,e=.returned gJ∧av.ownsRow w.heap.size 4 1 gJ n fD∧Below w.heap.size w av:=by
 obtain⟨i0,aB,oS,j5,km⟩:=info_parts (show(prog.info? 4).map (λ i=>(i.zero,i.size,i.bytes))=j (j (.bool J),1,1)from aK);have CI:∀(w:World) (a:Option Addr) (n c dT cv:Nat),(binOp .eql 38 (.slice a n c) (.slice o dT cv)).run prog w=.ok (.bool a.isNone) w:=λ w a n c dT cv=>CJ w _ _ a n c dT cv underlying38
 have UH:∀w,ud prog (underlying 38) w=.ok (UI 4) w:=run_underlying underlying38;have A:Aside (∀ac u,fD[ac]?=j u→w.cell? (ia.add ac)=j u):=aj;clear aj
 go_enter func46,ntmps46
 go_wp2_with (at_builtin;refine wpList_append_own _ rfl _ _ 38 rfl w.heap.size 4 i0 _ 1 1 underlying38 aB oS j5 km rfl bU _ _ _ rfl (UJ w #[] 0 (cS _) (iC _) rfl) ia n c fD rfl bp ?CK ?CL ?CM ?CN ?CO ?_)
 case CK=>intro ac u bc;exact UK _ (A.out ac u bc)
 case CL=>exact p
 case CM=>unfold maxLen;omega
 case CN=>omega
 case CO=>simp
 intro gJ gf jj CP wT
 go_wp2
 go_ret
 exact⟨gJ,rfl,by simpa using jj,((tK _ w).alloc (cS _) _).grown CP aX (by intro k aA;simp[UL]at aA;omega)⟩
def aT8(n c:Nat)(w:World):Calls prog 46 #[.slice o n c] w λ e av=>e=.returned (.slice o 0 0)∧av=w:=by
 have CI:∀(w:World) (a:Option Addr) (n c dT cv:Nat),(binOp .eql 38 (.slice a n c) (.slice o dT cv)).run prog w=.ok (.bool a.isNone) w:=λ w a n c dT cv=>CJ w _ _ a n c dT cv underlying38
 go_enter func46,ntmps46
 go_wp2
 go_ret
 exact⟨rfl,rfl⟩
def aT9:sA E 46 (mP 1):=UG (T:=4) bU ⟨aT7,aT8⟩
def aT_(ia:Addr)(n c:Nat)(fD:k8)(w:World)(bp:fD.length=n*1)(pB:n≤1000000000)(aj:∀ac u,fD[ac]?=j u→w.cell? (ia.add ac)=j u)(p:∀u∈fD,u.oneCell'=ah):
  Calls prog 78 #[.slice (j ia) n c] w λ e av=>∃gJ,e=.returned gJ∧av.ownsRow w.heap.size 65 1 gJ n fD∧Below w.heap.size w av:=by
 obtain⟨i0,aB,oS,j5,km⟩:=info_parts (show(prog.info? 65).map (λ i=>(i.zero,i.size,i.bytes))=j (j (.slice o 0 0),1,24)from aK);have CI:∀(w:World) (a:Option Addr) (n c dT cv:Nat),(binOp .eql 26 (.slice a n c) (.slice o dT cv)).run prog w=.ok (.bool a.isNone) w:=λ w a n c dT cv=>CJ w _ _ a n c dT cv underlying26
 have UH:∀w,ud prog (underlying 26) w=.ok (UI 65) w:=run_underlying underlying26;have A:Aside (∀ac u,fD[ac]?=j u→w.cell? (ia.add ac)=j u):=aj;clear aj
 go_enter func78,ntmps78
 go_wp2_with (at_builtin;refine wpList_append_own _ rfl _ _ 26 rfl w.heap.size 65 i0 _ 1 24 underlying26 aB oS j5 km rfl bU _ _ _ rfl (UJ w #[] 0 (cS _) (iC _) rfl) ia n c fD rfl bp ?CK ?CL ?CM ?CN ?CO ?_)
 case CK=>intro ac u bc;exact UK _ (A.out ac u bc)
 case CL=>exact p
 case CM=>unfold maxLen;omega
 case CN=>omega
 case CO=>simp
 intro gJ gf jj CP wT
 go_wp2
 go_ret
 exact⟨gJ,rfl,by simpa using jj,((tK _ w).alloc (cS _) _).grown CP aX (by intro k aA;simp[UL]at aA;omega)⟩
def aT'(n c:Nat)(w:World):Calls prog 78 #[.slice o n c] w λ e av=>e=.returned (.slice o 0 0)∧av=w:=by
 have CI:∀(w:World) (a:Option Addr) (n c dT cv:Nat),(binOp .eql 26 (.slice a n c) (.slice o dT cv)).run prog w=.ok (.bool a.isNone) w:=λ w a n c dT cv=>CJ w _ _ a n c dT cv underlying26
 go_enter func78,ntmps78
 go_wp2
 go_ret
 exact⟨rfl,rfl⟩
def aUa:sA E 78 (uw 5):=aT6 (T:=65) ⟨aT_,aT'⟩
def aUb(ia:Addr)(n c:Nat)(fD:k8)(w:World)(bp:fD.length=n*5)(pB:n≤1000000000)(aj:∀ac u,fD[ac]?=j u→w.cell? (ia.add ac)=j u)(p:∀u∈fD,u.oneCell'=ah):
  Calls prog 79 #[.slice (j ia) n c] w λ e av=>∃gJ,e=.returned gJ∧av.ownsRow w.heap.size 67 5 gJ n fD∧Below w.heap.size w av:=by
 obtain⟨i0,aB,oS,j5,km⟩:=info_parts (show(prog.info? 67).map (λ i=>(i.zero,i.size,i.bytes))=j (j (.agg #[.string ⟨#[]⟩,.int .i64 0,.int .i64 0,.int .i64 0,.int .i64 0]),5,48)from aK);have CI:∀(w:World) (a:Option Addr) (n c dT cv:Nat),(binOp .eql 65 (.slice a n c) (.slice o dT cv)).run prog w=.ok (.bool a.isNone) w:=λ w a n c dT cv=>CJ w _ _ a n c dT cv underlying65
 have UH:∀w,ud prog (underlying 65) w=.ok (UI 67) w:=run_underlying underlying65;have A:Aside (∀ac u,fD[ac]?=j u→w.cell? (ia.add ac)=j u):=aj;clear aj
 go_enter func79,ntmps79
 go_wp2_with (at_builtin;refine wpList_append_own _ rfl _ _ 65 rfl w.heap.size 67 i0 _ 5 48 underlying65 aB oS j5 km rfl bU _ _ _ rfl (UJ w #[] 0 (cS _) (iC _) rfl) ia n c fD rfl bp ?CK ?CL ?CM ?CN ?CO ?_)
 case CK=>intro ac u bc;exact UK _ (A.out ac u bc)
 case CL=>exact p
 case CM=>unfold maxLen;omega
 case CN=>omega
 case CO=>simp
 intro gJ gf jj CP wT
 go_wp2
 go_ret
 exact⟨gJ,rfl,by simpa using jj,((tK _ w).alloc (cS _) _).grown CP aX (by intro k aA;simp[UL]at aA;omega)⟩
def aUc(n c:Nat)(w:World):Calls prog 79 #[.slice o n c] w λ e av=>e=.returned (.slice o 0 0)∧av=w:=by
 have CI:∀(w:World) (a:Option Addr) (n c dT cv:Nat),(binOp .eql 65 (.slice a n c) (.slice o dT cv)).run prog w=.ok (.bool a.isNone) w:=λ w a n c dT cv=>CJ w _ _ a n c dT cv underlying65
 go_enter func79,ntmps79
 go_wp2
 go_ret
 exact⟨rfl,rfl⟩
def aUd:sA E 79 (mP 5):=UG (T:=67) bU ⟨aUb,aUc⟩
def lV(x:Int):Bool:=(x !=66) &&(x !=48)
def Jr(x:Int)(w:World):Calls prog 63 #[.int .u8 x] w λ e av=>e=.returned (.bool (lV x))∧av=w:=by
 go_enter func63,ntmps63
 unfold lV;by_cases h:x=66
 ·subst h
  go_wp2
  go_ret
  exact⟨rfl,rfl⟩
 ·have p:(x !=66)=ah:=by simpa using h
  go_wp2
  go_ret
  exact⟨by simp[p],rfl⟩
def aUe(a b:Int)(B c:Nat)(w:World)(a8:w.cell? ⟨B,0,o⟩=j (.int .u8 a))(p:w.cell? ⟨B,1,o⟩=j (.int .u8 b)):
  Calls prog 119 #[.slice (j ⟨B,0,o⟩) 2 c,.func (.func 63) #[] #[]] w λ e av=>e=.returned (.int .i64 (if lV a=ah then 0 else if lV b=ah then 1 else-1))∧av=w:=by
 cases aF:lV a with
 |true=>
  rw[if_pos rfl]
  go_enter func119,ntmps119
  go_wp2
  refine wp_loop_rounds 3 ?_;rw[rounds_succ]
  go_wp2_with (go_at_call 63;refine(Jr a w).mono ?_;rw[aF];rintro e av ⟨rfl,rfl⟩)
  go_wp2
  go_ret
  exact⟨rfl,rfl⟩
 |false=>
  rw[if_neg aX];cases an:lV b with
  |true=>
   rw[if_pos rfl]
   go_enter func119,ntmps119
   go_wp2
   refine wp_loop_rounds 3 ?_;rw[rounds_succ]
   go_wp2_with (go_at_call 63;refine(Jr a w).mono ?_;rw[aF];rintro e av ⟨rfl,rfl⟩)
   go_wp2
   rw[rounds_succ]
   go_wp2_with (go_at_call 63;refine(Jr b av).mono ?_;rw[an];rintro e av ⟨rfl,rfl⟩)
   go_wp2
   go_ret
   exact⟨rfl,rfl⟩
  |false=>
   rw[if_neg aX]
   go_enter func119,ntmps119
   go_wp2
   refine wp_loop_rounds 3 ?_;rw[rounds_succ]
   go_wp2_with (go_at_call 63;refine(Jr a w).mono ?_;rw[aF];rintro e av ⟨rfl,rfl⟩)
   go_wp2
   rw[rounds_succ]
   go_wp2_with (go_at_call 63;refine(Jr b av).mono ?_;rw[an];rintro e av ⟨rfl,rfl⟩)
   go_wp2
   rw[rounds_succ]
   go_wp2
   go_ret
   exact⟨rfl,rfl⟩
def aUf(a b s:Int):Ee a b s=((!lV a) &&(!lV b) &&(s==0||s==1)):=by unfold Ee lV;simp[bne]
def UM(a b:Int)(B c:Nat)(w:World)(a8:w.cell? ⟨B,0,o⟩=j (.int .u8 a))(p:w.cell? ⟨B,1,o⟩=j (.int .u8 b)):
  Calls prog 62 #[.slice (j ⟨B,0,o⟩) 2 c,.func (.func 63) #[] #[]] w λ e av=>e=.returned (.bool (lV a||lV b))∧av=w:=by
 cases aF:lV a<;>cases an:lV b
 all_goals
  go_enter func62,ntmps62
  go_wp2_with (go_at_call 119;refine(aUe a b B c w a8 p).mono ?_;simp only[aF,an,gk,if_true,if_false];rintro e av ⟨rfl,rfl⟩)
  go_wp2
  go_ret
  exact⟨rfl,rfl⟩
def aUg(a b s:Int)(w:World):Calls prog 31 #[.agg #[.int .u8 a,.int .u8 b],.int .i64 s] w λ e av=>e=.returned (.bool (Ee a b s))∧Below w.heap.size w av:=by
 rw[aUf];cases dc:lV a||lV b with
 |true=>
  have ak:((!lV a) &&(!lV b) &&(s==0||s==1))=J:=by cases p:lV a<;>cases U:lV b<;>simp_all
  rw[ak]
  go_enter func31,ntmps31
  go_wp2_with (go_at_call 62;refine(UM a b w.heap.size _ _ ((Js w _ _ 0).trans rfl) ((Js w _ _ 1).trans rfl)).mono ?_;rw[dc];rintro e av ⟨rfl,rfl⟩)
  go_wp2
  go_ret
  exact⟨rfl,(tK _ w).alloc (cS _) _⟩
 |false=>
  have ak:((!lV a) &&(!lV b) &&(s==0||s==1))=(s==0||s==1):=by cases p:lV a<;>cases U:lV b<;>simp_all
  rw[ak];by_cases a8:s=0
  ·subst a8
   go_enter func31,ntmps31
   go_wp2_with (go_at_call 62;refine(UM a b w.heap.size _ _ ((Js w _ _ 0).trans rfl) ((Js w _ _ 1).trans rfl)).mono ?_;rw[dc];rintro e av ⟨rfl,rfl⟩)
   go_wp2
   go_ret
   exact⟨rfl,(tK _ w).alloc (cS _) _⟩
  ·have Uj:(s==0)=J:=by simpa using a8
   go_enter func31,ntmps31
   go_wp2_with (go_at_call 62;refine(UM a b w.heap.size _ _ ((Js w _ _ 0).trans rfl) ((Js w _ _ 1).trans rfl)).mono ?_;rw[dc];rintro e av ⟨rfl,rfl⟩)
   go_wp2
   go_ret
   exact⟨by simp[Uj],(tK _ w).alloc (cS _) _⟩
def aUh:sA E 31 zc:=by
 intro args H r aq ak ad ae w vs au b9;unfold zc at ak;split at ak
 next a b s=>
  cases ak;obtain⟨x,y,rfl,p,U⟩:=Q7 b9;obtain rfl:=ga U;cases p with
  |agg _ cs ao aA=>
   have yL:=ga (aA 0 _ rfl);have bK:=ga (aA 1 _ rfl);obtain⟨l⟩:=cs
   match l,ao with
   |[gN,cm],_=>
    simp at yL bK;subst yL bK;refine(aUg a b s w).mono λ e av ⟨p,U⟩=>?_
    subst p;obtain⟨aQ,aG,cy,cN,fy,rfl,rfl⟩:=CF au U;exact⟨_,rfl,_,_,cy,cN,fy,.i _ _ (.v _ rfl)⟩
 ·cases ak
end Go.VI
namespace Go.VI
open Go.Proofs
open Go.RowKit
open Go.Shelf
open Go.Proofs.Tryz
set_option maxRecDepth 100000
set_option maxHeartbeats 40000000
set_option linter.unusedVariables false
set_option linter.unusedSimpArgs false
set_option linter.defProp false
attribute [local go_sem] Oper.semAt_some
def UN(a b:Int):bits .and .i64 a b=zh a b:=rfl
def aUi(nn:Nat)(cX bd co:Int)(w:World):CallsIn A6 nn prog 75 #[.agg #[.int .i64 cX,.int .i64 bd,.int .i64 co]] w λ e av=>e=.returned (.int .i64 (ux co))∧av=w.alloc (.cells #[.int .i64 cX,.int .i64 bd,.int .i64 co] 32):=by
 refine callsIn_of_wp func75 rfl trivial ?_ rfl;simp only[ntmps75,Dq,db,dl,Nat.reduceSub,Array.replicate_succ,Array.replicate_zero,List.push_toArray,List.append_toArray,hb,vF]
 gi_wp2
 all_goals go_ret
 all_goals refine⟨?_,rfl⟩
 all_goals simp_all [ux,UN]
abbrev uZ:=List UInt8×Int×Int×Int×Int
def CQ(x:uZ):cZ:=[.str x.1,.v (.int .i64 x.2.1),.v (.int .i64 x.2.2.1),.v (.int .i64 x.2.2.2.1),.v (.int .i64 x.2.2.2.2)]
def rM(x:uZ):aZ:=vE x.1 x.2.1 x.2.2.2.2
def alg:∀{rows:cb} {xs:aZ},Bv rows=j xs→∃dh:List uZ,rows=dh.map CQ∧xs=dh.flatMap rM
 |[],xs,h=>by simp only[Bv,br]at h;subst h;exact⟨[],rfl,rfl⟩
 |r::rows,xs,h=>by
  unfold Bv at h;split at h
  next a8=>cases a8
  next t w cX bd co gu FE=>injection FE with p U;subst p U;simp only[dp]at h;obtain⟨m,hm,rfl⟩:=h;obtain⟨dh,rfl,rfl⟩:=alg hm;exact⟨(t,w,cX,bd,co)::dh,rfl,rfl⟩
  ·cases h
def aUj{mv:cb}{xs:aZ}(h:xk mv=j xs):∃(dh:List uZ) (ex:Bool),mv=[[.af 5 (dh.map CQ) ex]]∧dh.length<1000000∧xs=dh.flatMap rM:=by
 unfold xk at h;split at h
 next rows ex=>
  split at h
  next ao=>obtain⟨dh,rfl,rfl⟩:=alg h;exact⟨dh,ex,rfl,by simpa using ao,rfl⟩
  ·cases h
 ·cases h
def aUk{ad:cn}{dh:List uZ}{ex:Bool}{v:Value}(h:dH ad (.af 5 (dh.map CQ) ex) v):∃b off cap UO,v=.slice UO dh.length cap∧(dh≠[]→UO=j ⟨b,off,o⟩)∧
  ∀W:World,(∀b al,ad b=j al→W.heap[b]?=j al)→∀(k:Nat) (x:uZ),dh[k]?=j x→W.cell? ⟨b,off+k*5,o⟩=j (.string ⟨⟨x.1⟩⟩)∧W.cell? ⟨b,off+k*5+1,o⟩=j (.int .i64 x.2.1)∧
   W.cell? ⟨b,off+k*5+2,o⟩=j (.int .i64 x.2.2.1)∧W.cell? ⟨b,off+k*5+3,o⟩=j (.int .i64 x.2.2.2.1)∧W.cell? ⟨b,off+k*5+4,o⟩=j (.int .i64 x.2.2.2.2):=by
 generalize ak:dh.map CQ=rows at h;cases h with
 |nil _ _ a cap ap=>
  obtain rfl:dh=[]:=by simpa using ak
  exact⟨0,0,cap,a,rfl,λ h=>absurd rfl h,λ W _ k t h=>by simp at h⟩
 |af _ _ _ b off cap cs elem bs dn cr j4 ap ib p U=>
  subst ak;refine⟨b,off,cap,j ⟨b,off,o⟩,aX,λ _=>rfl,λ W rn k t aA=>?_⟩;have Jo:=rn b _ cr;have b2:(dh.map CQ)[k]?=j (CQ t):=by simp[aA]
  have key:∀m a,(CQ t)[m]?=j a→W.cell? ⟨b,off+k*5+m,o⟩=j (dn k m)∧dH ad a (dn k m):=λ m a hm=>⟨by simp[q9,Jo,p k _ m a b2 hm],U k _ m a b2 hm⟩
  have conv:∀{x y:Value},dH ad (.v x) y→y=x:=λ r=>by cases r;rfl
  obtain⟨a0,iB⟩:=key 0 _ rfl;obtain⟨hD,g_⟩:=key 1 _ rfl;obtain⟨a2,qd⟩:=key 2 _ rfl;obtain⟨a3,HB⟩:=key 3 _ rfl;obtain⟨a4,A9⟩:=key 4 _ rfl;rw[conv g_]at hD;rw[conv qd]at a2;rw[conv HB]at a3;rw[conv A9]at a4;refine⟨?_,hD,a2,a3,a4⟩;rw[fr]at a0;rw[a0];generalize dn k 0=y at iB;cases iB;rfl
def Ae(dh:List uZ)(k:Nat):Nat:=((dh.take k).flatMap rM).length
def aUl{dh:List uZ}{k:Nat}{x:uZ}(ap:dh[k]?=j x):Ae dh (k+1)=Ae dh k+(rM x).length:=by unfold Ae;rw[List.take_add_one,ap];simp
def N4{dh:List uZ}{k:Nat}{x:uZ}{y:ay}(ap:dh[k]?=j x)(aR:rM x=[y]):(dh.flatMap rM)[Ae dh k]?=j y:=by
 obtain⟨h,rfl⟩:=bQ.1 ap;have e:dh.flatMap rM=(dh.take k).flatMap rM++(y::(dh.drop (k+1)).flatMap rM):=by
  conv=>lhs;rw[←Lo k dh,jk h,List.flatMap_append,zi,aR]
  rfl
 rw[e];show(_++_)[((dh.take k).flatMap rM).length]?=_;rw[hK (cS _),r7];rfl
def N5(ad:cn)(t:bm)(b:Bool)(n:Int):bf ad (λ _=>o) [] (Bu t b n) (.agg #[.string ⟨⟨t⟩⟩,.bool b,.int .i64 n]):=by
 refine .agg _ _ rfl λ m a hm=>?_
 match m,hm with
 |0,hm=>cases hm;exact .i _ _ (.str _)
 |1,hm=>cases hm;exact .i _ _ (.v _ rfl)
 |2,hm=>cases hm;exact .i _ _ (.v _ rfl)
def aUm:Yb prog 74 xk:=by
 intro l nn mv xs kG ad o0 yZ W fl hlen F1 alh JQ aUn c_ aUo uM a8;obtain⟨dh,ex,rfl,aVZ,rfl⟩:=aUj fl;obtain⟨fm,rfl⟩:∃fm,kG=[fm]:=by
  cases kG with
  |nil=>cases hlen
  |cons a kG=>cases kG with
   |nil=>exact⟨a,rfl⟩
   |cons b kG=>simp at hlen
 obtain⟨v,bo,iY⟩:=F1 0 fm _ rfl rfl 0 _ rfl;obtain⟨b,off,cap,UO,rfl,aUp,b2⟩:=aUk iY;have Vu:prog.follows .mixedOrders=ah:=aK;have aOg:A6.fn 75:=trivial;have aV0:A6.depth.isSome=J:=rfl;have N6:Aside (∀(m ac:Nat) (y:ay) (x:Value) (W:World),(dh.flatMap rM)[ac]?=j y→bf ad (λ _=>o) [] y x→o0 ac W→YieldAt A6 m prog l #[x] W λ e jT=>(e=.returned (.bool ah)∧o0 (ac+1) jT)∨(e=.returned (.bool J)∧yZ jT)):=uM;have ali:Aside (∀ac W jT,o0 ac W→Hw W.heap.size W jT→o0 ac jT):=c_;clear uM c_ aUo JQ aUn fl F1 iY hlen;refine callsIn_of_wp func74 rfl trivial ?_ rfl;simp only[Hx,fC,fN,ntmps74,Dq,db,dl,Nat.reduceSub,Array.replicate_succ,Array.replicate_zero,List.push_toArray,List.append_toArray,hb,vF]
 gi_wp2
 gi_loopw [8] (λ i wr=>∃k:Nat,i=.int .i64 k∧k≤dh.length∧o0 (Ae dh k) wr) (λ i _=>dh.length-(N7 i).toNat)
 case atStart=>exact⟨0,rfl,iC _,a8⟩
 case round=>
  obtain⟨k,rfl,aA,N8⟩:=hrel;by_cases bg:k<dh.length
  ·obtain⟨gN,cm,cp,c3,fU⟩:=b2 wr (alh _ wr N8) k _ (eC bg);obtain rfl:=aUp (λ e=>by subst e;simp at bg);clear b2 alh;have ap:dh[k]?=j dh[k]:=eC bg;generalize dh[k]=x at*;obtain⟨t,w,cX,bd,co⟩:=x;dsimp only at gN cm cp c3 fU
   gi_wp2
   gi_cut [5]from 9 (λ v5 alj=>(v5=.pointer (j ⟨wr.heap.size+1+1,0,o⟩)∧alj=(((wr.alloc (.cells #[.string ⟨⟨t⟩⟩,.int .i64 w,.int .i64 cX,.int .i64 bd,.int .i64 co] 67)).alloc (.cells #[.int .i64 cX,.int .i64 bd,.int .i64 co] 32)).alloc (.cells #[.string ⟨⟨t⟩⟩,.bool (w==2),.int .i64 (ux co)] 104)).drew)∨
    (v5=.pointer (j ⟨wr.heap.size+1,0,o⟩)∧alj=(((wr.alloc (.cells #[.string ⟨⟨t⟩⟩,.int .i64 w,.int .i64 cX,.int .i64 bd,.int .i64 co] 67)).alloc (.cells #[.string ⟨⟨t⟩⟩,.bool (w==2),.int .i64 (ux co)] 104)).alloc (.cells #[.int .i64 cX,.int .i64 bd,.int .i64 co] 32)).drew))
   case first=>
    rename_i aV1 aV2 UP G7
    gi_region_with_o (gi_at_call 75;refine(aUi _ _ _ _ _).mono ?_;rintro e av ⟨rfl,rfl⟩)
    all_goals first|refine G7 _ _ (.intro (UP _ _ ?_))|refine .intro (UP _ _ ?_)|refine UP _ _ ?_
    all_goals repeat apply Exists.intro
    all_goals refine⟨?_,rfl⟩
    all_goals first|exact .inl ⟨rfl,rfl⟩|exact .inr ⟨rfl,rfl⟩
   case rest=>
    have CR:=aUl ap;have UQ:∀g:Array Value,o0 (Ae dh k) (((wr.alloc (.cells #[.string ⟨⟨t⟩⟩,.int .i64 w,.int .i64 cX,.int .i64 bd,.int .i64 co] 67)).alloc (.cells #[.int .i64 cX,.int .i64 bd,.int .i64 co] 32)).alloc (.cells g 104)).drew∧o0 (Ae dh k) (((wr.alloc (.cells #[.string ⟨⟨t⟩⟩,.int .i64 w,.int .i64 cX,.int .i64 bd,.int .i64 co] 67)).alloc (.cells g 104)).alloc (.cells #[.int .i64 cX,.int .i64 bd,.int .i64 co] 32)).drew:=λ g=>
     ⟨ali.out _ wr _ N8 (((((tK _ wr).alloc (cS _) _).alloc (by simp<;>omega) _).alloc (by simp<;>omega) _).drew),ali.out _ wr _ N8 (((((tK _ wr).alloc (cS _) _).alloc (by simp<;>omega) _).alloc (by simp<;>omega) _).drew)⟩
    by_cases b9:zh co 64=0
    ·have HC:(bits .and .i64 co 64 !=0)=J:=by rw[UN,b9];rfl
     by_cases rn:w=0
     ·subst rn;have aR:rM (t,0,cX,bd,co)=[]:=by show vE t 0 co=[];unfold vE;rw[if_neg (λ h=>h b9),if_pos rfl]
      rw[aR,dS,fr]at CR;have bc:=UQ #[.string ⟨⟨t⟩⟩,.bool J,.int .i64 (ux co)];rcases hcut with⟨rfl,rfl⟩|⟨rfl,rfl⟩
      all_goals gi_wp2
      all_goals first|(exfalso;simp_all;done)|skip
      ·exact⟨⟨k+1,rfl,bg,by rw[CR];exact bc.1⟩,by simp[N7];omega⟩
      ·exact⟨⟨k+1,rfl,bg,by rw[CR];exact bc.2⟩,by simp[N7];omega⟩
     ·have aR:rM (t,w,cX,bd,co)=[Bu t (w==2) (ux co)]:=by show vE t w co=_;unfold vE;rw[if_neg (λ h=>h b9),if_neg rn];rfl
      rw[aR,List.length_singleton]at CR;have bc:=UQ #[.string ⟨⟨t⟩⟩,.bool (w==2),.int .i64 (ux co)];obtain⟨f1,t1,s1,d1,wB,Jt⟩:=N6.out (nn-1) _ _ _ _ (N4 ap aR) (N5 ad t (w==2) (ux co)) bc.1;obtain⟨f2,t2,s2,d2,yi,Ju⟩:=N6.out (nn-1) _ _ _ _ (N4 ap aR) (N5 ad t (w==2) (ux co)) bc.2;rcases hcut with⟨rfl,rfl⟩|⟨rfl,rfl⟩
      all_goals gi_wp2
      all_goals first|(exfalso;simp_all;done)|skip
      all_goals first
       |refine Jt.mono ?_
       |refine Ju.mono ?_
       |refine⟨trivial,Jt.mono ?_⟩
       |refine⟨trivial,Ju.mono ?_⟩
      all_goals rintro e aUq (⟨rfl,UR⟩|⟨rfl,US⟩)
      all_goals gi_wp2
      all_goals first|exact bodyPost_ret (results_none rfl _ _ _) rfl ⟨⟨_,rfl⟩,.inr US⟩|skip
      all_goals
       go_roundw
       case rel=>exact⟨k+1,aX,bg,by rw[CR];exact UR⟩
       case measure=>simp[N7];omega
    ·have HC:(bits .and .i64 co 64 !=0)=ah:=by rw[UN];simpa using b9
     have aR:rM (t,w,cX,bd,co)=[Bu [42] J 3]:=by show vE t w co=_;unfold vE;rw[if_pos b9]
     rw[aR,List.length_singleton]at CR;have bc:=UQ #[.string ⟨⟨[42]⟩⟩,.bool J,.int .i64 3];obtain⟨f1,t1,s1,d1,wB,Jt⟩:=N6.out (nn-1) _ _ _ _ (N4 ap aR) (N5 ad [42] J 3) bc.1;obtain⟨f2,t2,s2,d2,yi,Ju⟩:=N6.out (nn-1) _ _ _ _ (N4 ap aR) (N5 ad [42] J 3) bc.2;rcases hcut with⟨rfl,rfl⟩|⟨rfl,rfl⟩
     all_goals gi_wp2
     all_goals first|(exfalso;simp_all;done)|skip
     all_goals first
      |refine Jt.mono ?_
      |refine Ju.mono ?_
      |refine⟨trivial,Jt.mono ?_⟩
      |refine⟨trivial,Ju.mono ?_⟩
     all_goals rintro e aUq (⟨rfl,UR⟩|⟨rfl,US⟩)
     all_goals gi_wp2
     all_goals first|exact bodyPost_ret (results_none rfl _ _ _) rfl ⟨⟨_,rfl⟩,.inr US⟩|skip
     all_goals
      go_roundw
      case rel=>exact⟨k+1,aX,bg,by rw[CR];exact UR⟩
      case measure=>simp[N7];omega
  ·gi_wp2
   go_end0
   obtain rfl:k=dh.length:=aa;exact⟨⟨_,rfl⟩,.inl (by have h:=N8;unfold Ae at h;rwa [Ny]at h)⟩
def seqOK:Bk E:=by
 intro g L h;rcases azN g L h with⟨rfl,rfl⟩|h
 ·exact⟨aHY.2.1,aUm⟩
 ·exact h.elim
end Go.VI
namespace Go.VI
open Go.Lib
open Go.Proofs
open Go.RowKit
open Go.Shelf
open Go.Sort
open Go.Proofs.Tryz
set_option maxRecDepth 100000
set_option maxHeartbeats 40000000
set_option linter.unusedVariables false
set_option linter.unusedSimpArgs false
set_option linter.defProp false
variable{E:Env}{aY:Ren}{ad:cn}{ae:cj}{H:ab}{w:World}
def alk{ops:Array Oper}{rest:eh}{al:Oper}{a:Act}{Q:Exit→Act→World→Prop}(GU:al.guard=o)(s x:Operand)(t t2:TypeId)
  (ci:al.op=.call {callee:=.builtin .append,args:=#[s,x],argTypes:=#[t,t2]}) {aH alm v:ay} {aq:ab} (h:hR E H t t2 aH alm=j (v,aq)) (au:cf E ad ae H w)
  (di l8:Value) (aU:a.eval s=di) (ap:a.eval x=l8) (gu:bf ad ae H aH di) (rx:bf ad ae H alm l8)
  (k:∀u av aQ aG,cf E aQ aG aq av→Trans ad ae w aQ aG av→fz ad ae H aQ aG aq→bf aQ aG aq v u→wpList E.P ops Q rest (a.put al.dst u) av):wpList E.P ops Q (al::rest) a w:=
 wpList_plain GU λ _ j7=>by obtain⟨u,av,ak,aQ,aG,bK,bJ,cL,e4⟩:=Pq (eG:=al.type) au h gu rx;unfold Oper.wp execOp;simp only[ci,resolve,invoke,builtin,ep,e8,eM,List.map_toArray,fC,fN,aU,ap,ak];exact j7 _ _ (k u av aQ aG bK bJ cL e4)
def aUr(au:cf E ad ae H w){ft:World}{cs:Array Value}{elem:TypeId}{bs:Nat×Nat}(ci:ft.os=w.os)(bA:ft.tape=w.tape)(hu:ft.output=w.output)(eQ:w.heap.size<ft.heap.size)
  (hold:∀b,b<w.heap.size→ft.heap[b]?=w.heap[b]?)(gd:ft.heap[w.heap.size]?=j (.cells cs elem bs)):
  ∃aQ,cf E aQ ae H ft∧Trans ad ae w aQ ae ft∧fz ad ae H aQ ae H∧aQ w.heap.size=j (.cells cs elem bs):=by
 have uT:ad w.heap.size=o:=by
  cases cr:ad w.heap.size with
  |none=>rfl
  |some al=>have:=au.ei _ _ cr;simp at this
 let aQ:cn:=λ b=>if b=w.heap.size then j (.cells cs elem bs)else ad b
 have hle:ad.le aQ:=by
  intro b al an;have:b≠w.heap.size:=λ e=>by rw[e,uT]at an;cases an
  simp only[aQ,if_neg this,an]
 have hm:fz ad ae H aQ ae H:=ng hle (cS _) λ c aj=>jw.same rfl λ _=>rfl
 refine⟨aQ,⟨λ b al an=>?_,λ c x ap=>(au.ch c x ap).mono (λ _=>rfl) hle hm λ r b n h=>hold b (au.sep _ _ _ h).2.1,au.inj,λ c b n h=>?_,λ g cells aR=>(au.fv g cells aR).mono hle⟩,
  ⟨ci,bA,hu,Nat.le_of_lt eQ,λ b an _=>hold b an,hle,λ b an=>?_,λ c b n h=>.inr ⟨_,_,h⟩⟩,hm,by simp[aQ]⟩
 ·by_cases e:b=w.heap.size
  ·subst e;simp only[aQ,if_true,br]at an;rw[gd,an]
  ·simp only[aQ,if_neg e]at an;have:=au.ei b al an;rw[hold b (kg.1 this).1];exact this
 ·obtain⟨p,U,az⟩:=au.sep _ _ _ h;exact⟨by simp only[aQ,if_neg (show b≠w.heap.size by omega),p],aa,az⟩
 ·by_cases e:b=w.heap.size
  ·exact .inr (.inl aa)
  ·simp only[aQ,if_neg e]at an;exact .inl an
def aUs{t t2:TypeId}{s r:ay}{aq:ab}{l:bm}{ex:Bool}(bA:∃e,fw E.P t=j e)(h:hR E H t t2 s (.i (.str l))=j (r,aq)):
  hR E H t t s (.i (.af 1 (l.map λ b=>[bx.v (.int .u8 b.toNat)]) ex))=j (r,aq):=by
 obtain⟨e,he⟩:=bA;unfold hR at h⊢;rw[he]at h⊢;simp only[kD,h6]at h⊢;simp only[he,Rg,true_or,true_and];split at h
 next z b eB ds new gK p U az bh=>
  simp only[br,bM]at bh;obtain⟨rfl,rfl,rfl⟩:=bh;simp only[p,U,az];split at h
  next aj=>obtain⟨cm,cp,c3,fU,c5,l7⟩:=aj;rw[if_pos ⟨cm,cp,c3,c5,l7⟩];exact h
  ·cases h
 ·cases h
def aUt{g:Nat}(au:cf E ad ae H w)(aR:E.fv g=j pR)(ac:Nat)(bc:ac<20):w.cell? ⟨g,ac,o⟩=j (.int .u64 (tv.getD ac 0)):=by
 have h:=(au.fv g _ aR).1;generalize aj:pR=cells at h;generalize ax:Eg (j ⟨g,0,o⟩)=I at h;cases h with
 |gR _ _ b off cs elem bs dn cr p U=>
  simp at ax;obtain⟨rfl,a8⟩:=ax;subst aj;have kM:pR[ac]?=j (.v (.int .u64 (tv.getD ac 0))):=by
   have:ac<tv.length:=by rw[Lib.pow10Tab_length];exact bc
   simp[pR,IW,this]
  have ar:=p ac _ kM;have aM:=U ac _ kM;generalize dn ac=q at ar aM;cases aM with
  |v x ap=>have du:off=0:=aa;subst du;rw[cJ]at ar;simp[q9,au.ei _ _ cr,ar]
variable{E:Env}{aY:Ren}{ad:cn}{ae:cj}{H:ab}{w:World}
def aUu{P:Program}(L:LaysM.n284 P aY)(u:Nat)(p:1≤u)(U:u<18446744073709551616)(w:World)
  (Af:∀ac,ac<20→w.cell? ⟨aY.g 17,ac,o⟩=j (.int .u64 (tv.getD ac 0))):
  Calls P (aY.f 284) #[.int .u64 u] w λ e av=>e=.returned (.int .i64 (xV u))∧av=w:=by
 have mixed:=L.mixed;have t53:=L.t53;have a53:=L.a53;have z53:=L.z53;have v53:=L.v53
 have t3:=L.t3;have a3:=L.a3;have z3:=L.z3;have v3:=L.v3
 have t212:=L.t212;have a212:=L.a212;have z212:=L.z212;have v212:=L.v212
 have t0:=L.t0;have a0:=L.a0;have z0:=L.z0;have v0:=L.v0
 have t4:=L.t4;have a4:=L.a4;have z4:=L.z4;have v4:=L.v4
 have aV3:∀args w,(callFunc (aY.f 129) args).run P w=.ok (.enter (aY.f 129) args) w:=enters_of L.f129 aK rfl;have aV4:∀args w,(callFunc (aY.f 317) args).run P w=.ok (.enter (aY.f 317) args) w:=enters_of L.f317 aK rfl;have aV5:∀args w,(callFunc (aY.f 318) args).run P w=.ok (.enter (aY.f 318) args) w:=enters_of L.f318 aK rfl;obtain⟨F2,aUv⟩:=Lib.numDigits_eq u p U;have fl:Lib.bitLen u≤64:=Lib.bitLen_le u 64 (cS _) U;have eN:w.cell? ⟨(aY.g 17),Lib.l10 (Lib.bitLen u),o⟩=j (.int .u64 ((10^Lib.l10 (Lib.bitLen u):Nat):Int)):=by rw[Af _ aa,Lib.pow10Tab_at _ aa]
 have aUw:((u:Int)).toNat=u:=aa;generalize bu:Lib.l10 (Lib.bitLen u)=q at F2 aUv eN;generalize dO:10^q=T at F2 eN;have mJ:q<20:=aa;have aUx:=Lib.hid F2;clear F2 Af
 go_enter L.f284,Body.n284_ntmps aY
 go_wp2_with (first
  |(go_at_fn (aY.f 129);refine(Any.bits_Len64 {L with} _ _ aa aa).mono ?_;rintro e av ⟨rfl,rfl⟩)
  |(go_at_fn (aY.f 317);refine(Any.internal_strconv_log10Pow2 {L with} _ (by first|exact fl|(rw[aUw];exact fl)) _).mono ?_;rintro e av ⟨rfl,rfl⟩)
  |(go_at_fn (aY.f 318);refine(Any.internal_strconv_bool2_int {L with} _ _).mono ?_;rintro e av ⟨rfl,rfl⟩))
 all_goals go_ret
 all_goals (
  refine⟨?_,rfl⟩;have F2:=aUx.out
  congr 2
  split at F2<;>simp_all<;>omega)
def aUy(L:LaysM.n288 E.P aY)(u:Nat)(hu:u<100)(au:cf E ad ae H w){s r:ay}{aq:ab}{b3:Value}(gu:bf ad ae H s b3)
  (h:hR E H (aY.t 37) (aY.t 9) s (.i (.str (ow u)))=j (r,aq)):
  Calls E.P (aY.f 288) #[b3,.int .u64 u,.int .i64 10] w λ e av=>∃x,e=.returned x∧cz E ad ae H w aq av λ aQ aG=>bf aQ aG aq r x:=by
 have mixed:=L.mixed;have t5:=L.t5;have a5:=L.a5;have z5:=L.z5;have v5:=L.v5
 have t37:=L.t37;have UT:=run_underlying L.t37;have a37:=L.a37;have z37:=L.z37;have v37:=L.v37
 have t53:=L.t53;have a53:=L.a53;have z53:=L.z53;have v53:=L.v53
 have t3:=L.t3;have a3:=L.a3;have z3:=L.z3;have v3:=L.v3
 have t4:=L.t4;have a4:=L.a4;have z4:=L.z4;have v4:=L.v4
 have t9:=L.t9;have a9:=L.a9;have z9:=L.z9;have v9:=L.v9
 have t171:=L.t171;have a171:=L.a171;have z171:=L.z171;have v171:=L.v171
 have t0:=L.t0;have a0:=L.a0;have z0:=L.z0;have v0:=L.v0
 have t173:=L.t173;have a173:=L.a173;have z173:=L.z173;have v173:=L.v173
 have aV6:∀args w,(callFunc (aY.f 283) args).run E.P w=.ok (.enter (aY.f 283) args) w:=enters_of L.f283 aK rfl
 go_enter L.f288,Body.n288_ntmps aY
 go_wp2_with (first
  |(go_at_fn (aY.f 283);refine(Any.internal_strconv_small {L with} u hu _).mono ?_;rintro e av ⟨rfl,rfl⟩)
  |(at_builtin;refine alk rfl _ _ (aY.t 37) (aY.t 9) rfl h au _ _ rfl rfl gu (.i _ _ (.str _)) ?_))
 intro x gf eI ey dR mD hM pw
 go_wp2
 go_ret
 exact⟨x,rfl,eI,ey,dR,mD,hM,pw⟩
def aUz(L:LaysM.n288 E.P aY)(u:Nat)(hu:100≤u)(F3:u<18446744073709551616)(au:cf E ad ae H w){s r:ay}{aq:ab}{b3:Value}(gu:bf ad ae H s b3)
  (Af:∀ac,ac<20→w.cell? ⟨aY.g 17,ac,o⟩=j (.int .u64 (tv.getD ac 0)))
  (h:hR E H (aY.t 37) (aY.t 9) s (.i (.str (ow u)))=j (r,aq)):
  Calls E.P (aY.f 288) #[b3,.int .u64 u,.int .i64 10] w λ e av=>∃x,e=.returned x∧cz E ad ae H w aq av λ aQ aG=>bf aQ aG aq r x:=by
 have mixed:=L.mixed;have t5:=L.t5;have a5:=L.a5;have z5:=L.z5;have v5:=L.v5
 have t37:=L.t37;have UT:=run_underlying L.t37;have a37:=L.a37;have z37:=L.z37;have v37:=L.v37
 have t53:=L.t53;have a53:=L.a53;have z53:=L.z53;have v53:=L.v53
 have t3:=L.t3;have a3:=L.a3;have z3:=L.z3;have v3:=L.v3
 have t4:=L.t4;have a4:=L.a4;have z4:=L.z4;have v4:=L.v4
 have t9:=L.t9;have a9:=L.a9;have z9:=L.z9;have v9:=L.v9
 have t171:=L.t171;have a171:=L.a171;have z171:=L.z171;have v171:=L.v171
 have t0:=L.t0;have a0:=L.a0;have z0:=L.z0;have v0:=L.v0
 have t173:=L.t173;have a173:=L.a173;have z173:=L.z173;have v173:=L.v173
 have aV7:∀args w,(callFunc (aY.f 284) args).run E.P w=.ok (.enter (aY.f 284) args) w:=enters_of L.f284 aK rfl;have aV8:∀args w,(callFunc (aY.f 285) args).run E.P w=.ok (.enter (aY.f 285) args) w:=enters_of L.f285 aK rfl;have aln:1≤u:=aa;have aV9:xV u≤20:=by have:=Lib.numDigits_eq u aln F3;split at this<;>omega
 have B6:E.P.arrayLen (aY.t 171)=24:=by simp[Program.arrayLen,L.t171]
 have JL:∀W,(wF (aY.t 171) (.pointer (j ⟨w.heap.size,0,o⟩)) o (j (.int .i64 (xV u:Int))) o).run E.P W=.ok (.slice (j ⟨w.heap.size,0,o⟩) (xV u) 24) W:=λ W=>by
  rw[run_sliceAt_array_h W (aY.t 171) ⟨w.heap.size,0,o⟩ (by simp[Program.arrayLen,Program.elem,L.t171]) .i64 (xV u:Int) aa (by rw[B6];omega)]
  go_simp
 have wL:=Lib.holds_zero0 w (aY.t 171) (xV u) aa;have UU:=Any.internal_strconv_formatBase10 {L with} w.heap.size 0 24 u (AR (xV u) 0) (w.alloc (.cells CS (aY.t 171))) wL (by rw[UW];exact Lib.lt_pow_nDigits u) F3 (by rw[UW];omega);rw[UW]at UU;have alo:=Lib.hid wL;have aV_:(100:Int)≤(u:Int):=aa;have aUA:∀al:Obj,∀ac,ac<20→(w.alloc al).cell? ⟨aY.g 17,ac,o⟩=j (.int .u64 (tv.getD ac 0)):=λ al ac bc=>by have a8:=Af ac bc;have bg:=World.block_lt_of_cell? w _ a8;rw[World.cell?_of_block (Bj w al _ bg)];exact a8
 clear wL B6
 go_enter L.f288,Body.n288_ntmps aY
 go_wp2_with (first
  |(go_at_fn (aY.f 284);refine(aUu {L with} u aln F3 _ (aUA _)).mono ?_;rintro e av ⟨rfl,rfl⟩))
 go_at_fn (aY.f 285)
 refine UU.mono ?_;rintro e av ⟨rfl,k,gJ,Ag,rfl,hE⟩;have F1:∀ac UX,(N9 (ow u))[ac]?=j UX→((putRow (λ(b:UInt8)=>kE .u8 (b.toNat:Int)) (w.alloc (.cells CS (aY.t 171))) w.heap.size 0 Ag).drewN k).cell? ((⟨w.heap.size,0,o⟩:Addr).add ac)=j UX:=by
  intro ac UX bc;have kM:ac<(ow u).length:=by have bF:=(bQ.1 bc).1;rwa [Lib.byteCells_length]at bF
  have pz:(N9 (ow u))[ac]?=j (kE .u8 ((ow u)[ac].toNat:Int)):=by simp[N9,kM]
  rw[pz]at bc;cases bc;rw[Lib.row_is_numeral hE ac kM,Lib.add_plain,World.cell?_drewN];exact cell?_putRow (λ(b:UInt8)=>kE .u8 (b.toNat:Int)) _ w.heap.size 0 _ Ag alo.out (by rw[hE.size,UW]) ac (by rw[hE.size];rw[S2]at kM;exact kM)
 obtain⟨os,wS⟩:=Lib.fin_at w (.cells CS (aY.t 171)) Ag k 0;have Hf:((putRow (λ(b:UInt8)=>kE .u8 (b.toNat:Int)) (w.alloc (.cells CS (aY.t 171))) w.heap.size 0 Ag).drewN k).os=w.os:=by rw[wS];rfl
 have oT:((putRow (λ(b:UInt8)=>kE .u8 (b.toNat:Int)) (w.alloc (.cells CS (aY.t 171))) w.heap.size 0 Ag).drewN k).tape=w.tape:=by rw[wS];rfl
 have alp:((putRow (λ(b:UInt8)=>kE .u8 (b.toNat:Int)) (w.alloc (.cells CS (aY.t 171))) w.heap.size 0 Ag).drewN k).output=w.output:=by rw[wS];rfl
 have alq:∀b,b<w.heap.size→((putRow (λ(b:UInt8)=>kE .u8 (b.toNat:Int)) (w.alloc (.cells CS (aY.t 171))) w.heap.size 0 Ag).drewN k).heap[b]?=w.heap[b]?:=λ b an=>by rw[wS];exact Lib.heap_grow_old w k os b an
 have YV:0<(ow u).length:=by
  rw[S2];have ha:=Lib.lt_pow_nDigits u;rcases Nat.eq_zero_or_pos (xV u)with e|e
  ·rw[e]at ha;omega
  ·exact e
 generalize (putRow (λ(b:UInt8)=>kE .u8 (b.toNat:Int)) (w.alloc (.cells CS (aY.t 171))) w.heap.size 0 Ag).drewN k=K6 at F1 Hf oT alp alq⊢;clear wS alo UU;obtain⟨cs,elem,bs,gd⟩:∃cs elem bs,K6.heap[w.heap.size]?=j (.cells cs elem bs):=by
  have a8:=F1 0 (kE .u8 ((ow u)[0].toNat:Int)) (by simp[N9,YV]);simp only[q9,Lib.add_plain]at a8;split at a8
  next cs elem bs aV=>exact⟨cs,elem,bs,aV⟩
  ·cases a8
 have JW:w.heap.size<K6.heap.size:=(kg.1 gd).1;obtain⟨eI,dR,mD,hM,VN⟩:=aUr au Hf oT alp JW alq gd;have b2:dH eI (.af 1 ((ow u).map λ b=>[bx.v (.int .u8 b.toNat)]) J) (.slice (j ⟨w.heap.size,0,o⟩) (xV u) 24):=by
  have ao:((ow u).map λ b=>[bx.v (.int .u8 b.toNat)]).length=xV u:=by rw[mE,S2]
  rw[←ao];refine .af 1 _ J w.heap.size 0 24 cs elem bs (λ i _=>.int .u8 ((ow u).getD i 0).toNat) VN (by rw[ao];omega) (λ e=>by cases e) (λ i r aB=>?_) (λ i r ac a aB aF=>?_) (λ i r ac a aB aF=>?_)
  all_goals
   simp only[fQ,dp]at aB;obtain⟨b,an,rfl⟩:=aB
  ·rfl
  ·have bc:ac=0:=by have:=(bQ.1 aF).1;simp at this;omega
   subst bc;have a8:=F1 i (.int .u8 b.toNat) (by simp[N9,an]);simp only[q9,Lib.add_plain,gd]at a8;simp[IW,an];simpa using a8
  ·have bc:ac=0:=by have:=(bQ.1 aF).1;simp at this;omega
   subst bc;simp at aF;subst aF;simp[IW,an];exact .v _ rfl
 have iy:=aUs (ex:=false) ⟨aY.t 5,by simp[fw,L.t37]⟩ h
 go_wp2_with (at_builtin;refine alk rfl _ _ (aY.t 37) (aY.t 37) rfl iy dR _ _ rfl rfl (hM _ _ gu) (.i _ _ b2) ?_)
 intro x ou fs eW vh ua hk iW
 go_wp2
 go_ret
 exact⟨x,rfl,fs,eW,vh,mD.trans ua,hM.trans hk,iW⟩
variable{E:Env}{aY:Ren}{ad:cn}{ae:cj}{H:ab}{w:World}
def aUB(L:LaysM.n249 E.P aY)(u:Nat)(F3:u≤9223372036854775807)(au:cf E ad ae H w){s r:ay}{aq:ab}{b3:Value}(gu:bf ad ae H s b3)
  (Af:∀ac,ac<20→w.cell? ⟨aY.g 17,ac,o⟩=j (.int .u64 (tv.getD ac 0)))
  (h:hR E H (aY.t 37) (aY.t 9) s (.i (.str (ow u)))=j (r,aq)):
  Calls E.P (aY.f 249) #[b3,.int .i64 u,.int .i64 10] w λ e av=>∃x,e=.returned x∧cz E ad ae H w aq av λ aQ aG=>bf aQ aG aq r x:=by
 have mixed:=L.mixed;have t5:=L.t5;have a5:=L.a5;have z5:=L.z5;have v5:=L.v5
 have t37:=L.t37;have UT:=run_underlying L.t37;have a37:=L.a37;have z37:=L.z37;have v37:=L.v37
 have t2:=L.t2;have a2:=L.a2;have z2:=L.z2;have v2:=L.v2
 have t3:=L.t3;have a3:=L.a3;have z3:=L.z3;have v3:=L.v3
 have t53:=L.t53;have a53:=L.a53;have z53:=L.z53;have v53:=L.v53
 have t4:=L.t4;have a4:=L.a4;have z4:=L.z4;have v4:=L.v4
 have aV':∀args w,(callFunc (aY.f 288) args).run E.P w=.ok (.enter (aY.f 288) args) w:=enters_of L.f288 aK rfl;have DO:Calls E.P (aY.f 288) #[b3,.int .u64 u,.int .i64 10] w λ e av=>∃x,e=.returned x∧cz E ad ae H w aq av λ aQ aG=>bf aQ aG aq r x:=by
  by_cases aUC:u<100
  ·exact aUy {L with} u aUC au gu h
  ·exact aUz {L with} u aa aa au gu Af h
 have aI:¬((u:Int)<0):=aa
 go_enter L.f249,Body.n249_ntmps aY
 go_wp2_with (go_at_fn (aY.f 288);refine(DO).mono ?_;rintro e ft ⟨v2,rfl,b9⟩)
 go_wp2
 first|go_ret|go_ret2
 exact⟨v2,rfl,b9⟩
def aUD(L:LaysM.n176 E.P aY)(u:Nat)(F3:u≤9223372036854775807)(au:cf E ad ae H w){s r:ay}{aq:ab}{b3:Value}(gu:bf ad ae H s b3)
  (Af:∀ac,ac<20→w.cell? ⟨aY.g 17,ac,o⟩=j (.int .u64 (tv.getD ac 0)))
  (h:hR E H (aY.t 37) (aY.t 9) s (.i (.str (ow u)))=j (r,aq)):
  Calls E.P (aY.f 176) #[b3,.int .i64 u,.int .i64 10] w λ e av=>∃x,e=.returned x∧cz E ad ae H w aq av λ aQ aG=>bf aQ aG aq r x:=by
 have mixed:=L.mixed;have t5:=L.t5;have a5:=L.a5;have z5:=L.z5;have v5:=L.v5
 have t37:=L.t37;have UT:=run_underlying L.t37;have a37:=L.a37;have z37:=L.z37;have v37:=L.v37
 have t2:=L.t2;have a2:=L.a2;have z2:=L.z2;have v2:=L.v2
 have t3:=L.t3;have a3:=L.a3;have z3:=L.z3;have v3:=L.v3
 have aWa:∀args w,(callFunc (aY.f 249) args).run E.P w=.ok (.enter (aY.f 249) args) w:=enters_of L.f249 aK rfl;have DO:=aUB {L with} u F3 au gu Af h
 go_enter L.f176,Body.n176_ntmps aY
 go_wp2_with (go_at_fn (aY.f 249);refine(DO).mono ?_;rintro e ft ⟨v2,rfl,b9⟩)
 go_wp2
 go_ret
 exact⟨v2,rfl,b9⟩
def aUE(L:LaysM.n176 E.P aY)(aR:E.fv (aY.g 17)=j pR):sA E (aY.f 176) (Bs E.P (aY.t 37) (aY.t 9)):=by
 intro args H r aq ak ad ae w vs au b9;unfold Bs at ak;split at ak
 next s n b=>
  split at ak
  next aj=>obtain⟨rfl,a8,p⟩:=aj;obtain⟨x,y,z,rfl,g_,qd,HB⟩:=auI b9;obtain rfl:=ga qd;obtain rfl:=ga HB;obtain⟨u,rfl⟩:∃u:Nat,n=u:=⟨n.toNat,aa⟩;rw[Y5]at ak;exact aUD L u aa au g_ (λ ac bc=>aUt au aR ac bc) ak
  ·cases ak
 ·cases ak
end Go.VI
namespace Go.VI
open Go.Proofs
open Go.Shelf
open Go.Proofs.Tryz
set_option maxRecDepth 100000
set_option maxHeartbeats 40000000
set_option linter.unusedVariables false
set_option linter.unusedSimpArgs false
set_option linter.defProp false
def alr:Jv:=⟨λ|176=>196|249=>221|288=>229|283=>232|284=>233|285=>234|286=>235|129=>237|317=>236|318=>238|319=>239|320=>240|337=>241|338=>242|n=>n,λ|37=>22|2=>2|3=>3|53=>226|4=>4|9=>9|171=>256|0=>0|173=>259|212=>263|51=>241|5=>5|20=>20|213=>264|46=>184|232=>267|233=>268|n=>n,λ|17=>4|18=>5|19=>6|n=>n⟩
def aUF:Go.Proofs.LaysM.n176 prog alr:={
 mixed:=aK
 f129:=func237.trans (congrArg j aK)
 f176:=func196.trans (congrArg j aK)
 f249:=func221.trans (congrArg j aK)
 f283:=func232.trans (congrArg j aK)
 f284:=func233.trans (congrArg j aK)
 f285:=func234.trans (congrArg j aK)
 f286:=func235.trans (congrArg j aK)
 f288:=func229.trans (congrArg j aK)
 f317:=func236.trans (congrArg j aK)
 f318:=func238.trans (congrArg j aK)
 f319:=func239.trans (congrArg j aK)
 f320:=func240.trans (congrArg j aK)
 f337:=func241.trans (congrArg j aK)
 f338:=func242.trans (congrArg j aK)
 t0:=underlying0
 a0:=isAgg0
 z0:=sizeOf0
 v0:=zeroValue0
 t2:=underlying2
 a2:=isAgg2
 z2:=sizeOf2
 v2:=zeroValue2
 t3:=underlying3
 a3:=isAgg3
 z3:=sizeOf3
 v3:=zeroValue3
 t4:=underlying4
 a4:=isAgg4
 z4:=sizeOf4
 v4:=zeroValue4
 t5:=underlying5
 a5:=isAgg5
 z5:=sizeOf5
 v5:=zeroValue5
 t9:=underlying9
 a9:=isAgg9
 z9:=sizeOf9
 v9:=zeroValue9
 t20:=underlying20
 a20:=isAgg20
 z20:=sizeOf20
 v20:=zeroValue20
 t37:=underlying22
 a37:=isAgg22
 z37:=sizeOf22
 v37:=zeroValue22
 t46:=underlying184
 a46:=isAgg184
 z46:=sizeOf184
 v46:=zeroValue184
 t51:=underlying241
 a51:=isAgg241
 z51:=sizeOf241
 v51:=zeroValue241
 t53:=underlying226
 a53:=isAgg226
 z53:=sizeOf226
 v53:=zeroValue226
 t171:=underlying256
 a171:=isAgg256
 z171:=sizeOf256
 v171:=zeroValue256
 t173:=underlying259
 a173:=isAgg259
 z173:=sizeOf259
 v173:=zeroValue259
 t212:=underlying263
 a212:=isAgg263
 z212:=sizeOf263
 v212:=zeroValue263
 t213:=underlying264
 a213:=isAgg264
 z213:=sizeOf264
 t232:=underlying267
 a232:=isAgg267
 z232:=sizeOf267
 v232:=zeroValue267
 t233:=underlying268
 a233:=isAgg268
 z233:=sizeOf268
 v233:=zeroValue268
 g17:=aK
 g18:=aK
 g19:=aK
 i0:=aK
 i2:=aK
 i3:=aK
 i4:=aK
 i5:=aK
 i9:=aK
 i20:=aK
 i37:=aK
 i46:=aK
 i51:=aK
 i53:=aK
 i171:=aK
 i173:=aK
 i212:=aK
 i232:=aK
 i233:=aK
 m17:=aK
 m18:=aK
 m19:=by kernel_rfl}
def als:Jv:=⟨λ|171=>214|243=>225|246=>230|283=>232|284=>233|285=>234|286=>235|129=>237|317=>236|318=>238|319=>239|320=>240|337=>241|338=>242|n=>n,λ|3=>3|9=>9|2=>2|4=>4|171=>256|0=>0|53=>226|37=>22|5=>5|173=>259|212=>263|51=>241|20=>20|213=>264|46=>184|232=>267|233=>268|n=>n,λ|17=>4|18=>5|19=>6|n=>n⟩
def aUG:Go.Proofs.LaysM.n171 prog als:={
 mixed:=aK
 f129:=func237.trans (congrArg j aK)
 f171:=func214.trans (congrArg j aK)
 f243:=func225.trans (congrArg j aK)
 f246:=func230.trans (congrArg j aK)
 f283:=func232.trans (congrArg j aK)
 f284:=func233.trans (congrArg j aK)
 f285:=func234.trans (congrArg j aK)
 f286:=func235.trans (congrArg j aK)
 f317:=func236.trans (congrArg j aK)
 f318:=func238.trans (congrArg j aK)
 f319:=func239.trans (congrArg j aK)
 f320:=func240.trans (congrArg j aK)
 f337:=func241.trans (congrArg j aK)
 f338:=func242.trans (congrArg j aK)
 t0:=underlying0
 a0:=isAgg0
 z0:=sizeOf0
 v0:=zeroValue0
 t2:=underlying2
 a2:=isAgg2
 z2:=sizeOf2
 v2:=zeroValue2
 t3:=underlying3
 a3:=isAgg3
 z3:=sizeOf3
 v3:=zeroValue3
 t4:=underlying4
 a4:=isAgg4
 z4:=sizeOf4
 v4:=zeroValue4
 t5:=underlying5
 a5:=isAgg5
 z5:=sizeOf5
 v5:=zeroValue5
 t9:=underlying9
 a9:=isAgg9
 z9:=sizeOf9
 v9:=zeroValue9
 t20:=underlying20
 a20:=isAgg20
 z20:=sizeOf20
 v20:=zeroValue20
 t37:=underlying22
 a37:=isAgg22
 z37:=sizeOf22
 v37:=zeroValue22
 t46:=underlying184
 a46:=isAgg184
 z46:=sizeOf184
 v46:=zeroValue184
 t51:=underlying241
 a51:=isAgg241
 z51:=sizeOf241
 v51:=zeroValue241
 t53:=underlying226
 a53:=isAgg226
 z53:=sizeOf226
 v53:=zeroValue226
 t171:=underlying256
 a171:=isAgg256
 z171:=sizeOf256
 v171:=zeroValue256
 t173:=underlying259
 a173:=isAgg259
 z173:=sizeOf259
 v173:=zeroValue259
 t212:=underlying263
 a212:=isAgg263
 z212:=sizeOf263
 v212:=zeroValue263
 t213:=underlying264
 a213:=isAgg264
 z213:=sizeOf264
 t232:=underlying267
 a232:=isAgg267
 z232:=sizeOf267
 v232:=zeroValue267
 t233:=underlying268
 a233:=isAgg268
 z233:=sizeOf268
 v233:=zeroValue268
 g17:=aK
 g18:=aK
 g19:=aK
 i0:=aK
 i2:=aK
 i3:=aK
 i4:=aK
 i5:=aK
 i9:=aK
 i20:=aK
 i37:=aK
 i46:=aK
 i51:=aK
 i53:=aK
 i171:=aK
 i173:=aK
 i212:=aK
 i232:=aK
 i233:=aK
 m17:=aK
 m18:=aK
 m19:=by kernel_rfl}
def alt:Jv:=⟨λ|217=>139|266=>202|n=>n,λ|9=>9|5=>5|3=>3|n=>n,λ|n=>n⟩
def aUH:Go.Proofs.Lays.n217 prog alt:={
 mixed:=aK
 f217:=func139.trans (congrArg j aK)
 f266:=func202.trans (congrArg j aK)
 t3:=underlying3
 a3:=isAgg3
 z3:=sizeOf3
 v3:=zeroValue3
 t5:=underlying5
 a5:=isAgg5
 z5:=sizeOf5
 v5:=zeroValue5
 t9:=underlying9
 a9:=isAgg9
 z9:=sizeOf9
 v9:=zeroValue9}
def F4:Jv:=⟨λ|196=>64|259=>120|n=>n,λ|9=>9|4=>4|3=>3|5=>5|12=>12|119=>180|0=>0|46=>184|139=>183|138=>182|53=>226|n=>n,λ|3=>0|4=>1|n=>n⟩
def F5:Go.Proofs.Lays.n196 prog F4:={
 mixed:=aK
 f196:=func64.trans (congrArg j aK)
 f259:=func120.trans (congrArg j aK)
 t0:=underlying0
 a0:=isAgg0
 z0:=sizeOf0
 v0:=zeroValue0
 t3:=underlying3
 a3:=isAgg3
 z3:=sizeOf3
 v3:=zeroValue3
 t4:=underlying4
 a4:=isAgg4
 z4:=sizeOf4
 v4:=zeroValue4
 t5:=underlying5
 a5:=isAgg5
 z5:=sizeOf5
 v5:=zeroValue5
 t9:=underlying9
 a9:=isAgg9
 z9:=sizeOf9
 v9:=zeroValue9
 t12:=underlying12
 a12:=isAgg12
 z12:=sizeOf12
 v12:=zeroValue12
 t46:=underlying184
 a46:=isAgg184
 z46:=sizeOf184
 v46:=zeroValue184
 t53:=underlying226
 a53:=isAgg226
 z53:=sizeOf226
 v53:=zeroValue226
 t119:=underlying180
 a119:=isAgg180
 z119:=sizeOf180
 t138:=underlying182
 a138:=isAgg182
 z138:=sizeOf182
 v138:=zeroValue182
 t139:=underlying183
 a139:=isAgg183
 z139:=sizeOf183
 v139:=zeroValue183
 g3:=aK
 g4:=by kernel_rfl}
def alu:Jv:=⟨λ|4=>201|n=>n,λ|22=>65|25=>67|3=>3|4=>4|9=>9|20=>20|0=>0|n=>n,λ|n=>n⟩
def aUI:Go.Proofs.Lays8.n4 prog alu:={
 mixed:=aK
 f4:=⟨f201.name,bU,func201.trans (congrArg j aK)⟩
 t0:=underlying0
 a0:=isAgg0
 z0:=sizeOf0
 v0:=zeroValue0
 t3:=underlying3
 a3:=isAgg3
 z3:=sizeOf3
 v3:=zeroValue3
 t4:=underlying4
 a4:=isAgg4
 z4:=sizeOf4
 v4:=zeroValue4
 t9:=underlying9
 a9:=isAgg9
 z9:=sizeOf9
 v9:=zeroValue9
 t20:=underlying20
 a20:=isAgg20
 z20:=sizeOf20
 v20:=zeroValue20
 t22:=underlying65
 a22:=isAgg65
 z22:=sizeOf65
 v22:=zeroValue65}
def alv:Jv:=⟨λ|4=>222|n=>n,λ|22=>26|25=>65|3=>3|4=>4|9=>9|20=>20|0=>0|n=>n,λ|n=>n⟩
def aUJ:Go.Proofs.Lays8.n4 prog alv:={
 mixed:=aK
 f4:=⟨f222.name,bU,func222.trans (congrArg j aK)⟩
 t0:=underlying0
 a0:=isAgg0
 z0:=sizeOf0
 v0:=zeroValue0
 t3:=underlying3
 a3:=isAgg3
 z3:=sizeOf3
 v3:=zeroValue3
 t4:=underlying4
 a4:=isAgg4
 z4:=sizeOf4
 v4:=zeroValue4
 t9:=underlying9
 a9:=isAgg9
 z9:=sizeOf9
 v9:=zeroValue9
 t20:=underlying20
 a20:=isAgg20
 z20:=sizeOf20
 v20:=zeroValue20
 t22:=underlying26
 a22:=isAgg26
 z22:=sizeOf26
 v22:=zeroValue26}
end Go.VI
namespace Go.VI
open Go.Lib
open Go.Proofs
open Go.RowKit
open Go.Shelf
open Go.Proofs.Tryz
set_option maxRecDepth 100000
set_option maxHeartbeats 40000000
set_option linter.unusedVariables false
set_option linter.unusedSimpArgs false
set_option linter.defProp false
section
variable{E:Env}{aY:Ren}{ad:cn}{ae:cj}{H:ab}{w:World}
def aUK{g:Nat}{name:String}(aI:E.P.globalNamed name=j g)(au:cf E ad ae H w)(aR:E.fv g=j pR):Lib.TabIs E.P w name .u64 tv:=by
 obtain⟨ak,cs,e,bs,cr,eQ⟩:=au.fv g _ aR;unfold Lib.TabIs World.var?;rw[aI];simp only[Rb,au.ei _ _ cr,br];generalize aj:pR=cells at ak;generalize ax:Eg (j ⟨g,0,o⟩)=I at ak;cases ak with
 |gR _ _ b off e5 elem XZ dn N_ p U=>
  simp at ax;obtain⟨rfl,a8⟩:=ax;have du:off=0:=aa;subst du;rw[cr]at N_;cases N_;subst aj;apply Array.ext';apply DF;intro k;by_cases aA:k<tv.length
  ·have kM:pR[k]?=j (.v (.int .u64 tv[k])):=by simp[pR,aA]
   have ar:=p k _ kM;have aM:=U k _ kM;generalize dn k=q at ar aM;cases aM with
   |v x ap=>rw[cJ]at ar;simp[aA];simpa using ar
  ·have:pR.length=tv.length:=by simp[pR]
   rw[sd (by simp;omega),sd (by simp;omega)]
def below_grow(w:World)(k:Nat)(os:Array Obj):Below w.heap.size w (Go.Sort.grow (w.drewN k) os):=⟨rfl,rfl,rfl,by show w.heap.size≤(w.heap++os).size;simp,λ ac bc=>by show(w.heap++os)[ac]?=_;exact yD bc⟩
def aUL(L:LaysM.n171 E.P aY){g:Nat}(aI:E.P.globalNamed "internal/strconv.uint64pow10"=j g)(aR:E.fv g=j pR):sA E (aY.f 171) zd:=by
 intro args H r aq ak ad ae w vs au b9;unfold zd at ak;split at ak
 next n=>
  split at ak
  next aj=>cases ak;obtain⟨y,rfl,g_⟩:=Jn b9;obtain rfl:=ga g_;refine(Any.strconv_Itoa L n aj.1 aj.2 w (aUK aI au aR)).mono ?_;rintro e av ⟨rfl,k,os,rfl⟩;obtain⟨aQ,aG,bK,bJ,cL,rfl,rfl⟩:=CF au (below_grow w k os);exact⟨_,rfl,_,_,bK,bJ,cL,.i _ _ (.str _)⟩
  ·cases ak
 ·cases ak
def aUM{ad:cn}{v:Value}{z:Nat}(h:dH ad (.af z [] ah) v):∃a,v=.slice a 0 0:=by
 generalize ap:bx.af z [] ah=x at h;cases h with
 |nil aD ex a cap he=>cases ap;exact⟨a,by rw[he rfl]⟩
 |af aD rows ex b off cap cs elem bs dn cr aj he=>cases ap;exact⟨_,by rw[he rfl];rfl⟩
 |_=>cases ap
def alw(L:Lays8.n4 E.P aY){i0:TypeInfo}{z:Nat}{eB:Value}(bp:0<z)(aB:E.P.info? (aY.t 25)=j i0)(a8:i0.zero=j eB)(p:i0.size=z)(U:eB.cells.size=z)(az:i0.bytes≤1000):sA E (aY.f 4) (rq z):=by
 intro args H r aq ak ad ae w vs au b9;unfold rq at ak;split at ak
 next ds n=>
  split at ak
  next aj=>
   cases ak;obtain⟨x,y,rfl,g_,qd⟩:=Q7 b9;obtain rfl:=ga qd;obtain⟨a,rfl⟩:=aUM (ji g_);obtain⟨k,rfl⟩:=jC aj.1;by_cases aA:k=0
   ·subst aA;refine(Any8.slices_Grow_room L a 0 0 0 w (cS _) bU bU bU).mono λ e av ⟨he,hw⟩=>?_
    subst he hw;exact⟨_,rfl,N3 au (tK _ _) bp a⟩
   ·have an:(0+k)*i0.bytes≤140737488355328:=s6 (Nat.mul_le_mul (show 0+k≤1000000 by omega) az) bU;refine(Any8.slices_Grow_grow L i0 eB aB a8 aa a 0 0 k [] w (cS _) aa an aa aX (λ _=>rfl) (λ _ _ ac v h=>by simp at h)).mono λ e av ⟨he,hw⟩=>?_
    subst he hw;have OS:∀m,(GJ eB.cells m).size=m*z:=λ m=>by simp[GJ,U]
    generalize grownCap w (0+k) 0 (aY.t 25)=cap;refine⟨_,rfl,UF au ((tK _ w).drew.alloc (cS _) _) (cS _) (heap_alloc_new w.drew _) (qf _) bp (λ i r h=>by simp at h) (λ i r k a h=>by simp at h) aX (iC _) ?_⟩;simp only[Pj,OS,Dq,dS];have:cap*z≤(0+k+(cap-(0+k)))*z:=kF _ aa;rw[hT]at this;simp only[tw];omega
  ·cases ak
 ·cases ak
def UY{g:Nat}{cells:cZ}(au:cf E ad ae H w)(aR:E.fv g=j cells)(ac:Nat){x:Value}(bc:cells[ac]?=j (.v x)):w.cell? ⟨g,ac,o⟩=j x:=by
 have h:=(au.fv g _ aR).1;generalize ax:Eg (j ⟨g,0,o⟩)=I at h;cases h with
 |gR _ _ b off cs elem bs dn cr p U=>
  simp at ax;obtain⟨rfl,a8⟩:=ax;have ar:=p ac _ bc;have aM:=U ac _ bc;generalize dn ac=q at ar aM;cases aM with
  |v x ap=>have du:off=0:=aa;subst du;rw[cJ]at ar;simp[q9,au.ei _ _ cr,ar]
def alx:∀c:Fin 256,Y6 c.val=(firstT c.val:Int):=by decide+kernel
def aUN{c:Nat}(h:c<256):xi[c]?=j (.v (.int .u8 (firstT c))):=by rw[←alx ⟨c,h⟩];simp[xi,h]
def aUO:∀c:Fin 16,([128,191,160,191,128,159,144,191,128,143]++cH 22 (0:Int))[2*c.val]?=j (accLo c.val:Int)∧([128,191,160,191,128,159,144,191,128,143]++cH 22 (0:Int))[2*c.val+1]?=j (accHi c.val:Int):=by decide+kernel
def aly{c:Nat}(h:c<16):xj[2*c]?=j (.v (.int .u8 (accLo c)))∧xj[2*c+1]?=j (.v (.int .u8 (accHi c))):=by have:=aUO ⟨c,h⟩;unfold xj;rw[fQ,fQ,this.1,this.2];exact⟨rfl,rfl⟩
def aUP(L:Lays.n196 E.P aY)(az:E.fv (aY.g 3)=j xi)(bh:E.fv (aY.g 4)=j xj):sA E (aY.f 196) ze:=by
 intro args H r aq ak ad ae w vs au b9;unfold ze at ak;split at ak
 next s=>
  split at ak
  next aj=>
   cases ak;obtain⟨y,rfl,g_⟩:=Jn b9;obtain rfl:=q8 g_;refine(Any.utf8_ValidString L ⟨⟨s⟩⟩ w (by simpa[ByteArray.size]using aj) ⟨λ c aj=>UY au az c (aUN aj),λ c aj=>⟨UY au bh _ (aly aj).1,UY au bh _ (aly aj).2⟩⟩).mono λ e av ⟨he,an⟩=>?_
   subst he;obtain⟨aQ,aG,bK,bJ,cL,rfl,rfl⟩:=CF au an;exact⟨_,rfl,_,_,bK,bJ,cL,.i _ _ (.v _ rfl)⟩
  ·cases ak
 ·cases ak
def aUQ(L:Lays.n217 E.P aY):sA E (aY.f 217) xh:=auH λ s c w=>Any.stringslite_IndexByte L s c w
end
def alz(ia:Addr)(n c:Nat)(fD:k8)(w:World)(bp:fD.length=n*3)(pB:n≤1000000000)(aj:∀ac u,fD[ac]?=j u→w.cell? (ia.add ac)=j u)(p:∀u∈fD,u.oneCell'=ah):
  Calls prog 72 #[.slice (j ia) n c] w λ e av=>∃gJ,e=.returned gJ∧av.ownsRow w.heap.size 104 3 gJ n fD∧Below w.heap.size w av:=by
 obtain⟨i0,aB,oS,j5,km⟩:=info_parts (show(prog.info? 104).map (λ i=>(i.zero,i.size,i.bytes))=j (j (.agg #[.string ⟨#[]⟩,.bool J,.int .i64 0]),3,32)from aK);have CI:∀(w:World) (a:Option Addr) (n c dT cv:Nat),(binOp .eql 101 (.slice a n c) (.slice o dT cv)).run prog w=.ok (.bool a.isNone) w:=λ w a n c dT cv=>CJ w _ _ a n c dT cv underlying101
 have UH:∀w,ud prog (underlying 101) w=.ok (UI 104) w:=run_underlying underlying101;have A:Aside (∀ac u,fD[ac]?=j u→w.cell? (ia.add ac)=j u):=aj;clear aj
 go_enter func72,ntmps72
 go_wp2_with (at_builtin;refine wpList_append_own _ rfl _ _ 101 rfl w.heap.size 104 i0 _ 3 32 underlying101 aB oS j5 km rfl bU _ _ _ rfl (UJ w #[] 0 (cS _) (iC _) rfl) ia n c fD rfl bp ?CK ?CL ?CM ?CN ?CO ?_)
 case CK=>intro ac u bc;exact UK _ (A.out ac u bc)
 case CL=>exact p
 case CM=>unfold maxLen;omega
 case CN=>omega
 case CO=>simp
 intro gJ gf jj CP wT
 go_wp2
 go_ret
 exact⟨gJ,rfl,by simpa using jj,((tK _ w).alloc (cS _) _).grown CP aX (by intro k aA;simp[UL]at aA;omega)⟩
def aUR(n c:Nat)(w:World):Calls prog 72 #[.slice o n c] w λ e av=>e=.returned (.slice o 0 0)∧av=w:=by
 have CI:∀(w:World) (a:Option Addr) (n c dT cv:Nat),(binOp .eql 101 (.slice a n c) (.slice o dT cv)).run prog w=.ok (.bool a.isNone) w:=λ w a n c dT cv=>CJ w _ _ a n c dT cv underlying101
 go_enter func72,ntmps72
 go_wp2
 go_ret
 exact⟨rfl,rfl⟩
section
variable{E:Env}{ad:cn}{ae:cj}{H:ab}{w:World}
def aUS(au:cf E ad ae H w){ft:World}(an:Below w.heap.size w ft){g:Nat}(aR:w.heap.size≤g){al:Obj}(qo:ft.heap[g]?=j al):cz E ad ae H w H ft λ aQ aG=>(∀b,aQ b=if b=g then j al else ad b)∧ad.le aQ:=by
 have ci:=an.block
 let aQ:cn:=λ b=>if b=g then j al else ad b
 have bg:∀b al,ad b=j al→b<w.heap.size:=λ b al an=>(kg.1 (au.ei b al an)).1
 have hle:ad.le aQ:=λ b al an=>by have:=bg b al an;show(if _ then _ else _)=_;rw[if_neg aa];exact an
 have hm:fz ad ae H aQ ae H:=ng hle (cS _) λ c aj=>jw.same rfl λ _=>rfl
 refine⟨aQ,ae,⟨λ b pn iZ=>?_,λ c x ap=>(au.ch c x ap).mono (λ _=>rfl) hle hm λ r b n h=>ci b (au.sep _ _ _ h).2.1,au.inj,λ c b n aV=>?_,λ g cells aR=>(au.fv g cells aR).mono hle⟩,
  ⟨an.os,an.tape,an.output,an.size,λ b an _=>ci b an,hle,λ b iZ=>?_,λ c b n aV=>.inr ⟨_,_,aV⟩⟩,hm,λ b=>rfl,hle⟩
 ·have Ah:(if b=g then j al else ad b)=j pn:=iZ;by_cases he:b=g
  ·rw[if_pos he]at Ah;rw[he,qo];exact Ah
  ·rw[if_neg he]at Ah;rw[ci b (bg b pn Ah)];exact au.ei b pn Ah
 ·obtain⟨p,U,az⟩:=au.sep _ _ _ aV;refine⟨?_,wx U an.size,az⟩;show(if _ then _ else _)=_;rw[if_neg aa];exact p
 ·by_cases he:b=g
  ·exact .inr (.inl aa)
  ·have Ah:(if b=g then j al else ad b)≠o:=iZ;rw[if_neg he]at Ah;exact .inl Ah
end
def aUT:sA E 72 (zb 3):=by
 intro args H r aq ak ad ae w vs au b9;unfold zb at ak;split at ak
 next z rows ex=>
  split at ak
  next aj=>
   obtain⟨rfl,fF⟩:=aj;cases ak;obtain⟨y,rfl,g_⟩:=Jn b9;cases ji g_ with
   |nil _ _ a cap ap=>
    cases a with
    |none=>
     refine(aUR 0 cap w).mono λ e av ⟨p,U⟩=>?_
     subst p U;exact⟨_,rfl,cz.refl au (.i _ _ (.nil _ _ _ _ (λ h=>by cases h)))⟩
    |some ia=>
     refine(alz ia 0 cap [] w rfl bU (λ ac u bc=>by cases bc) (λ u hu=>by cases hu)).mono λ e av ⟨gJ,he,jj,pi⟩=>?_
     subst he;obtain⟨_,bo⟩:=jj;obtain⟨aQ,aG,bK,bJ,cL,rfl,rfl⟩:=CF au pi;rcases bo with⟨rfl,_⟩|⟨g,D',kH,rfl,_⟩
     ·exact⟨_,rfl,_,_,bK,bJ,cL,.i _ _ (.nil _ _ _ _ (λ h=>by cases h))⟩
     ·exact⟨_,rfl,_,_,bK,bJ,cL,.i _ _ (.nil _ _ _ _ (λ h=>by cases h))⟩
   |af _ _ _ b off cap cs elem bs dn cr j4 ap ib p U=>
    have Jo:=au.ei b _ cr;have uc:∀i k,i<rows.length→k<3→cs[off+i*3+k]?=j (dn i k)∧(dn i k).oneCell'=ah:=by intro i k aB aA;have oo:rows[i]?=j rows[i]:=eC aB;have hlen:=ib i _ oo;have Jp:rows[i][k]?=j rows[i][k]:=eC aa;exact⟨p i _ k _ oo Jp,ale (U i _ k _ oo Jp)⟩
    have r_:∀ac,ac<rows.length*3→cs[off+ac]?=j (dn (ac/3) (ac%3))∧(dn (ac/3) (ac%3)).oneCell'=ah:=by intro ac bc;have:=uc (ac/3) (ac%3) aa (Df _ bU);rw[show off+ac/3*3+ac%3=off+ac from aa]at this;exact this
    have Jq:∀ac u,((hB (rows.length*3)).map λ ac=>dn (ac/3) (ac%3))[ac]?=j u→ac<rows.length*3∧u=dn (ac/3) (ac%3):=by
     intro ac u bc;rw[fQ]at bc;by_cases bg:ac<rows.length*3
     ·rw[D_ bg]at bc;simp only[eH,br]at bc;exact⟨bg,bc.symm⟩
     ·rw[sd (by simp;omega)]at bc;cases bc
    refine(alz ⟨b,off,o⟩ rows.length cap ((hB (rows.length*3)).map λ ac=>dn (ac/3) (ac%3)) w aX fF (λ ac u bc=>?_) (λ u hu=>?_)).mono λ e av ⟨gJ,he,jj,pi⟩=>?_
    ·obtain⟨bg,rfl⟩:=Jq ac u bc;rw[Addr.add_lit];simp[q9,Jo,(r_ ac bg).1]
    ·obtain⟨ac,bc⟩:=QV hu;obtain⟨bg,rfl⟩:=Jq ac u bc;exact(r_ ac bg).2
    ·subst he;obtain⟨_,bo⟩:=jj;rcases bo with⟨rfl,hL⟩|⟨g,D',kH,rfl,CG,kj,CH,_,eQ,qJ⟩
     ·obtain rfl:rows=[]:=pq.1 hL;obtain⟨aQ,aG,bK,bJ,cL,rfl,rfl⟩:=CF au pi;exact⟨_,rfl,_,_,bK,bJ,cL,.i _ _ (.nil _ _ _ _ (λ h=>by cases h))⟩
     ·obtain⟨aQ,aG,bK,bJ,cL,N_,hle⟩:=aUS au pi CG kj;refine⟨_,rfl,_,_,bK,bJ,cL,.i _ _ ?_⟩;refine .af 3 rows J g 0 D' kH 104 (0,0) dn (by rw[N_,if_pos rfl]) CH (λ h=>by cases h) ib (λ i r k a aB aA=>?_) (λ i r k a aB aA=>(U i r k a aB aA).mono hle);have yC:i<rows.length:=(bQ.1 aB).1;have nk:k<3:=by have:=(bQ.1 aA).1;rw[ib i r aB]at this;exact this
      have bc:i*3+k<rows.length*3:=aa;have:(kH.toList.take (rows.length*3))[i*3+k]?=j (dn i k):=by rw[qJ,fQ,D_ bc];simp only[eH,br];rw[show(i*3+k)/3=i from aa,show(i*3+k)%3=k from aa]
      rw[Ub bc]at this;rw[cJ];simpa using this
  ·cases ak
 ·cases ak
def extOK:A3 E:=by
 intro f h aN;rcases azQ f h aN with⟨rfl,rfl⟩|⟨rfl,rfl⟩|⟨rfl,rfl⟩|⟨rfl,rfl⟩|⟨rfl,rfl⟩|⟨rfl,rfl⟩|⟨rfl,rfl⟩|⟨rfl,rfl⟩|⟨rfl,rfl⟩|⟨rfl,rfl⟩|⟨rfl,rfl⟩|U
 ·exact aUh
 ·exact aT9
 ·exact aUP (E:=E) (aY:=F4) F5 aee aef
 ·exact aUT
 ·exact aUa
 ·exact aUd
 ·exact aUQ (E:=E) (aY:=alt) aUH
 ·exact aUE (E:=E) (aY:=alr) aUF Rw
 ·obtain⟨i0,aB,oS,j5,km⟩:=info_parts (show(prog.info? 67).map (λ i=>(i.zero,i.size,i.bytes))=j (j (.agg #[.string ⟨#[]⟩,.int .i64 0,.int .i64 0,.int .i64 0,.int .i64 0]),5,48)from aK);exact alw (E:=E) (aY:=alu) aUI bU aB oS j5 aK aa
 ·exact aUL (E:=E) (aY:=als) (g:=4) aUG aK Rw
 ·obtain⟨i0,aB,oS,j5,km⟩:=info_parts (show(prog.info? 65).map (λ i=>(i.zero,i.size,i.bytes))=j (j (.slice o 0 0),1,24)from aK);exact alw (E:=E) (aY:=alv) aUJ bU aB oS j5 aK aa
 ·exact U.elim
def alA{W:World}{name:String}{g:Nat}(aI:prog.globalNamed name=j g){cs:Array Value}(bo:W.var? prog name=j cs){fD:k8}(aj:cs.toList=fD)(p:∀v∈fD,v.oneCell'=ah):u_ (nV W) g (fD.map .v):=by
 unfold World.var? at bo;rw[aI]at bo;simp only[Rb]at bo;split at bo
 next e5 e bs aV=>
  simp only[br]at bo;subst bo;have ao:e5.size=fD.length:=by rw[←aj];simp
  refine⟨.gR _ 0 g 0 e5 e bs (λ k=>fD.getD k undef) aV (λ k a aA=>?_) (λ k a aA=>?_),e5,e,bs,aV,by simp[ao]⟩
  ·have hU:k<fD.length:=by have:=(bQ.1 aA).1;simpa using this
   rw[cJ,←nM,aj];simp[IW,hU]
  ·have hU:k<fD.length:=by have:=(bQ.1 aA).1;simpa using this
   rw[fQ,eC hU]at aA;simp only[eH,br]at aA;subst aA;simp[IW,hU];exact .v _ (p _ (oi hU))
 ·cases bo
def alB{k:IntKind}{l:bX}:∀v∈l.map (kE k),v.oneCell'=ah:=by intro v bo;obtain⟨x,_,rfl⟩:=D0.1 bo;rfl
def UZ{W:World}{name:String}{g:Nat}{k:IntKind}{l:bX}(aI:prog.globalNamed name=j g){t e:TypeId}{n:Nat}(A8:(prog.globals[g]?).map (·.type)=j t)(bA:prog.underlying t=j (.array n e))(he:prog.underlying e=j (.int k))(Gw:prog.cellsOf e=1)(QX:prog.cellsOf t=n)(h:VarReads prog W name (tabData k l)):u_ (nV W) g (l.map λ x=>.v (.int k x)):=by obtain⟨a6,rm,cs,pQ,I,U0,U1,U2,aP⟩:=h;obtain rfl:=q6 (aI.symm.trans U0);obtain rfl:=q6 (A8.symm.trans U1);have:=alA aI U2 (cells_of_tab bA he Gw QX aP) alB;rwa [vC]at this
def aUU{H:Type}{enc:TypeId×Value→H}{P:Program}{w:World}{base:Nat}{l':Nat→Bool}{held:Bool}{pQ:Nat}{t e:TypeId}{n:Nat}{cs:k8}{c4:List (DataW H)}{I:List MemPlace}(bA:P.underlying t=j (.array n e))
  (h:tk enc P w base l' held pQ t cs=j (.agg c4,I)):cs.length=P.cellsOf t:=by
 cases pQ with
 |zero=>simp[tk]at h
 |succ pQ=>
  simp only[tk,bA]at h;split at h
  ·assumption
  ·cases h
def N':bX:=[128,191,160,191,128,159,144,191,128,143]++cH 22 (0:Int)
def aUV:∀i:Fin 16,((N'.map (kE .u8)).drop (i.val*2)).take 2=[.int .u8 (accLo i.val),.int .u8 (accHi i.val)]:=by
 have h:∀i:Fin 16,(N'.drop (i.val*2)).take 2=[(accLo i.val:Int),(accHi i.val:Int)]:=by decide+kernel
 intro i;rw[←tD,←vU,h i];rfl
def alC{α:Type}:∀(n:Nat) (a b:List α),a.length=n*2→b.length=n*2→(∀i,i<n→(a.drop (i*2)).take 2=(b.drop (i*2)).take 2)→a=b
 |0,[],[],_,_,_=>rfl
 |n+1,[x],_,aF,_,_=>by simp at aF;omega
 |n+1,_::_::_,[u],_,an,_=>by simp at an;omega
 |n+1,x::y::a,u::v::b,aF,an,h=>by
  have a8:=h 0 aa;simp at a8;obtain⟨rfl,rfl⟩:=a8;rw[alC n a b (by simp at aF;omega) (by simp at an;omega) λ i aB=>by
   have:=h (i+1) aa;rwa [show(i+1)*2=i*2+1+1 by omega,U3,U3,U3,U3]at this]
def aUW{W:World}{g:Nat}(aI:prog.globalNamed "unicode/utf8.acceptRanges"=j g)(A8:(prog.globals[g]?).map (·.type)=j (F4.t 139))(h:VarReads prog W "unicode/utf8.acceptRanges" acceptData):u_ (nV W) g xj:=by
 obtain⟨a6,rm,cs,pQ,I,U0,U1,U2,aP⟩:=h;obtain rfl:=q6 (aI.symm.trans U0);obtain rfl:=q6 (A8.symm.trans U1);have hlen:=aUU F5.t139 aP;rw[show prog.cellsOf (F4.t 139)=16*2 from aK]at hlen;have fF:prog.cellsOf (F4.t 138)=2:=aK;have fp:cs.toList=N'.map (kE .u8):=alC 16 _ _ hlen (by simp[N']) λ i aB=>by
  obtain⟨aWb,d,q,alD,he⟩:=array_elem F5.t139 aP i aB;simp only[fQ,D_ aB,eH,br]at alD;subst alD;rw[fF]at he;have qg:prog.cellsOf (F4.t 5)=1:=aK;have:=ints_of_struct F5.t138 (λ ac f bc=>by
   match ac,bc with
   |0,bc=>simp at bc;subst bc;exact⟨F5.t5,rfl,qg⟩
   |1,bc=>simp at bc;subst bc;exact⟨F5.t5,rfl,qg⟩
   |ac+2,bc=>simp at bc) (by rw[fF];rfl) he
  rw[this,aUV ⟨i,aB⟩];rfl
 have:=alA aI U2 fp alB;rwa [vC]at this
def globs4{W:World}{a b:String×DataW Unit}(h:laidMet prog [a,b,("internal/strconv.uint64pow10",tabData .u64 pow10Tab),("narrator/attr.codes",tabData .i64 [1,2,3,4,5,7,8,9]),("unicode/utf8.acceptRanges",acceptData),("unicode/utf8.first",firstData)] W):∀g cells,E.fv g=j cells→u_ (nV W) g cells:=by
 obtain⟨bn,ao,_⟩:=h;have ak:=LaidVars_reads ao;intro g cells aR;rcases azO g cells aR with⟨rfl,rfl⟩|⟨rfl,rfl⟩|⟨rfl,rfl⟩|⟨rfl,rfl⟩|iy
 ·have:=UZ (g:=0) (t:=180) (e:=5) (n:=256) aK aK underlying180 underlying5 aK aK (ak _ _ aX:VarReads prog W "unicode/utf8.first" firstData);rw[show xi=firstTab.map λ x=>bx.v (.int .u8 x)from by
   unfold xi firstTab;rw[vC];exact yO λ c aj=>by rw[alx ⟨c,Bd.1 aj⟩];rfl]
  exact this
 ·exact aUW aK aK (ak _ _ aX)
 ·exact UZ (g:=2) (t:=239) (e:=3) (n:=8) (l:=[1,2,3,4,5,7,8,9]) aK aK underlying239 underlying3 aK aK (ak "narrator/attr.codes" _ aX)
 ·exact UZ (g:=4) (t:=263) (e:=226) (n:=20) (l:=pow10Tab) aK aK underlying263 underlying226 aK aK (ak "internal/strconv.uint64pow10" _ aX)
 ·exact iy.elim
end Go.VI
namespace Go.VI
open Go.Proofs
open Go.RowKit
open Go.Shelf
open Go.Proofs.Tryz
set_option maxRecDepth 100000
set_option maxHeartbeats 40000000
set_option linter.unusedVariables false
set_option linter.unusedSimpArgs false
set_option linter.defProp false
def mkOK:A4 E:=by
 intro g fn h v w bo;rcases azL g fn h with⟨rfl,rfl⟩|⟨rfl,rfl⟩|h
 ·go_enter func153,ntmps153
  go_wp2
  go_ret
  exact⟨rfl,_,rfl⟩
 ·go_enter func156,ntmps156
  go_wp2
  go_ret
  exact⟨rfl,_,rfl⟩
 ·exact h.elim
end Go.VI
namespace Go.VI
open Go.Proofs
open Go.Proofs.Tryz
set_option maxRecDepth 100000
set_option maxHeartbeats 40000000
set_option linter.unusedVariables false
set_option linter.unusedSimpArgs false
set_option linter.defProp false
def cvN(a b:Int)(aF:0≤a∧a≤255)(an:0≤b∧b≤255)(l:List (bm×bm×bm))(aI:l.length≤maxLen):
  gV 5 [.i (.v (.int .u8 a)),.i (.v (.int .u8 b)),.i (.af 3 (l.map λ a=>[.str a.1,.str a.2.1,.str a.2.2]) J)] ah:=by
 obtain⟨m,rfl⟩:=jC aF.1;obtain⟨n,rfl⟩:=jC an.1;have ap:maxLen≤9223372036854775807:=by unfold maxLen;omega
 exact c5 m n aa aa l aa
end Go.VI
