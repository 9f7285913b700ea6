import Derived.Test.YtflnccklneafnaaGreatDoorZTCQ5
import Derived.Shelf.Spec.SlicesGrow
import Derived.Deep.LoopGhost
import Derived.Lib.Walk
import Derived.Lib.SliceRun
import Derived.MakeChecks
import Derived.Handy
import Derived.Shelf.Strconv.AppendUint10
import Derived.Shelf.LaysM
import Derived.Shelf.Unicode.ValidAny
import Derived.Shelf.Strconv.Itoa3
import Derived.Shelf.Strings.Search1
import Derived.Lib.LaidU8
open And renaming intro→o
open Array renaming getElem?_toList→mH,getD_eq_getD_getElem?→di,getElem?_eq_some_iff→jY,replicate→y_,getElem?_append_left→xc,size_append→MR,size_replicate→Si
open Bool renaming false_eq_true→fF,and_eq_true→cR,or_eq_true→w2,not_eq_true'→qW,or_false→xv,true_and→jJ,false_and→lo,and_false→xI,not_false→ra,not_eq_true→F9
open Eq renaming trans→ga
open Go.Builtin renaming zeroCells→Ev
open Go.Code renaming loop→GW
open Go.DataW renaming trod→r5
open Go.Instr renaming sliceAt→uV
open Go.Lib renaming pow10Tab→sb,decDigits→nq,decDigits_length→Qw,run_eql_slice_nil→G9,nDigits→ww,zeros24→AV,byteCells→LK
open Go.Result renaming andThen_ok→eg
open Go.RowKit.Below renaming heap_alloc→zB,refl→wv
open Go.Sem renaming run_bind→dT,run_pure→eE,run→tL
open Go.Shelf renaming Ren→Hg
open Go.Value renaming int→jW,pointer→Cg
open Go.World renaming cell?→rP,cell?_alloc_new→Hf
open Int renaming toNat_natCast→nV,eq_ofNat_of_zero_le→jb,le_refl→F_,lt_irrefl→Qs,tmod_eq_emod_of_nonneg→afI,reduceEq→Gk
open List renaming replicate→cB,range→g',range'→lF,length_eq_zero_iff→pX,map_cons→fh,mem_cons→ng,getElem?_map→fw,getElem?_eq_some_iff→bF,getElem?_append_left→ei,getElem?_append_right→hd,getElem?_eq_getElem→eX,length_append→dp,foldl_cons→yX,getElem_mem→mL,length_cons→cQ,append_assoc→dU,getElem?_set_ne→dw,append_nil→c8,set_append_right→yY,nil_append→gJ,length_map→nM,length_nil→dr,take→ek,size_toArray→H8,mem_cons_of_mem→xe,length_take→hE,length_drop→iG,mem_append→fS,getElem?_eq_none→rW,length_pos_iff→M2,ext_getElem?→EO,mem_filter→Nk,map_congr_left→zn,length→BY,mem_map→Fa,map_nil→fm,take_zero→mQ,mem_range→zv,getD_eq_getElem?_getD→oF,drop_zero→il,drop_eq_getElem_cons→jq,drop_length→mR,getElem?_range→Jf,take_append_drop→Jg,flatMap_nil→r9,map_map→vH,not_mem_nil→xG,all_cons→FF,cons_append→xH,set_cons_zero→FG,take_of_length_le→s7,drop→eG,any_eq_false→Qk,map_append→rf,map_set→uo,map_take→vZ,map_drop→sk,take_succ_eq_append_getElem→KX,mem_cons_self→Lf,getD→Gz,getElem?_take_of_lt→agP,mem_singleton→AJ,takeWhile_cons_of_pos→ahq,drop_succ_cons→Sq
open List.cons renaming injEq→Bu
open Nat renaming lt_of_lt_of_le→wO,le_refl→cL,le_trans→rN,add_zero→e7,mul_le_mul_right→jX,add_mul→hc,zero_add→cp,div_lt_iff_lt_mul→HA,mod_lt→Ei,mul_comm→uT,div_add_mod→yR,add_assoc→tB,sub_self→rR,min_eq_left→MX,not_le→e',add_comm→qb,zero_le→jp,not_lt_zero→q8,sub_zero→sf,mod_eq_of_lt→CU,reduceAdd→c1
open Ne renaming symm→a'
open Option renaming map_eq_some_iff→c0,getD_some→i1,map_some→en,bind_some→OO,isSome_some→OS
open Option.some renaming inj→pY,injEq→bg
open Prod.mk renaming injEq→bw
open UInt8 renaming ofNat→hI
namespace Go.VI
open Go.Proofs
set_option maxRecDepth 100000
set_option maxHeartbeats 40000000
set_option linter.unusedVariables false
set_option linter.unusedSimpArgs false
set_option linter.defProp false
def ag9{m:M}{c:List U}{p:Nat}{H:aa}(ag:∀a∈c,∃x,a=.i x)(h:yr m c p H)(x y z:aC):∃la an,o8 3 [(0,.ptr 0 0 0 0),(3,.ptr (p) 0 0 0),(47,.i x),(48,.i y),(49,.i z)] H=([(0,.ptr 0 0 0 0),(3,.ptr (la) 0 0 0),(47,.i x),(48,.i y),(49,.i z)],an)∧yr m c la an:=by
 have j:=h.yh;have I:=h.au;have e:od 3 H [(0,.ptr 0 0 0 0),(3,.ptr (p) 0 0 0),(47,.i x),(48,.i y),(49,.i z)]=[(0,.ptr 0 0 0 0),(3,.ptr (p) 0 0 0),(47,.i x),(48,.i y),(49,.i z)]:=by simp[od,el,I,tp,Nat.not_lt.2 j]
 rw[I6,e];refine aMm ag ⟨?_,j,?_⟩ x y z
 ·obtain⟨A,ae,B,af,T,e,i⟩:=h.aj.iN (n:=3);have i0:=i;obtain⟨a,b,aD,aG,rfl,rfl,_⟩:=i;exact⟨a,ae,b,af,T,e,i0⟩
 ·rw[vl,I];simp only[en,dO,DJ ag]
def yr.call{f:Nat}{bq:List U}{r:U}{m bZ:M}{c:List U}{p:Nat}{H:aa}(he:E.ext f=none)(gO:bx bq=[])(ah:bc r=[])(h:hi f bq m r bZ)(tX:yr m c p H):∃an,cn f (.ptr 0 0 0 0::bq) H r an∧yr bZ c p an:=by have aMr:=tX;obtain⟨⟨a,ae,b,af,T,rfl,a0,cT,aD,aG,At,Au,aA,aj,cS,al,mf,cm⟩,yh,au⟩:=tX;obtain rfl:a=a0:=R;obtain rfl:b=cT:=R;obtain⟨an,e,j,I⟩:=GN (H:=.box (aT m (a+1) ae (b+1) af)::T) (p:=0) (ae:=ae) (af:=af) he gO ah h ⟨rfl,⟨aD,aA⟩,⟨aG,aj⟩,R⟩;exact⟨an,e,ag3 aMr.aj j I,yh,I.2.1 p _ au R trivial⟩
noncomputable def GV(J:Fr)(H:aa):Option (eC×Fr×aa):=vD E 3 55 (fg Tryz.f55 0) (o8 3 J H)
def uA(m:M)(v:Int)(on:Bool)(l:List Int):M:=l.foldl (λ m n=>DC m v n on) m
def bi.uA{v:Int}{on:Bool}:∀{l:List Int} {m:M},bi m→bi (uA m v on l)
 |[],_,h=>h
 |n::l,m,h=>bi.uA (l:=l) (h.mod v n on)
def aMs(r c v:Int)(bk:List Int)(t:List UInt8)(on:Bool)(aMt:decide (c=104)=on)(bh:v=0∨v=63)(xz:bk.length<100000):∀(n k:Nat) (m:M) (p:Nat) (H:aa),k+n=bk.length→bi m→yr m [.i (.v (.int .i64 (4))),.i (.v (.int .i32 r)),.i (.v (.int .u8 (c))),.i (.v (.int .u8 (v))),.i (.str []),.i (.sl 1 (b1 bk) false),.i (.str t)] p H→∃J an,GV [(0,.ptr 0 0 0 0),(3,.ptr (p) 0 0 0),(47,.i (.sl 1 (b1 bk) false)),(48,.i (.v (.int .i64 (bk.length)))),(49,.i (.v (.int .i64 (k))))] H=some (.exit 1,J,an)∧hX (uA m v on (bk.drop k)) an:=by
 intro n;induction n with
 |zero=>intro k m p H ay hm tX;obtain rfl:k=bk.length:=R;obtain⟨la,H1,e,Ly⟩:=ag9 (by simp) tX (.sl 1 (b1 bk) false) (.v (.int .i64 bk.length)) (.v (.int .i64 bk.length));unfold GV;rw[e,zM,mR];rw[cM oM 0];simp(disch:=omega)only[ar,simprocAttr,py,bA,bQ];exact⟨_,_,rfl,Ly.aj⟩
 |succ n a8=>intro k m p H ay hm tX;obtain⟨la,H1,e,Ly⟩:=ag9 (by simp) tX (.sl 1 (b1 bk) false) (.v (.int .i64 bk.length)) (.v (.int .i64 k));unfold GV;rw[e,zM];have fR:k<bk.length:=R;have ak:=Ac fR;have au:=Ly.au;obtain⟨bu,ao,aMu⟩:=Ly.call rfl rfl rfl (aLg hm v bk[k] bh on);obtain⟨bM,ox,aH,aj⟩:=a8 (k+1) _ la bu R (hm.mod v bk[k] on) aMu;rw[jq fR];rw[cM oM 0];simp(disch:=omega)only[ar,simprocAttr,py,bA,au,ak,aMt,ao,aH,show∀J H,fN E 3 55 (GW _) J H=GV (norm [0,3,47,48,49] J) H from λ J H=>zN rfl aK aK aK aK J H];exact⟨_,_,rfl,aj⟩
def aMv{f:Nat}{n' kC:List U}(h:f∈Lx∧((n'=[]∧∃k,kC=[.ptr k 0 0 0])∨(n'=[.ptr 0 0 0 0]∧kC=[]))):k' E f=true∧∀(l:List Int) (H:aa),gg E (b3 E) f (n'++[.i (.sl 1 (b1 l) false)]++kC) H=dd E (b3 E) f (n'++.i (.sl 1 (b1 l) false)::kC) H:=by
 obtain⟨aI,aR⟩:=h;simp only[Lx,ng,xG,or_false]at aI;rcases aI with rfl|rfl|rfl|rfl|rfl|rfl
 ·refine⟨mU.2.1,λ l H=>?_⟩;rcases aR with⟨rfl,k,rfl⟩|⟨rfl,rfl⟩<;>simp(disch:=omega)only[ar,simprocAttr,bB,cC,ku,de,nr,dM,eO,cV,ns,bA,abS,cj]
 ·refine⟨CJ.2.1,λ l H=>?_⟩;rcases aR with⟨rfl,k,rfl⟩|⟨rfl,rfl⟩<;>simp(disch:=omega)only[ar,simprocAttr,bB,cC,ku,de,nr,dM,eO,cV,ns,bA,abT,cj]
 ·refine⟨PU.2.1,λ l H=>?_⟩;rcases aR with⟨rfl,k,rfl⟩|⟨rfl,rfl⟩<;>simp(disch:=omega)only[ar,simprocAttr,bB,cC,ku,de,nr,dM,eO,cV,ns,bA,abU,cj]
 ·refine⟨Kf.2.1,λ l H=>?_⟩;rcases aR with⟨rfl,k,rfl⟩|⟨rfl,rfl⟩<;>simp(disch:=omega)only[ar,simprocAttr,bB,cC,ku,de,nr,dM,eO,cV,ns,bA,acd,cj]
 ·refine⟨PZ.2.1,λ l H=>?_⟩;rcases aR with⟨rfl,k,rfl⟩|⟨rfl,rfl⟩<;>simp(disch:=omega)only[ar,simprocAttr,bB,cC,ku,de,nr,dM,eO,cV,ns,bA,ace,cj]
 ·refine⟨P0.2.1,λ l H=>?_⟩;rcases aR with⟨rfl,k,rfl⟩|⟨rfl,rfl⟩<;>simp(disch:=omega)only[ar,simprocAttr,bB,cC,ku,de,nr,dM,eO,cV,ns,bA,acf,cj]
def RR{l:List Int}(h:∀x∈l,x≤99999)(i:Int){d:Int}(aM:0≤d∧d≤1):d≤bU l i d∧bU l i d≤100000:=by
 unfold bU;split
 ·omega
 ·split
  ·omega
  ·rename_i j I;have hm:l.getD i.toNat 0∈l:=by rw[oF,eX R];exact mL _
   have:=h _ hm;split<;>omega
def DK(m:M)(s:List UInt8)(v:Int)(bk:List Int)(c:Int):M:=
 if s≠[]then m
 else if(c=104∨c=108)∧(v=0∨v=63)then uA m v (decide (c=104)) bk
 else if c=104∨c=108∨v≠0 then m
 else if c=109 then{m with a:=wi m.a bk}
 else yp m c bk
def aMw{m:M}(hm:bi m)(r c v:Int)(s:List UInt8)(bk:List Int)(t:List UInt8)(xz:bk.length<100000)(aj:∀x∈bk,x≤99999):hi 55 [.agg [.i (.v (.int .i64 (4))),.i (.v (.int .i32 r)),.i (.v (.int .u8 (c))),.i (.v (.int .u8 (v))),.i (.str (s)),.i (.sl 1 (b1 bk) false),.i (.str t)]] m (.bd []) (DK m s v bk c):=by
 intro ae aD af aG;unfold DK;by_cases aR:s=[]
 ·rw[if_neg (λ h=>h aR)];subst aR;by_cases ag:c=104∨c=108
  ·by_cases bh:v=0∨v=63
   ·rw[if_pos ⟨ag,bh⟩];obtain⟨bM,an,e,cJ⟩:=aMs r c v bk t _ rfl bh xz bk.length 0 m 3 (.box (aT m 1 ae 2 af)::.az 5 ae aD (aX m.G)::.az 5 af aG (aX m.O)::.box [.i (.v (.int .i64 (4))),.i (.v (.int .i32 r)),.i (.v (.int .u8 (c))),.i (.v (.int .u8 (v))),.i (.str ([])),.i (.sl 1 (b1 bk) false),.i (.str t)]::[]) R hm ⟨hX.dC,R,rfl⟩;rw[il]at cJ;rw[show((0:Nat):Int)=0 from rfl]at e;have fj:=ck bk;have hn:=show∀J H,fN E 3 55 (GW _) J H=GV (norm [0,3,47,48,49] J) H from λ J H=>zN rfl aK aK aK aK J H
    rcases ag with rfl|rfl
    ·rcases bh with rfl|rfl
     ·rw[bo oM];simp(disch:=omega)only[ar,simprocAttr,py,bA,bQ,bV,bH,hn,e,fj];exact⟨_,rfl,cJ.iN⟩
     ·rw[bo oM];simp(disch:=omega)only[ar,simprocAttr,py,bA,bQ,bV,bH,hn,e,fj];exact⟨_,rfl,cJ.iN⟩
    ·rcases bh with rfl|rfl
     ·rw[bo oM];simp(disch:=omega)only[ar,simprocAttr,py,bA,bQ,bV,bH,hn,e,fj];exact⟨_,rfl,cJ.iN⟩
     ·rw[bo oM];simp(disch:=omega)only[ar,simprocAttr,py,bA,bQ,bV,bH,hn,e,fj];exact⟨_,rfl,cJ.iN⟩
   ·rw[if_neg (λ h=>bh h.2),if_pos R];have ag_:¬v=0:=λ h=>bh (.inl h)
    have ag':¬v=63:=λ h=>bh (.inr h)
    rcases ag with rfl|rfl
    ·rw[bo oM];simp(disch:=omega)only[ar,simprocAttr,py,bA,bQ,bV,bH,ag_,ag'];exact⟨_,rfl,dZ.dC⟩
    ·rw[bo oM];simp(disch:=omega)only[ar,simprocAttr,py,bA,bQ,bV,bH,ag_,ag'];exact⟨_,rfl,dZ.dC⟩
  ·have ba:¬c=104:=λ h=>ag (.inl h)
   have gP:¬c=108:=λ h=>ag (.inr h)
   rw[if_neg (λ h=>ag h.1)];by_cases bh:v=0
   ·rw[if_neg R];subst bh;by_cases gp:c=109
    ·rw[if_pos gp];subst gp;have ao:=λ H=>aKE m.a bk R (λ x ak=>by have:=aj x ak;omega) H
     obtain⟨bW,AP⟩:∃bW,wi m.a bk=bW:=⟨_,rfl⟩;rw[AP]at ao⊢;rw[bo oM];simp(disch:=omega)only[ar,simprocAttr,py,bA,bQ,bV,bH,ao];exact⟨_,rfl,dZ.dC⟩
    ·rw[if_neg gp];have ao:=aMe (m:=m) (ae:=ae) (af:=af) (aD:=aD) (aG:=aG) (c:=[.i (.v (.int .i64 (4))),.i (.v (.int .i32 r)),.i (.v (.int .u8 (c))),.i (.v (.int .u8 (0))),.i (.str ([])),.i (.sl 1 (b1 bk) false),.i (.str t)]);rw[aMg]at ao;have Ow:RQ.length=26:=rfl;have xy:((lF 4 27).all λ c=>!c==3)=true:=rfl;have fe:=RR aj 0 (d:=1) R;have cT:=RR aj 0 (d:=0) R;obtain⟨ai,b9⟩:=ag6 c aMi;cases ai with
     |none=>rw[aMj b9];rw[bo oM];simp(disch:=omega)only[ar,simprocAttr,py,bA,bQ,bV,bH,ba,gP,gp,ao,b9,Ow,xy];exact⟨_,rfl,dZ.dC⟩
     |some a=>
      obtain⟨p,au,ay,rfl⟩:=ag5 b9;obtain⟨cl,f,n',kC,rfl,aI,an,aH,cJ⟩:=aMh hm bk xz fe cT ae af aD aG [.i (.v (.int .i64 (4))),.i (.v (.int .i32 r)),.i (.v (.int .u8 (c))),.i (.v (.int .u8 (0))),.i (.str ([])),.i (.sl 1 (b1 bk) false),.i (.str t)] p au;obtain⟨aMx,aMy⟩:=aMv aI;have kR:c=cl:=by have:=Bb ay;simpa using this
      subst kR;rw[←aMy]at aH;simp only[DG]at aH;rw[bo oM];simp(disch:=omega)only[ar,simprocAttr,py,bA,bQ,bV,bH,ba,gP,gp,ao,b9,aMx,aH,Ow,xy];exact⟨_,rfl,cJ.iN⟩
   ·rw[if_pos (.inr (.inr bh))];rw[bo oM];simp(disch:=omega)only[ar,simprocAttr,py,bA,bQ,bV,bH,ba,gP,bh];exact⟨_,rfl,dZ.dC⟩
 ·rw[if_pos aR];have Ds:(s==[])=false:=by simpa using aR
  by_cases ag:c=104
  ·subst ag;rw[bo oM];simp(disch:=omega)only[ar,simprocAttr,py,bA,bQ,bV,bH,aR,Ds];exact⟨_,rfl,dZ.dC⟩
  ·by_cases aha:c=108
   ·subst aha;rw[bo oM];simp(disch:=omega)only[ar,simprocAttr,py,bA,bQ,bV,bH,aR,Ds];exact⟨_,rfl,dZ.dC⟩
   ·rw[bo oM];simp(disch:=omega)only[ar,simprocAttr,py,bA,bQ,bV,bH,aR,Ds,ag,aha];exact⟨_,rfl,dZ.dC⟩
def iQ{c:Prop} [Decidable c]{a b:M}(aA:bi a)(aj:bi b):bi (if c then a else b):=by split<;>assumption
def bi.RS{m:M}(h:bi m){c:Int}{l:List Int}(aj:∀x∈l,x≤99999):bi (yp m c l):=by
 have fe:=RR aj 0 (d:=1) R;have ag:=h.aF.2.1;have bp:=h.cY;have hw:=h.w;have GX:∀n,bi (uy m n):=λ n=>by
  unfold uy;split
  ·exact(h.yg ⟨R,R⟩).l5
  ·exact h
 unfold yp;exact iQ (h.Gx R)<|
  iQ (h.jO (Ar _ _ h))<|
  iQ (h.jO (Ar _ _ h))<|
  iQ (h.jO (La _ _ h))<|
  iQ (h.jO (La _ _ h))<|
  iQ ((h.jO (Ar _ _ h)).l5)<|
  iQ ((h.jO (Ar _ _ h)).l5)<|
  iQ (h.jO (af7 _ h))<|
  iQ (h.jO (Gt _ _ h))<|
  iQ (bi.agk _ h)<|
  iQ (h.aJ6)<|
  iQ (h.era)<|
  iQ (GX _)<|
  iQ (GX _)<|
  iQ (h.Gx R)<|
  iQ (h.yg ⟨bp.1,bp.2.1⟩)<|
  iQ (h.yg ⟨bp.1,bp.2.1⟩)<|
  iQ (h.we R R)<|
  iQ (bi.agl _ h)<|
  iQ (h.jO (af7 _ h))<|
  iQ (h.jO (La _ _ h))<|
  iQ (h.jO (Gt _ _ h))<|
  iQ (h.jO (Ar _ _ h))<|
  iQ (h.jO (Gt _ _ h))<|
  iQ (h.Rh)<|
  iQ (h.Rj)<|
  iQ (h.Rl)<|
  iQ (h.GJ)<|
  iQ (h.DD) h
def bi.seq{m:M}(h:bi m){s:List UInt8}{v c:Int}{bk:List Int}(aj:∀x∈bk,x≤99999):bi (DK m s v bk c):=by
 unfold DK
 repeat' split
 ·exact h
 ·exact h.uA
 ·exact h
 ·exact{w:=h.w,h:=h.h,G:=h.G,O:=h.O,aF:=h.aF,bO:=h.bO,a:=aKD h.a _,aD:=h.aD,cY:=h.cY,cD:=h.cD,back:=h.back,bK:=h.bK,hM:=h.hM,eK:=h.eK,ds:=h.ds}
 ·exact h.RS aj
def aMz{d:io}(h:vQ d.s)(ah:∀c∈d.out,0≤c∧c≤2147483647)(i b:Int)(aW:0≤b)(j:b≤255):∀c∈(fp d i b).out,0≤c∧c≤2147483647:=by
 have aA:∀(l:List Int) (x:Int),(∀c∈l,0≤c∧c≤2147483647)→0≤x→x≤2147483647→∀c∈l++[x],0≤c∧c≤2147483647:=by
  intro l x al ak yN c ag;rcases fS.1 ag with h|h
  ·exact al c h
  ·rw[AJ.1 h];exact⟨ak,yN⟩
 unfold fp;split
 ·rename_i ag;simp only;split
  ·have:0≤d.s.v∧d.s.v<32768:=by unfold vQ at h;omega
   exact aA _ _ ah R R
  ·exact ah
 ·have b9:∀c∈(if 0<d.s.dV then d.out++[65533]else d.out),0≤c∧c≤2147483647:=by
   split
   ·exact aA _ _ ah R R
   ·exact ah
  simp only;generalize (if 0<d.s.dV then d.out++[65533]else d.out)=ai at b9⊢;split
  ·exact aA _ _ b9 aW R
  ·split
   ·exact aA _ _ b9 R R
   ·exact b9
def ahb:∀(l:List UInt8) (i:Nat) (d:io),vQ d.s→(∀c∈d.out,0≤c∧c≤2147483647)→∀c∈(gw l i d).out,0≤c∧c≤2147483647
 |[],i,d,h,ah=>ah
 |b::l,i,d,h,ah=>by
  have aj:((b.toNat:Nat):Int)≤255:=by have:=b.toNat_lt;omega
  exact ahb l (i+1) _ (aex h _ _ R aj) (aMz h ah _ _ R aj)
def aMA(t:List UInt8):∀c∈ht t,0≤c∧c≤2147483647:=ahb t 0 ⟨kY,[],0⟩ (.inl rfl) (by simp)
def uB(t:List UInt8):List Int:=ht t++if j_ t=[]then[]else[65533]
def ahc(t:List UInt8):(uB t).length≤2*t.length+1:=by have:=F' t;unfold uB;rw[dp];split<;>simp<;>omega
def aMB(t:List UInt8)(bp:(t.length:Int)<50000):gv 114 [.i (.str t)] (.i (.sl 1 (gT (uB t)) false)):=by
 have aM:=λ H=>re [] t (by simp;omega) H
 rw[gJ]at aM;have al:=F' t;have ah:=da (ht t);have rp:ek (ht t).length (gT (ht t))=gT (ht t):=s7 R;unfold uB;by_cases aW:j_ t=[]
 ·rw[if_pos aW,c8];refine bz PN ?_;simp(disch:=omega)only[ar,simprocAttr,ada,cC,aM,aW,ah,rp];exact⟨_,rfl⟩
 ·rw[if_neg aW];have aMC:=Ky (ht t) 65533;have RT:(j_ t==[])=false:=by simp[aW]
  have iC:=da (ht t++[65533]);have aMD:ek ((ht t).length+1) (gT (ht t++[65533]))=gT (ht t++[65533]):=s7 (by rw[iC,dp];exact cL _);refine bz PN ?_;simp(disch:=omega)only[ar,simprocAttr,ada,cC,aM,aW,RT,ah,iC,rp,aMD,aMC];exact⟨_,rfl⟩
def aME(t:List UInt8)(bp:(t.length:Int)<50000)(H:aa):cv 114 [.i (.str t)] H (.i (.sl 1 (gT (uB t)) false)):=gY rfl rfl rfl (aMB t bp)
def aMF(t:List UInt8):∀c∈uB t,-2147483648≤c∧c≤2147483647:=by
 intro c ag;unfold uB at ag;rcases fS.1 ag with h|h
 ·have:=aMA t c h;omega
 ·split at h
  ·simp at h
  ·simp at h;omega
def aMG(r:Int):(eP r).length≤4:=by
 unfold eP;repeat' split
 all_goals simp
def ahd:∀l:List Int,(dN l).length≤4*l.length
 |[]=>by simp[dN,fT]
 |r::l=>by have j:=aMG r;have I:=ahd l;rw[s',dp,C3,cQ];omega
def aMH(l:List Int)(al:l.length≤100000)(ah:∀r∈l,-2147483648≤r∧r≤2147483647):∀(n k:Nat),k+n=l.length→
  hV vM 0 [(3,.ref 0 0 0 (dN (l.take k)).length),(6,.i (.sl 1 (gT l) false)),(7,l.length),(8,k)] [.sl 1 0 (dJ (dN (l.take k))) false] 0 [(3,.ref 0 0 0 (dN l).length),(6,.i (.sl 1 (gT l) false)),(7,l.length),(8,l.length),(9,false)] [.sl 1 0 (dJ (dN l)) false]:=by
 intro n;induction n with
 |zero=>intro k ay;obtain rfl:k=l.length:=R;rw[List.take_length];refine(cM vM 0).trans ?_;simp(disch:=omega)only[ar,simprocAttr,CB,cC,de,dY]
 |succ n a8=>
  intro k ay;have fR:k<l.length:=R;have ak:=Qy fR;have a8:=a8 (k+1) R;refine ga ?_ a8;clear a8;have bp:dN (l.take (k+1))=dN (l.take k)++fT (eP l[k]):=by rw[KX fR,ae2,ae3]
  have hle:=ahd (l.take k);have be:(l.take k).length=k:=by rw[hE];omega
  have fA:=λ T=>aeH l[k] (ah _ (mL fR)) (dN (l.take k)) _ rfl R T
  have sn:(dN (l.take k)++fT (eP l[k])).length=(dN (l.take k)).length+(eP l[k]).length:=by rw[dp,C3]
  rw[bp,sn];refine(cM vM 0).trans ?_;simp(disch:=omega)only[ar,simprocAttr,CB,cC,de,ak,fA,dY,sn,Ko]
def aMI(l:List Int)(al:l.length≤100000)(ah:∀r∈l,-2147483648≤r∧r≤2147483647)(H:aa):cv 113 [.i (.sl 1 (gT l) false)] H (.i (.str (dN l))):=cu (by
 have ao:=aMH l al ah l.length 0 R;rw[mQ,KL,show dJ []=[]from rfl,show((0:Nat):Int)=0 from rfl,dr]at ao;have fj:=da l;have VH:=dY (dN l);refine bz vM ?_;simp(disch:=omega)only[ar,simprocAttr,CB,cC,de,ao,fj,mx,en,lX,l0,Ko];exact⟨_,rfl⟩)
def aMJ(s p:List UInt8):gv 187 [.i (.str s),.i (.str p)] (↑(s.take p.length==p)):=by
 by_cases h:p.length≤s.length
 ·have I:(p.length:Int)≤s.length:=R;refine bz P1 ?_;simp(disch:=omega)only[ar,simprocAttr,adQ,h,I];exact⟨_,rfl⟩
 ·have I:¬(p.length:Int)≤s.length:=R;have e:(s.take p.length==p)=false:=by rw[beq_eq_false_iff_ne];intro e;have:=congrArg BY e;rw[hE]at this;omega
  rw[e];refine bz P1 ?_;simp(disch:=omega)only[ar,simprocAttr,adQ,h,I];exact⟨_,rfl⟩
def aMK(s p:List UInt8)(H:aa):cv 187 [.i (.str s),.i (.str p)] H (↑(s.take p.length==p)):=gY rfl rfl rfl (aMJ s p)
def ahe(s p:List UInt8)(H:aa):cv 112 [.i (.str s),.i (.str p)] H (↑(s.take p.length==p)):=cu (by
 have e:=λ H=>aMK s p H
 refine bz ac' ?_;simp(disch:=omega)only[ar,simprocAttr,aEq,e];exact⟨_,rfl⟩)
def GY(t:List UInt8):Bool:=(t.take 2==[48,59])||(t.take 2==[50,59])
def aML(t:List UInt8)(bp:t.length≤10000)(H:aa):cv 56 [.i (.str t)] H (.bd [.i (.str (if GY t=true then dN (uB (t.drop 2))else[])),↑(GY t)]):=cu (by
 have ao:=λ H=>ahe t [48,59] H
 have aH:=λ H=>ahe t [50,59] H
 simp only[cU,cp,c1]at ao aH;have aM:(t.drop 2).length≤t.length:=by rw[iG];omega
 have bN:=λ H=>aME (t.drop 2) R H
 have hq:=ahc (t.drop 2);have c':=λ H=>aMI (uB (t.drop 2)) R (aMF _) H
 unfold GY;have I:∀a b:UInt8,(t.take 2==[a,b])=true→2≤t.length:=λ a b h=>by have:=congrArg BY (beq_iff_eq.1 h);rw[hE]at this;simp at this;omega
 cases b_:t.take 2==[48,59]with
 |true=>have:=I _ _ b_;rw[b_]at ao;refine bz J0 ?_;simp(disch:=first|omega|(simp only[ec];omega))only[ar,simprocAttr,PH,cC,ao,aH,bN,c',Bool.true_or];exact⟨_,rfl⟩
 |false=>
  rw[b_]at ao;cases ca:t.take 2==[50,59]with
  |true=>have:=I _ _ ca;rw[ca]at aH;refine bz J0 ?_;simp(disch:=first|omega|(simp only[ec];omega))only[ar,simprocAttr,PH,cC,ao,aH,bN,c',Bool.or_true];exact⟨_,rfl⟩
  |false=>
   rw[ca]at aH;refine bz J0 ?_;simp(disch:=first|omega|(simp only[ec];omega))only[ar,simprocAttr,PH,cC,ao,aH,bN,c',Bool.or_self,fF];exact⟨_,rfl⟩)
def aMM(r c v:Int)(i:List UInt8)(bk:List Int)(t:List UInt8):
  gv 88 [uz ⟨2,r,c,v,i,bk,t⟩] (↑(GQ ⟨2,r,c,v,i,bk,t⟩)):=by
 rw[yq];unfold GQ;simp only[];by_cases j:32≤c
 ·simp only[j,fO];(refine bz fo ?_;simp(disch:=omega)only[ar,simprocAttr,fz,cC,bA,eM,ck,da,j,j];exact⟨_,rfl⟩)
 by_cases I:c=24
 ·simp only[I,fO];(refine bz fo ?_;simp(disch:=omega)only[ar,simprocAttr,fz,cC,bA,eM,ck,da,j,I];exact⟨_,rfl⟩)
 by_cases av:c=26
 ·simp only[av,fO];(refine bz fo ?_;simp(disch:=omega)only[ar,simprocAttr,fz,cC,bA,eM,ck,da,j,I,av];exact⟨_,rfl⟩)
 by_cases ba:c=27
 ·simp only[ba,fO];(refine bz fo ?_;simp(disch:=omega)only[ar,simprocAttr,fz,cC,bA,eM,ck,da,j,I,av,ba];exact⟨_,rfl⟩)
 simp only[j,I,av,ba,decide_false,xv,ra,jJ];by_cases qr:r=0;rotate_left
 ·simp only[qr,fO];(refine bz fo ?_;simp(disch:=omega)only[ar,simprocAttr,fz,cC,bA,eM,ck,da,j,I,av,ba,qr];exact⟨_,rfl⟩)
 subst qr;by_cases pO:v=0;rotate_left
 ·simp only[pO,fO];(refine bz fo ?_;simp(disch:=omega)only[ar,simprocAttr,fz,cC,bA,eM,ck,da,j,I,av,ba,pO];exact⟨_,rfl⟩)
 subst pO;cases i with
 |cons i0 i=>simp only[cQ,fO];(refine bz fo ?_;simp(disch:=omega)only[ar,simprocAttr,fz,cC,bA,eM,ck,da,j,I,av,ba,cQ];exact⟨_,rfl⟩)
 |nil=>
  cases t with
  |cons t0 t=>simp only[cQ,fO];(refine bz fo ?_;simp(disch:=omega)only[ar,simprocAttr,fz,cC,bA,eM,ck,da,j,I,av,ba,cQ];exact⟨_,rfl⟩)
  |nil=>
   cases bk with
   |cons kk bk=>simp only[cQ,fO];(refine bz fo ?_;simp(disch:=omega)only[ar,simprocAttr,fz,cC,bA,eM,ck,da,j,I,av,ba,b1,cQ];exact⟨_,rfl⟩)
   |nil=>simp only[dr,fO];(refine bz fo ?_;simp(disch:=omega)only[ar,simprocAttr,fz,cC,bA,eM,ck,da,j,I,av,ba,b1,dr];exact⟨_,rfl⟩)
def aMN(r c v:Int)(i:List UInt8)(bk:List Int)(t:List UInt8):
  gv 88 [uz ⟨3,r,c,v,i,bk,t⟩] (↑(DH ⟨3,r,c,v,i,bk,t⟩)):=by
 rw[yq];unfold DH;simp only[];by_cases j:3≤i.length
 ·have gq:3≤(i.length:Int):=R;simp only[j,fO];(refine bz fo ?_;simp(disch:=omega)only[ar,simprocAttr,fz,cC,bA,eM,ck,da,gq,j];exact⟨_,rfl⟩)
 have gq:¬3≤(i.length:Int):=R;cases I:i.any (kx 32 47)with
 |true=>simp only[I,fO];(refine bz fo ?_;simp(disch:=omega)only[ar,simprocAttr,fz,cC,bA,eM,ck,da,j,gq,I];exact⟨_,rfl⟩)
 |false=>
 simp only[j,decide_false,ra,jJ];by_cases av:c<48
 ·simp only[av,fO];(refine bz fo ?_;simp(disch:=omega)only[ar,simprocAttr,fz,cC,bA,eM,ck,da,gq,I,av];exact⟨_,rfl⟩)
 by_cases ba:126<c
 ·simp only[ba,fO];(refine bz fo ?_;simp(disch:=omega)only[ar,simprocAttr,fz,cC,bA,eM,ck,da,gq,I,av,ba];exact⟨_,rfl⟩)
 simp only[av,ba,decide_false,xv,ra,jJ];have key:(i=[]∧c=91)∨(i=[]∧c=93)∨(i=[]∧¬c=91∧¬c=93)∨(¬i=[]∧i.isEmpty=false):=by
  cases i with
  |cons i0 i=>exact .inr (.inr (.inr ⟨by simp,rfl⟩))
  |nil=>
    by_cases q:c=91
    ·exact .inl ⟨rfl,q⟩
    ·by_cases Bz:c=93
     ·exact .inr (.inl ⟨rfl,Bz⟩)
     ·exact .inr (.inr (.inl ⟨rfl,q,Bz⟩))
 rcases key with⟨rfl,rfl⟩|⟨rfl,rfl⟩|⟨rfl,bs,dq⟩|⟨bs,dq⟩
 ·simp only[I,fO];(refine bz fo ?_;simp(disch:=omega)only[ar,simprocAttr,fz,cC,bA,eM,ck,da,I,dr,List.any_nil,I];exact⟨_,rfl⟩)
 ·simp only[I,fO];(refine bz fo ?_;simp(disch:=omega)only[ar,simprocAttr,fz,cC,bA,eM,ck,da,I,dr,List.any_nil,I];exact⟨_,rfl⟩)
 ·simp only[bs,dq,decide_false,xv,xI,ra,jJ,List.isEmpty_nil];by_cases qr:r=0;rotate_left
  ·simp only[qr,fO];(refine bz fo ?_;simp(disch:=omega)only[ar,simprocAttr,fz,cC,bA,eM,ck,da,I,av,ba,bs,dq,qr];exact⟨_,rfl⟩)
  subst qr;by_cases pO:v=0;rotate_left
  ·simp only[pO,fO];(refine bz fo ?_;simp(disch:=omega)only[ar,simprocAttr,fz,cC,bA,eM,ck,da,I,av,ba,bs,dq,pO];exact⟨_,rfl⟩)
  subst pO;cases t with
  |cons t0 t=>simp only[cQ,fO];(refine bz fo ?_;simp(disch:=omega)only[ar,simprocAttr,fz,cC,bA,eM,ck,da,I,av,ba,bs,dq,cQ];exact⟨_,rfl⟩)
  |nil=>
   cases bk with
   |cons kk bk=>simp only[cQ,fO];(refine bz fo ?_;simp(disch:=omega)only[ar,simprocAttr,fz,cC,bA,eM,ck,da,I,av,ba,bs,dq,b1,cQ];exact⟨_,rfl⟩)
   |nil=>simp only[dr,fO];(refine bz fo ?_;simp(disch:=omega)only[ar,simprocAttr,fz,cC,bA,eM,ck,da,I,av,ba,bs,dq,b1,dr];exact⟨_,rfl⟩)
 ·simp only[decide_false,lo,ra,jJ,dq];by_cases qr:r=0;rotate_left
  ·simp only[qr,fO];(refine bz fo ?_;simp(disch:=omega)only[ar,simprocAttr,fz,cC,bA,eM,ck,da,gq,I,av,ba,bs,qr];exact⟨_,rfl⟩)
  subst qr;by_cases pO:v=0;rotate_left
  ·simp only[pO,fO];(refine bz fo ?_;simp(disch:=omega)only[ar,simprocAttr,fz,cC,bA,eM,ck,da,gq,I,av,ba,bs,pO];exact⟨_,rfl⟩)
  subst pO;cases t with
  |cons t0 t=>simp only[cQ,fO];(refine bz fo ?_;simp(disch:=omega)only[ar,simprocAttr,fz,cC,bA,eM,ck,da,gq,I,av,ba,bs,cQ];exact⟨_,rfl⟩)
  |nil=>
   cases bk with
   |cons kk bk=>simp only[cQ,fO];(refine bz fo ?_;simp(disch:=omega)only[ar,simprocAttr,fz,cC,bA,eM,ck,da,gq,I,av,ba,bs,b1,cQ];exact⟨_,rfl⟩)
   |nil=>simp only[dr,fO];(refine bz fo ?_;simp(disch:=omega)only[ar,simprocAttr,fz,cC,bA,eM,ck,da,gq,I,av,ba,bs,b1,dr];exact⟨_,rfl⟩)
def aMO(r c v:Int)(i:List UInt8)(bk:List Int)(t:List UInt8)(gR:∀H,cv 130 [.i (.v (.int .u8 v)),.i (.sl 1 (b1 bk) false),.i (.str i)] H (pF (oV v bk i))):
  gv 88 [uz ⟨4,r,c,v,i,bk,t⟩] (↑(DI ⟨4,r,c,v,i,bk,t⟩)):=by
 rw[yq];unfold DI;simp only[];unfold pF at gR;generalize oV v bk i=q at*;by_cases j:q.2=0;rotate_left
 ·simp only[j,fO];(refine bz fo ?_;simp(disch:=omega)only[ar,simprocAttr,fz,cC,bA,eM,ck,da,gR,j];exact⟨_,rfl⟩)
 simp only[j,decide_true,jJ];by_cases I:c<64
 ·simp only[I,fO];(refine bz fo ?_;simp(disch:=omega)only[ar,simprocAttr,fz,cC,bA,eM,ck,da,gR,j,I];exact⟨_,rfl⟩)
 by_cases av:126<c
 ·simp only[av,fO];(refine bz fo ?_;simp(disch:=omega)only[ar,simprocAttr,fz,cC,bA,eM,ck,da,gR,j,I,av];exact⟨_,rfl⟩)
 simp only[I,av,decide_false,xv,ra,jJ];by_cases qr:r=0;rotate_left
 ·simp only[qr,fO];(refine bz fo ?_;simp(disch:=omega)only[ar,simprocAttr,fz,cC,bA,eM,ck,da,gR,j,I,av,qr];exact⟨_,rfl⟩)
 subst qr;cases t with
 |cons t0 t=>simp only[cQ,fO];(refine bz fo ?_;simp(disch:=omega)only[ar,simprocAttr,fz,cC,bA,eM,ck,da,gR,j,I,av,cQ];exact⟨_,rfl⟩)
 |nil=>simp only[dr,fO];(refine bz fo ?_;simp(disch:=omega)only[ar,simprocAttr,fz,cC,bA,eM,ck,da,gR,j,I,av,dr];exact⟨_,rfl⟩)
def aMP(r c v:Int)(i:List UInt8)(bk:List Int)(t:List UInt8):
  gv 88 [uz ⟨5,r,c,v,i,bk,t⟩] (↑(GR ⟨5,r,c,v,i,bk,t⟩)):=by
 rw[yq];unfold GR;simp only[];by_cases j:256<t.length
 ·have gq:256<(t.length:Int):=R;simp only[j,fO];(refine bz fo ?_;simp(disch:=omega)only[ar,simprocAttr,fz,cC,bA,eM,ck,da,gq,j];exact⟨_,rfl⟩)
 have gq:¬256<(t.length:Int):=R;cases I:t.any (kx 32 255)with
 |true=>simp only[I,fO];(refine bz fo ?_;simp(disch:=omega)only[ar,simprocAttr,fz,cC,bA,eM,ck,da,j,gq,I];exact⟨_,rfl⟩)
 |false=>
 simp only[j,decide_false,ra,jJ];by_cases qr:r=0;rotate_left
 ·simp only[qr,fO];(refine bz fo ?_;simp(disch:=omega)only[ar,simprocAttr,fz,cC,bA,eM,ck,da,gq,I,qr];exact⟨_,rfl⟩)
 subst qr;by_cases RU:c=0;rotate_left
 ·simp only[RU,fO];(refine bz fo ?_;simp(disch:=omega)only[ar,simprocAttr,fz,cC,bA,eM,ck,da,gq,I,RU];exact⟨_,rfl⟩)
 subst RU;by_cases pO:v=0;rotate_left
 ·simp only[pO,fO];(refine bz fo ?_;simp(disch:=omega)only[ar,simprocAttr,fz,cC,bA,eM,ck,da,gq,I,pO];exact⟨_,rfl⟩)
 subst pO;cases i with
 |cons i0 i=>simp only[cQ,fO];(refine bz fo ?_;simp(disch:=omega)only[ar,simprocAttr,fz,cC,bA,eM,ck,da,gq,I,cQ];exact⟨_,rfl⟩)
 |nil=>
  cases bk with
  |cons kk bk=>simp only[cQ,fO];(refine bz fo ?_;simp(disch:=omega)only[ar,simprocAttr,fz,cC,bA,eM,ck,da,gq,I,b1,cQ];exact⟨_,rfl⟩)
  |nil=>simp only[dr,fO];(refine bz fo ?_;simp(disch:=omega)only[ar,simprocAttr,fz,cC,bA,eM,ck,da,gq,I,b1,dr];exact⟨_,rfl⟩)
def DL(e:dt):Prop:=(-2147483648≤e.r∧e.r≤2147483647)∧(0≤e.c∧e.c<256)∧(0≤e.v∧e.v<256)
def Lz(e:dt):Prop:=∀H,dd E (b3 E) 130 [.i (.v (.int .u8 e.v)),.i (.sl 1 (b1 e.bk) false),.i (.str e.i)] H=some (pF (oV e.v e.bk e.i),H)
def tj(e:dt):Int:=if e.k<1∨5<e.k then 9 else if pN e=true then 0 else 1
def aMQ(e:dt)(he:DL e)(ay:1≤e.k∧e.k≤5)(gR:e.k=4→Lz e):gv 88 [uz e] (↑(pN e)):=by
 obtain⟨k,r,c,v,i,bk,t⟩:=e;have:k=1∨k=2∨k=3∨k=4∨k=5:=by simp only at ay;omega
 rcases this with rfl|rfl|rfl|rfl|rfl
 ·exact aMk r he.1 c v i bk t
 ·exact aMM r c v i bk t
 ·exact aMN r c v i bk t
 ·exact aMO r c v i bk t (gR rfl)
 ·exact aMP r c v i bk t
def aMR(e:dt)(he:DL e)(ay:1≤e.k∧e.k≤5)(gR:e.k=4→Lz e)(H:aa):cv 88 [.agg [e.k,.i (.v (.int .i32 e.r)),.i (.v (.int .u8 e.c)),.i (.v (.int .u8 e.v)),.i (.str e.i),.i (.sl 1 (b1 e.bk) false),.i (.str e.t)]] H (↑(pN e)):=gY rfl rfl rfl (aMQ e he ay gR)
def aMS(e:dt)(he:DL e)(gR:e.k=4→Lz e):gv 50 [uz e] (↑(tj e)):=by
 rw[yq];unfold tj;by_cases j:e.k<1
 ·rw[if_pos (.inl j)];refine bz FM ?_;simp(disch:=omega)only[ar,simprocAttr,JZ,j];exact⟨_,rfl⟩
 by_cases I:5<e.k
 ·rw[if_pos (.inr I)];refine bz FM ?_;simp(disch:=omega)only[ar,simprocAttr,JZ,j,I];exact⟨_,rfl⟩
 rw[if_neg R];have fA:=λ H=>aMR e he R gR H
 cases ah:pN e with
 |true=>rw[if_pos rfl];rw[ah]at fA;refine bz FM ?_;simp(disch:=omega)only[ar,simprocAttr,JZ,j,I,fA];exact⟨_,rfl⟩
 |false=>rw[if_neg (by simp)];rw[ah]at fA;refine bz FM ?_;simp(disch:=omega)only[ar,simprocAttr,JZ,j,I,fA];exact⟨_,rfl⟩
def aMT(e:dt)(he:DL e)(gR:e.k=4→Lz e)(H:aa):cv 50 [.agg [e.k,.i (.v (.int .i32 e.r)),.i (.v (.int .u8 e.c)),.i (.v (.int .u8 e.v)),.i (.str e.i),.i (.sl 1 (b1 e.bk) false),.i (.str e.t)]] H (↑(tj e)):=gY rfl rfl rfl (aMS e he gR)
def aMU{e:dt}(h:tj e=0):e.k=1∨e.k=2∨e.k=3∨e.k=4∨e.k=5:=by
 unfold tj at h;split at h
 ·cases h
 ·omega
def ahf{p:Int}{l:List Int}{s:List UInt8}(h:(oV p l s).2=0):(p=0∨qf p=true)∧uj s=true∧l≠[-1]∧l.any my=false∧j8 l s=true∧(oV p l s).1=(if p=0 then[]else[hI p.toNat])++fmtG true l++s:=by
 unfold oV at h⊢;split at h
 ·cases h
 ·rename_i j;split at h
  ·cases h
  ·rename_i I;split at h
   ·cases h
   ·rename_i av;rw[if_neg j,if_neg I,if_neg av];refine⟨?_,?_,λ q=>j (.inr (.inr q)),by simpa using I,by simpa using av,rfl⟩
    ·by_cases q:p=0
     ·exact .inl q
     ·exact .inr (by
       cases bh:qf p with
       |true=>rfl
       |false=>exact absurd (.inl ⟨q,bh⟩) j)
    ·cases bp:uj s with
     |true=>rfl
     |false=>exact absurd (.inr (.inl bp)) j
def aMV{p:Int}{l:List Int}{s:List UInt8}(h:(oV p l s).2=0):l.length≤16∧s.length≤2∧(oV p l s).1.length≤400:=by
 obtain⟨_,_,_,_,bs,dq⟩:=ahf h;have aP:=Gy l true (yk bs);simp only[j8,cR,decide_eq_true_eq]at bs;refine⟨bs.1.1,bs.1.2,?_⟩;rw[dq];simp only[dp];have:(if p=0 then([]:List UInt8)else[hI p.toNat]).length≤1:=by split<;>simp
 omega
def RV{e:dt}(h:tj e=0):e.i.length≤2∧e.t.length≤256∧e.bk.length≤16∧(e.k=4→(oV e.v e.bk e.i).1.length≤400):=by
 unfold tj at h;split at h
 ·cases h
 rename_i ay;split at h
 ·rename_i ah;unfold pN at ah;have z:∀{α:Type} {l:List α},l.isEmpty=true→l.length=0:=λ{α l} h=>by cases l with|nil=>rfl|cons=>cases h
  repeat' split at ah
  ·simp only[AN,cR]at ah;have:=z ah.2.1.1.2;have:=z ah.2.1.2;have:=z ah.2.2
   refine⟨R,R,R,λ h=>R⟩
  ·simp only[GQ,cR]at ah;have:=z ah.2.1.1.2;have:=z ah.2.1.2;have:=z ah.2.2
   refine⟨R,R,R,λ h=>R⟩
  ·simp only[DH,cR,qW,decide_eq_false_iff_not]at ah;have:=z ah.2.1.2;have:=z ah.2.2
   refine⟨R,R,R,λ h=>R⟩
  ·simp only[DI,cR,decide_eq_true_eq]at ah;have:=z ah.2.2;have:=aMV ah.1.1;refine⟨R,R,R,λ h=>R⟩
  ·simp only[GR,cR,qW,decide_eq_false_iff_not]at ah;have:=z ah.2.1.2;have:=z ah.2.2
   refine⟨R,R,R,λ h=>R⟩
  ·cases ah
 ·cases h
def RW:∀(l:List UInt8) (b:UInt8) (i:Nat) (d:io),gw (l++[b]) i d=fp (gw l i d) ((i+l.length:Nat)) b.toNat
 |[],b,i,d=>by simp[gw]
 |c::l,b,i,d=>by have:=RW l b (i+1) (fp d i c.toNat);simp only[xH,gw,this,cQ];rw[show i+1+l.length=i+(l.length+1)by omega]
def aMW:∀n:Nat,n<256→¬(eo n).dV=0→128≤n:=by decide+kernel
def AQ(t:List UInt8)(i:Nat)(d:io):Prop:=d.s.dV=0∨(0≤d.bK∧d.bK≤i∧0<d.s.dV∧gw ((t.take i).drop d.bK.toNat) 0 ⟨kY,[],0⟩=⟨d.s,[],0⟩)
def aMX{t:List UInt8}{i:Nat}(ax:i<t.length){d:io}(aW:0≤d.s.dV)(h:AQ t i d):0≤(fp d i t[i].toNat).s.dV∧AQ t (i+1) (fp d i t[i].toNat):=by
 have aj:=aeQ t[i].toNat t[i].toNat_lt;have pg:=aMW t[i].toNat t[i].toNat_lt;have rp:t.take (i+1)=t.take i++[t[i]]:=by rw[KX ax]
 by_cases ag:0<d.s.dV∧d.s.bS≤t[i].toNat∧(t[i].toNat:Int)≤d.s.ax
 ·have gU:fp d i t[i].toNat=⟨⟨d.s.v*64+(t[i].toNat:Int)%64,d.s.dV-1,128,191⟩,if d.s.dV-1=0 then d.out++[d.s.v*64+(t[i].toNat:Int)%64]else d.out,d.bK⟩:=by rw[fp,if_pos ag]
  rw[gU];refine⟨by simp only;omega,?_⟩;unfold AQ at*;simp only;by_cases hm:d.s.dV-1=0
  ·exact .inl hm
  ·right;rcases h with h|⟨g1,g2,g3,g4⟩
   ·omega
   ·refine⟨g1,R,R,?_⟩;rw[rp,List.drop_append_of_le_length (by simp;omega),RW,g4,fp,if_pos ag,if_neg hm]
 ·have gU:(fp d i t[i].toNat).s=eo t[i].toNat∧(fp d i t[i].toNat).bK=i:=by rw[fp,if_neg ag];exact⟨rfl,rfl⟩
  unfold AQ;rw[gU.1,gU.2];refine⟨aj.1,?_⟩;by_cases hm:(eo t[i].toNat).dV=0
  ·exact .inl hm
  ·right;refine⟨R,R,R,?_⟩;have aRf:=pg hm;rw[rp,nV,List.drop_append_of_le_length (by simp;omega),List.drop_of_length_le (by simp;omega),gJ];have z:(⟨kY,[],0⟩:io).s.dV=0:=rfl;have bY:¬(t[i].toNat:Int)<128:=R;simp only[gw,fp,z,Qs,false_and,if_false,bY,hm];rfl
theorem ahg:∀(t:List UInt8) (i:Nat) (d:io),i≤t.length→0≤d.s.dV→AQ t i d→0≤(gw (t.drop i) i d).s.dV∧AQ t t.length (gw (t.drop i) i d):=by
 intro t i d ax aW h;by_cases be:i<t.length
 ·rw[jq be,gw];obtain⟨xk,bG⟩:=aMX be aW h;exact ahg t (i+1) _ be xk bG
 ·obtain rfl:i=t.length:=R;rw[mR,gw];exact⟨aW,h⟩
termination_by t i=>t.length-i
def aMY(t:List UInt8):ht (j_ t)=[]∧j_ (j_ t)=j_ t:=by
 obtain⟨aW,h⟩:=ahg t 0 ⟨kY,[],0⟩ (jp _) (F_ _) (.inl rfl);rw[il]at aW h;change 0≤(j9 t).s.dV at aW;change AQ t t.length (j9 t)at h;have ah:j_ t=if(j9 t).s.dV=0 then[]else t.drop (j9 t).bK.toNat:=rfl
 rcases h with h|⟨g1,g2,g3,g4⟩
 ·rw[if_pos h]at ah;rw[ah];exact⟨rfl,rfl⟩
 ·rw[if_neg R]at ah;rw[List.take_length]at g4;have aM:j9 (j_ t)=⟨(j9 t).s,[],0⟩:=by rw[ah];exact g4
  refine⟨by unfold ht;rw[aM],?_⟩;have iC:j_ (j_ t)=if(j9 (j_ t)).s.dV=0 then[]else(j_ t).drop (j9 (j_ t)).bK.toNat:=rfl
  rw[iC,aM];simp only;rw[if_neg R];simp
def aMZ(b4:List UInt8):gD ⟨0,j_ b4,[]⟩=true:=by obtain⟨j,I⟩:=aMY b4;simp[gD,j,I]
def qq(k:Int)(h:0≤k∧k≤3):gD ⟨k,[],[]⟩=true:=by have:k=0∨k=1∨k=2∨k=3:=R;rcases this with rfl|rfl|rfl|rfl<;>simp[gD,ht,j_,j9,gw,kY]
def aM0{p:db}(h:gD p=true)(aW:p.bK=0):p.b0=[]:=by unfold gD at h;rw[if_pos aW]at h;simp only[cR,beq_iff_eq]at h;exact h.1.1
def ahh{p:db}(aW:p.bK=0)(aj:p.b0=[])(b:UInt8):gD (jM p b).1=true:=by
 unfold jM;rw[aW,aj]
 repeat' split
 ·exact aMZ _
 ·exact qq 1 R
 ·exact qq 0 R
 ·exact qq 0 R
def ahi{p:db}(au:gD p=true)(aW:p.bK≠0){b:UInt8}{q:db×List dt}(bm:lq p b=some q):gD q.1=true:=by
 unfold lq at bm
 repeat' split at bm
 all_goals first|cases bm|skip
 all_goals first|exact au|exact qq 1 R|exact qq 0 R|exact ahh rfl rfl b
def LA{p:db}{b:UInt8}(h:lq p b=none):32≤(b.toNat:Int)∧(b.toNat:Int)<127:=by
 unfold lq at h
 repeat' split at h
 all_goals first|(cases h;done)|omega
def aM1{P:UInt8→Bool}{l:List UInt8}{b:UInt8}(h:l.any P=false)(aj:P b=false):(l++[b]).any P=false:=by simp[List.any_append,h,aj]
def aM2{bS ax:Int}{b:UInt8}(j:bS≤b.toNat)(I:(b.toNat:Int)≤ax):kx bS ax b=false:=by simp[kx];omega
def oY(b0:List UInt8)(m:Nat)(ax:Int):Bool:=decide (b0.length≤m) &&!b0.any (kx 32 ax)
def RX{b0:List UInt8}{m:Nat}{ax:Int}(h:oY b0 m ax=true){b:UInt8}(j:32≤(b.toNat:Int))(I:(b.toNat:Int)≤ax):oY (if(b0.length:Int)<m then b0++[b]else b0) m ax=true:=by
 split
 ·rename_i al;unfold oY at*;simp only[cR,decide_eq_true_eq,qW]at*;refine⟨by simp;omega,aM1 h.2 (aM2 j I)⟩
 ·exact h
def RY{b4 b0:List UInt8}:gD ⟨1,b4,b0⟩=((b4==[]) &&oY b0 3 47):=by unfold gD oY;cases b4<;>simp
def ahj{b4 b0:List UInt8}:gD ⟨2,b4,b0⟩=((b4==[]) &&oY b0 257 63):=by unfold gD oY;cases b4<;>simp
def LB{b4 b0:List UInt8}:gD ⟨3,b4,b0⟩=((b4==[]) &&oY b0 256 255):=by unfold gD oY;cases b4<;>simp
def ahk{b4 b0:List UInt8}:gD ⟨4,b4,b0⟩=((b4==[]) &&oY b0 256 255):=by unfold gD oY;cases b4<;>simp
def ahl{p:db}(h:gD p=true):p.bK=0∨p.bK=1∨p.bK=2∨p.bK=3∨p.bK=4:=by
 unfold gD at h;split at h
 ·exact .inl (by assumption)
 ·split at h
  ·repeat' split at h
   all_goals first|(cases h;done)|omega
  ·cases h
def ahm{p:db}(au:gD p=true)(aR:p.bK=1)(b:UInt8):gD (kw p b).1=true:=by
 unfold kw;cases bm:lq p b with
 |some q=>exact ahi au R bm
 |none=>
  have aj:=LA bm;simp only;split
  ·rename_i ahn;obtain⟨bK,b4,b0⟩:=p;dsimp only at aR;subst aR;rw[RY]at au;simp only[cR]at au;simp only[s_];rw[RY];simp only[cR];exact⟨au.1,RX au.2 aj.1 ahn⟩
  ·split
   ·exact qq 2 R
   ·split
    ·exact qq 3 R
    ·exact qq 0 R
def aho{p:db}(au:gD p=true)(b:UInt8):gD (h9 p b).1=true:=by
 have gU:=ahl au;unfold h9;split
 ·exact ahh (by assumption) (aM0 au (by assumption)) b
 ·rename_i aW;split
  ·split
   ·exact qq 0 R
   ·exact ahm (qq 1 R) rfl b
  ·rename_i ba;split
   ·exact ahm au (by assumption) b
   ·rename_i j;split
    ·rename_i I;unfold lr;cases bm:lq p b with
     |some q=>exact ahi au aW bm
     |none=>
      have aj:=LA bm;simp only;split
      ·rename_i aM3;obtain⟨bK,b4,b0⟩:=p;dsimp only at I;subst I;rw[ahj]at au;simp only[cR]at au;simp only[s_];rw[ahj];simp only[cR];exact⟨au.1,RX au.2 aj.1 aM3⟩
      ·exact qq 0 R
    ·rename_i I;have av:p.bK=3:=R;obtain⟨bK,b4,b0⟩:=p;dsimp only at av;subst av;unfold ls;split
     ·exact qq 0 R
     ·split
      ·rw[ahk];rw[LB]at au;exact au
      ·split
       ·exact qq 0 R
       ·split
        ·rename_i C0;rw[LB]at au;simp only[cR]at au;simp only[s_];rw[LB];simp only[cR];have:=b.toNat_lt;exact⟨au.1,RX au.2 C0 R⟩
        ·exact au
def RZ:∀(s:List UInt8) {p:db},gD p=true→gD (iK s p).1=true
 |[],p,h=>h
 |b::r,p,h=>RZ r (aho h b)
def aM4(p:db):gD (uk p)=true:=by
 unfold uk;split
 ·assumption
 ·exact qq 0 R
def LC{p:db}(h:gD p=true):uk p=p:=by unfold uk;rw[if_pos h]
def aM5(p:db)(s:List UInt8):uk (jd p s).1=(jd p s).1:=LC (RZ s (aM4 p))
def ahp:∀(a b:List UInt8) (p:db),iK (a++b) p=((iK b (iK a p).1).1,(iK a p).2++(iK b (iK a p).1).2)
 |[],b,p=>by simp[iK]
 |x::a,b,p=>by have a8:=ahp a b (h9 p x).1;simp only[xH,iK,a8,dU]
def aM6(p:db)(a b:List UInt8):jd p (a++b)=((jd (jd p a).1 b).1,(jd p a).2++(jd (jd p a).1 b).2):=by have h:=aM5 p a;simp only[jd]at h⊢;rw[h,ahp]
def hY(b:UInt8):Bool:=decide (48≤b.toNat) &&decide (b.toNat≤57)||b.toNat==59
def aM7(l:List Int)(n:Int)(b:UInt8):hY b=(n1 l n b.toNat).isSome:=by
 have h:=b.toNat_lt;unfold n1 hY;by_cases j:b.toNat=59
 ·simp[j]
 ·rw[if_neg R];by_cases I:b.toNat<48
  ·rw[if_pos R];simp[j];omega
  ·rw[if_neg R];by_cases av:57<b.toNat
   ·rw[if_pos R];simp[j];omega
   ·rw[if_neg R];simp;omega
def R0:∀(t:List UInt8) (l:List Int) (n:Int),gN t l n=((gN (t.takeWhile hY) l n).1,(gN (t.takeWhile hY) l n).2.1,t.dropWhile hY)∧(gN (t.takeWhile hY) l n).2.2=[]
 |[],l,n=>by simp[gN]
 |b::r,l,n=>by
  have au:=aM7 l n b;cases h:n1 l n b.toNat with
  |none=>rw[h]at au;simp only[Option.isSome_none]at au;simp[gN,h,au]
  |some p=>rw[h]at au;simp only[OS]at au;have a8:=R0 r p.1 p.2;simp only[gN,h,au,ahq,List.dropWhile_cons_of_pos];exact a8
def ahr(P:UInt8→Bool):∀t:List UInt8,t.take (t.takeWhile P).length=t.takeWhile P∧t.drop (t.takeWhile P).length=t.dropWhile P
 |[]=>by simp
 |b::r=>by
  have a8:=ahr P r;by_cases h:P b=true
  ·simp[ahq h,List.dropWhile_cons_of_pos h,a8]
  ·simp[List.takeWhile_cons_of_neg h,List.dropWhile_cons_of_neg h]
def ahs(P:UInt8→Bool):∀t:List UInt8,(t.takeWhile P).all P=true
 |[]=>rfl
 |b::r=>by
  by_cases h:P b=true
  ·rw[ahq h,FF,h,ahs P r];rfl
  ·rw[List.takeWhile_cons_of_neg h];rfl
def aM8{t:List UInt8}{l:List Int}{n:Int}(h:gN (t.takeWhile hY) [] (-1)=(l,n,[])):
  xY t=(if t.takeWhile hY=[]then[]else l++[n],t.dropWhile hY):=by
 obtain⟨j,_⟩:=R0 t [] (-1);rw[h]at j;obtain⟨I,av⟩:=ahr hY t;have al:t.length=(t.takeWhile hY).length+(t.dropWhile hY).length:=by rw[←dp,List.takeWhile_append_dropWhile]
 unfold xY;rw[j];simp only;by_cases au:t.takeWhile hY=[]
 ·rw[if_pos au,if_neg (by rw[al,au];simp)];rw[au]at h;simp only[gN,bw]at h;rw[←h.1]
 ·rw[if_neg au,if_pos (by rw[al];have:=M2.2 au;omega)]
def LD(n:Int)(d:List UInt8):Prop:=(n≤9999→(jL n).length≤d.length∧((jL n).length=d.length→jL n=d))∧(n=-1∧d=[]∨0≤n∧d≠[])
def aht:LD (-1) []:=⟨λ _=>⟨by simp[jL],λ _=>rfl⟩,.inl ⟨rfl,rfl⟩⟩
def aM9{n:Int}{d:List UInt8}(h:LD n d){b:UInt8}(aj:48≤b.toNat∧b.toNat≤57):LD (min (10*max n 0+((b.toNat:Int)-48)) 10000) (d++[b]):=by
 obtain⟨j,I⟩:=h;refine⟨λ gp=>?_,.inr ⟨R,by simp⟩⟩;generalize hm:min (10*max n 0+((b.toNat:Int)-48)) 10000=m at*;have e:m=10*max n 0+((b.toNat:Int)-48):=R;have q3:0≤m:=R;have aM_:n≤9999:=R;obtain⟨g1,g2⟩:=j aM_;rw[jL,if_pos q3];by_cases rT:m.toNat<10
 ·rw[nq,dif_pos rT];refine⟨by simp,λ al=>?_⟩;have aM:d=[]:=by simp only[dp,cU]at al;exact pX.1 R
  subst aM;have aE:n=-1:=by
   rcases I with h|h
   ·exact h.1
   ·exact absurd rfl h.2
  have:48+m.toNat=b.toNat:=R;rw[this];simp
 ·rw[nq,dif_neg rT];have hp:0≤n:=R;have ao:m.toNat/10=n.toNat:=R;have aH:48+m.toNat%10=b.toNat:=R;have bN:nq (m.toNat/10)=jL n:=by rw[ao,jL,if_pos hp]
  rw[aH,bN];refine⟨by simp only[dp,cU];omega,λ al=>?_⟩;rw[g2 (by simp only[dp,cU]at al;omega)];simp
def aM'(oi:List Int)(q:List Int)(v:List UInt8):Prop:=∃x xs,q=oi++x::xs∧(∀y∈x::xs,-1≤y)∧(x::xs=[-1]→v=[])∧
 ((∀y∈x::xs,y≤9999)→(fmtG true (x::xs)).length≤v.length∧((fmtG true (x::xs)).length=v.length→fmtG true (x::xs)=v))
def R1:∀(w:List UInt8),w.all hY=true→∀(oi:List Int) (n:Int) (d:List UInt8),LD n d→aM' oi ((gN w oi n).1++[(gN w oi n).2.1]) (d++w)
 |[],_,oi,n,d,h=>by
  refine⟨n,[],by simp[gN],?_,?_,?_⟩
  ·intro y aY;simp only[AJ]at aY;subst aY;rcases h.2 with h|h<;>omega
  ·intro e;simp only[Bu,and_true]at e;rcases h.2 with h|h
   ·simp[h.2]
   ·omega
  ·intro gp;have:=h.1 (gp n (by simp));simpa[fmtG]using this
 |b::r,aA,oi,n,d,h=>by
  simp only[FF,cR]at aA;obtain⟨aj,aA⟩:=aA;by_cases ahu:(b.toNat:Int)=59
  ·have gU:n1 oi n b.toNat=some (oi++[n],-1):=by rw[n1,if_pos ahu]
   obtain⟨x,xs,ao,aH,bN,c'⟩:=R1 r aA (oi++[n]) (-1) [] aht;simp only[gN,gU];refine⟨n,x::xs,by rw[ao];simp,?_,λ e=>by simp at e,?_⟩
   ·intro y aY;rcases ng.1 aY with rfl|aY
    ·rcases h.2 with h|h<;>omega
    ·exact aH y aY
   ·intro gp;obtain⟨f1,f2⟩:=c' λ y aY=>gp y (xe _ aY)
    obtain⟨g1,g2⟩:=h.1 (gp n (Lf ..));have aNa:b=59:=UInt8.toNat_inj.1 (by have:(59:UInt8).toNat=59:=rfl;omega);have GZ:fmtG true (n::x::xs)=jL n++59::fmtG true (x::xs):=by simp[fmtG]
    rw[GZ,aNa];simp only[gJ]at f1 f2;refine⟨by simp only[dp,cQ];omega,λ al=>?_⟩;simp only[dp,cQ]at al;rw[g2 R,f2 R]
  ·have ah:48≤b.toNat∧b.toNat≤57:=by simp only[hY,w2,cR,decide_eq_true_eq,beq_iff_eq]at aj;omega
   have gU:n1 oi n b.toNat=some (oi,min (10*max n 0+(b.toNat-48)) 10000):=by rw[n1,if_neg ahu,if_neg R,if_neg R]
   have a8:=R1 r aA oi _ (d++[b]) (aM9 h ah);simp only[gN,gU];rwa [dU]at a8
def aNb{l:List Int}{s:List UInt8}(h:j8 l s=true):∀n∈l,n≤9999:=by intro n aE;simp only[j8,cR,qW]at h;have:=Qk.1 h.2 n aE;simpa[oO]using this
def aNc{s:List UInt8}:∃(pre:List UInt8),s=pre++(mw s).2∧pre=(if(mw s).1=0 then[]else[hI (mw s).1.toNat])∧(0≤(mw s).1∧(mw s).1<256)∧((mw s).1=0∨qf (mw s).1=true):=by
 cases s with
 |nil=>exact⟨[],rfl,rfl,by simp[mw],.inl rfl⟩
 |cons b r=>
  have aj:=b.toNat_lt;by_cases h:qf b.toNat=true
  ·have aW:(b.toNat:Int)≠0:=by intro e;rw[e]at h;revert h;decide
   refine⟨[b],?_,?_,?_,?_⟩<;>simp only[mw,h,if_true]
   ·rfl
   ·rw[if_neg aW];simp
   ·omega
   ·exact .inr trivial
  ·refine⟨[],?_,?_,?_,?_⟩<;>simp only[mw,h]
   ·rfl
   ·rfl
   ·simp
   ·exact .inl rfl
def aNd{s:List UInt8}{p:Int}{l:List Int}{i:List UInt8}(h:vR s=(p,l,i,0)):(0≤p∧p<256)∧∃t,oV p l i=(t,0)∧t.length≤s.length∧(t.length=s.length→t=s):=by
 obtain⟨pre,ao,aH,pC,au⟩:=aNc (s:=s);unfold vR at h;split at h
 ·simp at h
 rename_i b_;split at h
 ·simp at h
 rename_i ca;simp only[bw,and_true]at h;obtain⟨rfl,rfl,rfl⟩:=h;simp only[Bool.not_eq_false]at b_ ca;refine⟨pC,?_⟩;generalize mw s=mk at*;obtain⟨p,t⟩:=mk;dsimp only at*;obtain⟨hs,a2⟩:=R0 t [] (-1);have aNe:=aM8 (t:=t) (l:=(gN (t.takeWhile hY) [] (-1)).1) (n:=(gN (t.takeWhile hY) [] (-1)).2.1) (by rw[←a2])
 have ahv:t.takeWhile hY++t.dropWhile hY=t:=List.takeWhile_append_dropWhile;have aNf:=R1 (t.takeWhile hY) (ahs hY t) [] (-1) [] aht;rw[aNe]at b_ ca⊢;dsimp only at*;generalize t.takeWhile hY=w at*;generalize t.dropWhile hY=q at*;have key:∀fu:List Int,fu≠[-1]→(∀y∈fu,-1≤y)→j8 fu q=true→((fmtG true fu).length≤w.length∧((fmtG true fu).length=w.length→fmtG true fu=w))→
   ∃jo,oV p fu q=(jo,0)∧jo.length≤s.length∧(jo.length=s.length→jo=s):=by
  intro fu bG bC cE eU;refine⟨pre++fmtG true fu++q,?_,?_,?_⟩
  ·unfold oV;rw[if_neg,if_neg,if_neg,←aH]
   ·simp[cE]
   ·rw[F9];exact Qk.2 λ y aY=>by have:=bC y aY;simp[my];omega
   ·rintro(⟨j,I⟩|j|j)
    ·rcases au with h|h
     ·exact j h
     ·rw[I]at h;cases h
    ·rw[b_]at j;cases j
    ·exact bG j
  ·rw[ao,←ahv];simp only[dp];omega
  ·intro al;rw[ao,←ahv]at al⊢;simp only[dp]at al;rw[eU.2 R,dU]
 by_cases hw:w=[]
 ·rw[if_pos hw]at ca⊢;exact key [] (by simp) (by simp) ca (by subst hw;simp[fmtG])
 ·rw[if_neg hw]at ca⊢;obtain⟨x,xs,f1,f2,f3,f4⟩:=aNf;rw[gJ]at f1 f3 f4;rw[f1]at ca⊢;exact key _ (λ e=>hw (f3 e)) f2 ca (f4 (aNb ca))
def DM(s:nZ):Prop:=s.dV=0∨(128≤s.bS∧s.ax≤191∧(s.dV=1∧2≤s.v∧s.v≤17407∧¬(864≤s.v∧s.v≤895)∨
 s.dV=2∧0≤s.v∧s.v≤271∧(s.v=0→160≤s.bS)∧(s.v=13→s.ax≤159)∨s.dV=3∧0≤s.v∧s.v≤4∧(s.v=0→144≤s.bS)∧(s.v=4→s.ax≤143)))
def aNg:∀n:Nat,n<256→((eo n).dV=0∨(128≤(eo n).bS∧(eo n).ax≤191∧((eo n).dV=1∧2≤(eo n).v∧(eo n).v≤17407∧¬(864≤(eo n).v∧(eo n).v≤895)∨
 (eo n).dV=2∧0≤(eo n).v∧(eo n).v≤271∧((eo n).v=0→160≤(eo n).bS)∧((eo n).v=13→(eo n).ax≤159)∨(eo n).dV=3∧0≤(eo n).v∧(eo n).v≤4∧((eo n).v=0→144≤(eo n).bS)∧((eo n).v=4→(eo n).ax≤143)))):=by decide+kernel
def aNh{b:Int}(aW:0≤b)(j:b≤255):DM (eo b):=by obtain⟨n,rfl⟩:=jb aW;exact aNg n R
def ahw{r:Int}(aW:0≤r)(j:r≤1114111)(I:¬(55296≤r∧r≤57343)):gE r=true:=by simp[gE,aW,j];omega
def ahx{d:io}(h:DM d.s)(i:Int){b:Int}(aW:0≤b)(j:b≤255):DM (fp d i b).s∧∃l,(fp d i b).out=d.out++l∧∀c∈l,gE c=true∧(c<128→c=b):=by
 unfold fp;split
 ·rename_i ag;obtain⟨b_,ca,c3⟩:=ag;unfold DM at h⊢;refine⟨by simp only;omega,?_⟩;simp only;split
  ·refine⟨[d.s.v*64+b%64],rfl,?_⟩;intro c ag;rw[AJ]at ag;subst ag;exact⟨ahw R R R,R⟩
  ·exact⟨[],by simp,λ c ag=>by cases ag⟩
 ·refine⟨aNh aW j,?_⟩;simp only;have ahy:gE 65533=true:=by decide
  have key:∃l,(if 0<d.s.dV then d.out++[65533]else d.out)=d.out++l∧∀c∈l,gE c=true∧(c<128→c=b):=by
   split
   ·exact⟨[65533],rfl,λ c ag=>by rw[AJ]at ag;subst ag;exact⟨ahy,R⟩⟩
   ·exact⟨[],by simp,λ c ag=>by cases ag⟩
  obtain⟨l,al,hK⟩:=key;rw[al];split
  ·refine⟨l++[b],by simp,?_⟩;intro c ag;rw[fS,AJ]at ag;rcases ag with ag|rfl
   ·exact hK c ag
   ·exact⟨ahw aW R R,λ _=>rfl⟩
  ·split
   ·refine⟨l++[65533],by simp,?_⟩;intro c ag;rw[fS,AJ]at ag;rcases ag with ag|rfl
    ·exact hK c ag
    ·exact⟨ahy,R⟩
   ·exact⟨l,rfl,hK⟩
def ahz:∀(l:List UInt8) (i:Nat) (d:io),DM d.s→DM (gw l i d).s
 |[],_,_,h=>h
 |b::l,i,d,h=>by have:=b.toNat_lt;exact ahz l (i+1) _ (ahx h i R R).1
def aNi{b4:List UInt8}(h:ht b4=[])(b:UInt8):∀c∈ht (b4++[b]),gE c=true∧(c<128→c=b.toNat):=by
 have aj:=b.toNat_lt;have aM:j9 (b4++[b])=fp (j9 b4) ((0+b4.length:Nat)) b.toNat:=RW b4 b 0 _;obtain⟨_,l,al,hK⟩:=ahx (ahz b4 0 ⟨kY,[],0⟩ (.inl rfl)) ((0+b4.length:Nat)) (b:=b.toNat) R R;have b9:ht (b4++[b])=l:=by unfold ht;rw[aM];refine al.trans ?_;have:(gw b4 0 ⟨kY,[],0⟩).out=[]:=h;rw[this,gJ]
 rw[b9];exact hK
def tk(e:dt):Prop:=DL e∧tj e=0
def oZ(l:List dt):Prop:=∀e∈l,tk e
def rz:oZ []:=λ e h=>by cases h
def AR{e:dt}(h:tk e):oZ [e]:=λ x ak=>by rw[AJ.1 ak];exact h
def ahA{a b:List dt}(h:oZ a)(k:oZ b):oZ (a++b):=λ e he=>by
 rcases fS.1 he with j|j
 ·exact h e j
 ·exact k e j
def G0{e:dt}(h:DL e)(ay:1≤e.k∧e.k≤5)(ah:pN e=true):tk e:=⟨h,by unfold tj;rw[if_neg R,if_pos ah]⟩
def ahB{c:Int}(aP:gE c=true)(j:32≤c)(I:c<127∨159<c):tk (rh c):=by
 have aj:0≤c∧c≤1114111:=by simp[gE]at aP;omega
 refine G0 ⟨⟨by simp only[rh];omega,by simp only[rh];omega⟩,by simp[rh],by simp[rh]⟩ (by simp[rh]) ?_;have ao:¬c<32:=R;rcases I with I|I
 ·have aH:¬127≤c:=R;simp only[pN,rh,AN,if_true,aP,ao,aH,decide_false,decide_true,lo];rfl
 ·have aH:¬c≤159:=R;simp only[pN,rh,AN,if_true,aP,ao,aH,decide_false,decide_true,xI];rfl
def ahC{b:UInt8}(j:(b.toNat:Int)<32)(I:¬(b.toNat:Int)=24)(av:¬(b.toNat:Int)=26)(ba:¬(b.toNat:Int)=27):tk (xZ b):=by refine G0 ⟨by simp[xZ],by simp only[xZ];omega,by simp[xZ]⟩ (by simp[xZ]) ?_;have ao:¬32≤(b.toNat:Int):=R;simp only[pN,xZ,GQ,Gk,if_false,if_true,ao,I,av,ba,decide_false,decide_true];rfl
def R2(b4:List UInt8):oZ (n2 b4):=by
 unfold n2;split
 ·exact rz
 ·exact AR (ahB (by decide) R R)
def ahD{p:db}(h:ht p.b4=[])(b:UInt8):oZ (jM p b).2:=by
 unfold jM;split
 ·rename_i ag;intro e he;unfold jc at he;obtain⟨c,ff,rfl⟩:=Fa.1 he;obtain⟨j,I⟩:=Nk.1 ff;obtain⟨av,ba⟩:=aNi h b c j;simp only[vU,w2,decide_eq_true_eq]at I;have bs:0≤c:=by simp[gE]at av;omega
  exact ahB av R R
 ·split
  ·exact R2 _
  ·split
   ·exact R2 _
   ·exact ahA (R2 _) (AR (ahC R R R R))
def ahE{p:db}{b:UInt8}{q:db×List dt}(bm:lq p b=some q):oZ q.2:=by
 unfold lq at bm
 repeat' split at bm
 all_goals first|cases bm|skip
 ·exact rz
 ·exact rz
 ·exact AR (ahC R R R R)
 ·exact rz
 ·exact ahD rfl b
def ahF{b0:List UInt8}{m:Nat}{ax:Int}(h:oY b0 m ax=true):b0.length≤m∧b0.any (kx 32 ax)=false:=by simpa[oY]using h
def ahG{p:db}(au:oY p.b0 3 47=true)(b:UInt8):oZ (kw p b).2:=by
 unfold kw;cases bm:lq p b with
 |some q=>exact ahE bm
 |none=>
  have aj:=LA bm;have ahH:=ahF au;simp only;split
  ·exact rz
  ·rename_i ahn;split
   ·exact rz
   ·rename_i ahI;split
    ·exact rz
    ·rename_i ahJ;simp only;split
     ·rename_i al;refine AR (G0 ⟨by simp[Ae],by simp only[Ae];omega,by simp[Ae]⟩ (by simp[Ae]) ?_);have ao:¬3≤p.b0.length:=R;have aH:¬(b.toNat:Int)<48:=R;have bN:¬126<(b.toNat:Int):=R;cases e9:p.b0 with
      |nil=>
       rw[e9]at ahI ahJ;have g1:¬(b.toNat:Int)=91:=λ h=>ahI ⟨rfl,h⟩
       have g2:¬(b.toNat:Int)=93:=λ h=>ahJ ⟨rfl,h⟩
       simp only[pN,Ae,DH,Gk,if_true,if_false,aH,bN,g1,g2,decide_false,decide_true];rfl
      |cons x r=>rw[e9]at ao ahH;simp only[pN,Ae,DH,Gk,if_true,if_false,ahH.2,ao,aH,bN,decide_false,decide_true];rfl
     ·exact rz
def aNj{p:db}(b:UInt8):oZ (lr p b).2:=by
 unfold lr;cases bm:lq p b with
 |some q=>exact ahE bm
 |none=>
  have aj:=LA bm;simp only;split
  ·exact rz
  ·simp only;split
   ·exact rz
   ·split
    ·rename_i aW;obtain⟨pv,l,i,e,ak⟩:∃pv l i e,vR p.b0=(pv,l,i,e):=⟨_,_,_,_,rfl⟩;rw[ak]at aW⊢;simp only at aW;subst aW;obtain⟨ah,t,bp,_⟩:=aNd ak;refine AR (G0 ⟨by simp[CY],by simp only[CY];omega,by simp only[CY];omega⟩ (by simp[CY]) ?_);have aH:¬(b.toNat:Int)<64:=R;have bN:¬126<(b.toNat:Int):=R;simp only[pN,CY,DI,Gk,if_true,if_false,bp,aH,bN,decide_false,decide_true];rfl
    ·exact rz
def ahK{b0:List UInt8}(h:oY b0 256 255=true):tk (x0 b0):=by obtain⟨j,I⟩:=ahF h;refine G0 ⟨by simp[x0],by simp[x0],by simp[x0]⟩ (by simp[x0]) ?_;have ao:¬256<b0.length:=R;simp only[pN,x0,GR,Gk,if_true,if_false,I,ao,decide_false,decide_true];rfl
def aNk{p:db}(au:oY p.b0 256 255=true)(b:UInt8):oZ (ls p b).2:=by
 unfold ls;split
 ·exact AR (ahK au)
 ·repeat' split
  all_goals exact rz
def aNl{p:db}(au:gD p=true)(b:UInt8):oZ (h9 p b).2:=by
 have gU:=ahl au;unfold h9;split
 ·rename_i aW;unfold gD at au;rw[if_pos aW]at au;simp only[cR,beq_iff_eq,decide_eq_true_eq]at au;exact ahD (pX.1 au.1.2) b
 ·obtain⟨bK,b4,b0⟩:=p;dsimp only at gU⊢;rename_i aW;split
  ·subst bK;rw[ahk,cR]at au;split
   ·exact AR (ahK au.2)
   ·exact ahG (by decide) b
  ·split
   ·subst bK;rw[RY,cR]at au;exact ahG au.2 b
   ·split
    ·exact aNj b
    ·obtain rfl:bK=3:=by simp only at aW;omega
     rw[LB,cR]at au;exact aNk au.2 b
def ahL:∀(s:List UInt8) {p:db},gD p=true→oZ (iK s p).2
 |[],p,h=>rz
 |b::r,p,h=>ahA (aNl h b) (ahL r (aho h b))
def aNm(e:dt)(h:tk e)(H:aa):cv 50 [.agg [e.k,.i (.v (.int .i32 e.r)),.i (.v (.int .u8 (e.c))),.i (.v (.int .u8 (e.v))),.i (.str e.i),.i (.sl 1 (b1 e.bk) false),.i (.str e.t)]] H (↑(0:Int)):=by obtain⟨j,_,av,_⟩:=RV h.2;have:=aMT e h.1 (λ _ H=>aJ' e.v h.1.2.2 e.bk e.i R R H) H;rw[h.2]at this;exact this
def aNn:∀n,n<32→gE (GC.getD n 0)=true:=by decide
def ahM{m:k1}{r:Int}(h:gE r=true):gE (mapM m r)=true:=by
 unfold mapM;split
 ·exact h
 ·exact aNn _ R
def aNo{r:Int}(h:gE r=true):-2147483648≤r∧r≤2147483647:=by have:=C2.1 h;omega
def mC(m:M)(e:dt):M:=
 if e.k=1 then Dw m (mapM m.md e.r)
 else if e.k=2 then Dy m e.c
 else if e.k=3 then DE m e.i e.c
 else if e.k=4 then DK m e.i e.v e.bk e.c
 else if GY e.t=true then{m with eK:=uB (e.t.drop 2)}else m
def ahN{e:dt}(h:tk e)(ay:e.k=1):gE e.r=true:=by
 have:=h.2;unfold tj at this;rw[if_neg R]at this;split at this
 ·rename_i ah;unfold pN AN at ah;rw[if_pos ay]at ah;simp only[cR]at ah;exact ah.1.1.1
 ·cases this
def ahO{e:dt}(h:tk e)(ay:e.k=4):∀x∈e.bk,x≤99999:=by
 have:=h.2;unfold tj at this;rw[if_neg R]at this;split at this
 ·rename_i ah;unfold pN DI at ah;rw[if_neg R,if_neg R,if_neg R,if_pos ay]at ah;simp only[cR,decide_eq_true_eq]at ah;intro x ak;have:=yk (ahf ah.1.1).2.2.2.2.1 x ak;omega
 ·cases this
def bi.aNp{m:M}(h:bi m){t:List Int}(bp:t.length≤100000):bi {m with eK:=t}:=
 {w:=h.w,h:=h.h,G:=h.G,O:=h.O,aF:=h.aF,bO:=h.bO,a:=h.a,aD:=h.aD,cY:=h.cY,cD:=h.cD,back:=h.back,bK:=h.bK,hM:=h.hM,eK:=bp,ds:=h.ds}
def bi.mC{m:M}(h:bi m){e:dt}(he:tk e):bi (mC m e):=by
 unfold Go.VI.mC;split
 ·rename_i ay;exact h.Rt (ahM (ahN he ay))
 ·split
  ·exact h.Rz _
  ·split
   ·exact h.RI _ _
   ·split
    ·rename_i ay;exact h.seq (ahO he ay)
    ·split
     ·refine h.aNp ?_;have j:=ahc (e.t.drop 2);have I:=(RV he.2).2.1;rw[iG]at j;omega
     ·exact h
def aNq{m:M}(hm:bi m)(e:dt)(he:tk e):hi 21 [uz e] m (.bd []) (mC m e):=by
 intro ae aD af aG;have ay:=aMU he.2;have ag:=λ H=>aNm e he H
 obtain⟨c4,eN,qp,_⟩:=RV he.2;unfold mC;rw[yq];have dC:=hX.dC (m:=m) (ae:=ae) (af:=af) (aD:=aD) (aG:=aG) (T:=[.box [.i (.v (.int .i64 (e.k))),.i (.v (.int .i32 e.r)),.i (.v (.int .u8 (e.c))),.i (.v (.int .u8 (e.v))),.i (.str e.i),.i (.sl 1 (b1 e.bk) false),.i (.str e.t)]]);rcases ay with ay|ay|ay|ay|ay
 ·have aP:=ahM (m:=m.md) (ahN he ay);have i_:=λ H=>aKM m.md e.r he.1.1 H
  obtain⟨an,ao,cJ⟩:=l3 (f:=51) rfl rfl rfl (aK5 hm (mapM m.md e.r) (aNo aP) aP) dC;rw[if_pos ay];rw[ay]at ag ao;rw[ay];generalize mapM m.md e.r=r at*;rw[bo zU];simp(disch:=omega)only[ar,simprocAttr,Cn,bQ,bV,bH,ag,i_,ao];exact⟨_,rfl,cJ.iN⟩
 ·obtain⟨an,ao,cJ⟩:=l3 (f:=53) rfl rfl rfl (aK8 hm e.c) dC;rw[if_neg R,if_pos ay];rw[ay]at ag ao;rw[ay];rw[bo zU];simp(disch:=omega)only[ar,simprocAttr,Cn,bQ,bV,bH,ag,ao];exact⟨_,rfl,cJ.iN⟩
 ·obtain⟨an,ao,cJ⟩:=l3 (f:=54) rfl rfl rfl (aLj hm e.i e.c) dC;rw[if_neg R,if_neg R,if_pos ay];rw[ay]at ag ao;rw[ay];rw[bo zU];simp(disch:=omega)only[ar,simprocAttr,Cn,bQ,bV,bH,ag,ao];exact⟨_,rfl,cJ.iN⟩
 ·obtain⟨an,ao,cJ⟩:=l3 (f:=55) rfl rfl rfl (aMw hm e.r e.c e.v e.i e.bk e.t R (ahO he ay)) dC;rw[if_neg R,if_neg R,if_neg R,if_pos ay];rw[ay]at ag ao;rw[ay];rw[bo zU];simp(disch:=omega)only[ar,simprocAttr,Cn,bQ,bV,bH,ag,ao];exact⟨_,rfl,cJ.iN⟩
 ·have dn:=λ H=>aML e.t R H
  rw[if_neg R,if_neg R,if_neg R,if_neg R];rw[ay]at ag;rw[ay];cases bp:GY e.t with
  |true=>rw[bp]at dn;simp only[if_true]at dn⊢;rw[bo zU];simp(disch:=omega)only[ar,simprocAttr,Cn,bQ,bV,bH,ag,dn];exact⟨_,rfl,dZ.dC⟩
  |false=>rw[bp]at dn;simp only[fF,if_false]at dn⊢;rw[bo zU];simp(disch:=omega)only[ar,simprocAttr,Cn,bQ,bV,bH,ag,dn];exact⟨_,rfl,dZ.dC⟩
def mk(m:M)(g0 g1 X cH cr Y T K:U):List U:=[g0,g1,X,cH,cr,Y,.i (.v (.int .i64 m.aF.r)),.i (.v (.int .i64 m.aF.c)),.i (.v (.bool m.aF.p)),.i (.v (.int .i64 m.bO.aF.r)),.i (.v (.int .i64 m.bO.aF.c)),.i (.v (.bool m.bO.aF.p)),.i (.v (.int .i64 m.bO.a.cZ)),.i (.v (.int .i64 m.bO.a.a7)),.i (.v (.int .i64 m.bO.a.cW)),.i (.v (.bool m.bO.c2)),.i (.v (.int .u8 m.bO.dh)),.i (.v (.int .u8 m.bO.s1)),.i (.v (.int .i64 m.bO.dI)),.i (.v (.int .i64 m.a.cZ)),.i (.v (.int .i64 m.a.a7)),.i (.v (.int .i64 m.a.cW)),.i (.v (.bool m.md.ins)),.i (.v (.bool m.md.ic)),.i (.v (.bool m.md.ky)),.i (.v (.bool m.md.c2)),.i (.v (.bool m.md.wr)),.i (.v (.bool m.md.kz)),.i (.v (.bool m.md.fJ)),.i (.v (.bool m.md.kA)),.i (.v (.int .u8 m.md.dh)),.i (.v (.int .u8 m.md.s1)),.i (.v (.int .i64 m.md.dI)),.i (.v (.int .i64 m.cA)),.i (.v (.int .i64 m.b7)),T,K,.i (.v (.int .i64 m.bk.bK)),.i (.str m.bk.b4),.i (.str m.bk.b0),.i (.str (dN m.eK)),.i (.str m.ds)]
section
variable(m:M)(g0 g1 X cH cr Y T K:U)
def aNr:(mk m g0 g1 X cH cr Y T K).length=42:=rfl
def mk_one:(mk m g0 g1 X cH cr Y T K).all one=(one g0 &&(one g1 &&(one X &&(one cH &&(one cr &&(one Y &&(one T &&one K))))))):=by simp[mk,one]
def aNs(B:Nat)(H:aa):ey B H (mk m g0 g1 X cH cr Y T K)=mk m (el B H g0) (el B H g1) (el B H X) (el B H cH) (el B H cr) (el B H Y) (el B H T) (el B H K):=by simp[mk,ey,el]
def aNt:(mk m g0 g1 X cH cr Y T K)[0]?=some (g0):=rfl
def aNu:(mk m g0 g1 X cH cr Y T K)[1]?=some (g1):=rfl
def aNv:(mk m g0 g1 X cH cr Y T K)[2]?=some (X):=rfl
def aNw:(mk m g0 g1 X cH cr Y T K)[3]?=some (cH):=rfl
def aNx:(mk m g0 g1 X cH cr Y T K)[4]?=some (cr):=rfl
def aNy:(mk m g0 g1 X cH cr Y T K)[5]?=some (Y):=rfl
def aNz:(mk m g0 g1 X cH cr Y T K)[6]?=some (.i (.v (.int .i64 m.aF.r))):=rfl
def aNA:(mk m g0 g1 X cH cr Y T K)[7]?=some (.i (.v (.int .i64 m.aF.c))):=rfl
def aNB:(mk m g0 g1 X cH cr Y T K)[8]?=some (.i (.v (.bool m.aF.p))):=rfl
def aNC:(mk m g0 g1 X cH cr Y T K)[9]?=some (.i (.v (.int .i64 m.bO.aF.r))):=rfl
def aND:(mk m g0 g1 X cH cr Y T K)[10]?=some (.i (.v (.int .i64 m.bO.aF.c))):=rfl
def aNE:(mk m g0 g1 X cH cr Y T K)[11]?=some (.i (.v (.bool m.bO.aF.p))):=rfl
def aNF:(mk m g0 g1 X cH cr Y T K)[12]?=some (.i (.v (.int .i64 m.bO.a.cZ))):=rfl
def aNG:(mk m g0 g1 X cH cr Y T K)[13]?=some (.i (.v (.int .i64 m.bO.a.a7))):=rfl
def aNH:(mk m g0 g1 X cH cr Y T K)[14]?=some (.i (.v (.int .i64 m.bO.a.cW))):=rfl
def aNI:(mk m g0 g1 X cH cr Y T K)[15]?=some (.i (.v (.bool m.bO.c2))):=rfl
def aNJ:(mk m g0 g1 X cH cr Y T K)[16]?=some (.i (.v (.int .u8 m.bO.dh))):=rfl
def aNK:(mk m g0 g1 X cH cr Y T K)[17]?=some (.i (.v (.int .u8 m.bO.s1))):=rfl
def aNL:(mk m g0 g1 X cH cr Y T K)[18]?=some (.i (.v (.int .i64 m.bO.dI))):=rfl
def aNM:(mk m g0 g1 X cH cr Y T K)[19]?=some (.i (.v (.int .i64 m.a.cZ))):=rfl
def aNN:(mk m g0 g1 X cH cr Y T K)[20]?=some (.i (.v (.int .i64 m.a.a7))):=rfl
def aNO:(mk m g0 g1 X cH cr Y T K)[21]?=some (.i (.v (.int .i64 m.a.cW))):=rfl
def aNP:(mk m g0 g1 X cH cr Y T K)[22]?=some (.i (.v (.bool m.md.ins))):=rfl
def aNQ:(mk m g0 g1 X cH cr Y T K)[23]?=some (.i (.v (.bool m.md.ic))):=rfl
def aNR:(mk m g0 g1 X cH cr Y T K)[24]?=some (.i (.v (.bool m.md.ky))):=rfl
def aNS:(mk m g0 g1 X cH cr Y T K)[25]?=some (.i (.v (.bool m.md.c2))):=rfl
def aNT:(mk m g0 g1 X cH cr Y T K)[26]?=some (.i (.v (.bool m.md.wr))):=rfl
def aNU:(mk m g0 g1 X cH cr Y T K)[27]?=some (.i (.v (.bool m.md.kz))):=rfl
def aNV:(mk m g0 g1 X cH cr Y T K)[28]?=some (.i (.v (.bool m.md.fJ))):=rfl
def aNW:(mk m g0 g1 X cH cr Y T K)[29]?=some (.i (.v (.bool m.md.kA))):=rfl
def aNX:(mk m g0 g1 X cH cr Y T K)[30]?=some (.i (.v (.int .u8 m.md.dh))):=rfl
def aNY:(mk m g0 g1 X cH cr Y T K)[31]?=some (.i (.v (.int .u8 m.md.s1))):=rfl
def aNZ:(mk m g0 g1 X cH cr Y T K)[32]?=some (.i (.v (.int .i64 m.md.dI))):=rfl
def aN0:(mk m g0 g1 X cH cr Y T K)[33]?=some (.i (.v (.int .i64 m.cA))):=rfl
def aN1:(mk m g0 g1 X cH cr Y T K)[34]?=some (.i (.v (.int .i64 m.b7))):=rfl
def aN2:(mk m g0 g1 X cH cr Y T K)[35]?=some (T):=rfl
def aN3:(mk m g0 g1 X cH cr Y T K)[36]?=some (K):=rfl
def aN4:(mk m g0 g1 X cH cr Y T K)[37]?=some (.i (.v (.int .i64 m.bk.bK))):=rfl
def aN5:(mk m g0 g1 X cH cr Y T K)[38]?=some (.i (.str m.bk.b4)):=rfl
def aN6:(mk m g0 g1 X cH cr Y T K)[39]?=some (.i (.str m.bk.b0)):=rfl
def aN7:(mk m g0 g1 X cH cr Y T K)[40]?=some (.i (.str (dN m.eK))):=rfl
def aN8:(mk m g0 g1 X cH cr Y T K)[41]?=some (.i (.str m.ds)):=rfl
def aN9:ek 3 (mk m g0 g1 X cH cr Y T K)=[g0,g1,X]:=rfl
def aN_:ek 3 (eG 3 (mk m g0 g1 X cH cr Y T K))=[cH,cr,Y]:=rfl
def aN':ek 3 (eG 6 (mk m g0 g1 X cH cr Y T K))=[.i (.v (.int .i64 m.aF.r)),.i (.v (.int .i64 m.aF.c)),.i (.v (.bool m.aF.p))]:=rfl
def aOa:ek 3 (eG 9 (mk m g0 g1 X cH cr Y T K))=[.i (.v (.int .i64 m.bO.aF.r)),.i (.v (.int .i64 m.bO.aF.c)),.i (.v (.bool m.bO.aF.p))]:=rfl
def aOb:ek 10 (eG 9 (mk m g0 g1 X cH cr Y T K))=[.i (.v (.int .i64 m.bO.aF.r)),.i (.v (.int .i64 m.bO.aF.c)),.i (.v (.bool m.bO.aF.p)),.i (.v (.int .i64 m.bO.a.cZ)),.i (.v (.int .i64 m.bO.a.a7)),.i (.v (.int .i64 m.bO.a.cW)),.i (.v (.bool m.bO.c2)),.i (.v (.int .u8 m.bO.dh)),.i (.v (.int .u8 m.bO.s1)),.i (.v (.int .i64 m.bO.dI))]:=rfl
def aOc:ek 3 (eG 12 (mk m g0 g1 X cH cr Y T K))=[.i (.v (.int .i64 m.bO.a.cZ)),.i (.v (.int .i64 m.bO.a.a7)),.i (.v (.int .i64 m.bO.a.cW))]:=rfl
def aOd:ek 2 (eG 16 (mk m g0 g1 X cH cr Y T K))=[.i (.v (.int .u8 m.bO.dh)),.i (.v (.int .u8 m.bO.s1))]:=rfl
def aOe:ek 3 (eG 19 (mk m g0 g1 X cH cr Y T K))=[.i (.v (.int .i64 m.a.cZ)),.i (.v (.int .i64 m.a.a7)),.i (.v (.int .i64 m.a.cW))]:=rfl
def aOf:ek 11 (eG 22 (mk m g0 g1 X cH cr Y T K))=[.i (.v (.bool m.md.ins)),.i (.v (.bool m.md.ic)),.i (.v (.bool m.md.ky)),.i (.v (.bool m.md.c2)),.i (.v (.bool m.md.wr)),.i (.v (.bool m.md.kz)),.i (.v (.bool m.md.fJ)),.i (.v (.bool m.md.kA)),.i (.v (.int .u8 m.md.dh)),.i (.v (.int .u8 m.md.s1)),.i (.v (.int .i64 m.md.dI))]:=rfl
def aOg:ek 2 (eG 30 (mk m g0 g1 X cH cr Y T K))=[.i (.v (.int .u8 m.md.dh)),.i (.v (.int .u8 m.md.s1))]:=rfl
def aOh:ek 3 (eG 37 (mk m g0 g1 X cH cr Y T K))=[.i (.v (.int .i64 m.bk.bK)),.i (.str m.bk.b4),.i (.str m.bk.b0)]:=rfl
def aOi:ek 42 (mk m g0 g1 X cH cr Y T K)=mk m g0 g1 X cH cr Y T K:=rfl
def aOj(a b c:U):a::b::c::eG 3 (mk m g0 g1 X cH cr Y T K)=mk m a b c cH cr Y T K:=rfl
def aOk(a b c:U):ek 3 (mk m g0 g1 X cH cr Y T K)++[a,b,c]++eG 6 (mk m g0 g1 X cH cr Y T K)=mk m g0 g1 X a b c T K:=rfl
def aOl(a:U):ek 2 (mk m g0 g1 X cH cr Y T K)++[a]++eG 3 (mk m g0 g1 X cH cr Y T K)=mk m g0 g1 a cH cr Y T K:=rfl
def aOm(a:U):ek 5 (mk m g0 g1 X cH cr Y T K)++[a]++eG 6 (mk m g0 g1 X cH cr Y T K)=mk m g0 g1 X cH cr a T K:=rfl
def aOn(a:U):ek 35 (mk m g0 g1 X cH cr Y T K)++[a]++eG 36 (mk m g0 g1 X cH cr Y T K)=mk m g0 g1 X cH cr Y a K:=rfl
def aOo(a:U):ek 36 (mk m g0 g1 X cH cr Y T K)++[a]++eG 37 (mk m g0 g1 X cH cr Y T K)=mk m g0 g1 X cH cr Y T a:=rfl
def aOp(x y:Int)(z:Bool):ek 6 (mk m g0 g1 X cH cr Y T K)++[.i (.v (.int .i64 x)),.i (.v (.int .i64 y)),.i (.v (.bool z))]++eG 9 (mk m g0 g1 X cH cr Y T K)=mk {m with aF:=⟨x,y,z⟩} g0 g1 X cH cr Y T K:=rfl
def aOq(x y:Int)(z:Bool):ek 9 (mk m g0 g1 X cH cr Y T K)++[.i (.v (.int .i64 x)),.i (.v (.int .i64 y)),.i (.v (.bool z))]++eG 12 (mk m g0 g1 X cH cr Y T K)=mk {m with bO:={m.bO with aF:=⟨x,y,z⟩}} g0 g1 X cH cr Y T K:=rfl
def aOr(x:Bool):ek 8 (mk m g0 g1 X cH cr Y T K)++[.i (.v (.bool x))]++eG 9 (mk m g0 g1 X cH cr Y T K)=mk {m with aF:={m.aF with p:=x}} g0 g1 X cH cr Y T K:=rfl
def aOs(x:Bool):ek 11 (mk m g0 g1 X cH cr Y T K)++[.i (.v (.bool x))]++eG 12 (mk m g0 g1 X cH cr Y T K)=mk {m with bO:={m.bO with aF:={m.bO.aF with p:=x}}} g0 g1 X cH cr Y T K:=rfl
def aOt(x:Int):ek 33 (mk m g0 g1 X cH cr Y T K)++[.i (.v (.int .i64 x))]++eG 34 (mk m g0 g1 X cH cr Y T K)=mk {m with cA:=x} g0 g1 X cH cr Y T K:=rfl
def aOu(x:Int):ek 34 (mk m g0 g1 X cH cr Y T K)++[.i (.v (.int .i64 x))]++eG 35 (mk m g0 g1 X cH cr Y T K)=mk {m with b7:=x} g0 g1 X cH cr Y T K:=rfl
def aOv(a:U):(mk m g0 g1 X cH cr Y T K).set 35 a=mk m g0 g1 X cH cr Y a K:=rfl
def aOw(a:U):(mk m g0 g1 X cH cr Y T K).set 36 a=mk m g0 g1 X cH cr Y T a:=rfl
end
def sq:=o @aNr (o @mk_one (o @aNs (o @aNt (o @aNu (o @aNv (o @aNw (o @aNx (o @aNy (o @aNz (o @aNA (o @aNB (o @aNC (o @aND (o @aNE (o @aNF (o @aNG (o @aNH (o @aNI (o @aNJ (o @aNK (o @aNL (o @aNM (o @aNN (o @aNO (o @aNP (o @aNQ (o @aNR (o @aNS (o @aNT (o @aNU (o @aNV (o @aNW (o @aNX (o @aNY (o @aNZ (o @aN0 (o @aN1 (o @aN2 (o @aN3 (o @aN4 (o @aN5 (o @aN6 (o @aN7 (o @aN8 (o @aN9 (o @aN_ (o @aN' (o @aOa (o @aOb (o @aOc (o @aOd (o @aOe (o @aOf (o @aOg (o @aOh (o @aOi (o @aOj (o @aOk (o @aOl (o @aOm (o @aOn (o @aOo (o @aOp (o @aOq (o @aOr (o @aOs (o @aOt (o @aOu (o @aOv (@aOw))))))))))))))))))))))))))))))))))))))))))))))))))))))))))))))))))))))
def R3:(E.kinds 42).getD 35 none=some 1:=aK
def R4:(E.kinds 42).getD 36 none=some 1:=aK
def aOx:(E.kinds 38).getD 0 none=some 1:=aK
def iw(m:M):List U:=mk m (.i (.v (.int .i64 m.w))) (.i (.v (.int .i64 m.h))) (.i (.sl 1 (b2 m.G) false)) (.i (.v (.int .i64 m.w))) (.i (.v (.int .i64 m.h))) (.i (.sl 1 (b2 m.O) false)) (.i (.sl 1 (dS m.cD) false)) (.i (.sl 1 (b2 m.back) false))
def aOy(m:M)(a ae b af:Nat)(h:m.gl=false):mk m (.i (.v (.int .i64 m.w))) (.i (.v (.int .i64 m.h))) (.x (.d a ae 0 m.h)) (.i (.v (.int .i64 m.w))) (.i (.v (.int .i64 m.h))) (.x (.d b af 0 m.h)) (.i (.sl 1 (dS m.cD) false)) (.i (.sl 1 (b2 m.back) false))=aT m a ae b af:=by unfold mk aT;rw[h];rfl
def o0(g:List (List bl))(k:Nat):List bT:=aX (g.take k)++(g.drop k).map aHM
def ahP(g:List (List bl))(k:Nat):(o0 g k).length=g.length:=by rw[o0,dp,gy,nM,hE,iG];omega
def aOz(g:List (List bl)):o0 g 0=(b2 g).map pR:=by simp only[o0,mQ,il,b2,vH,show aX []=[]from rfl,gJ];rfl
def aOA(g:List (List bl)):o0 g g.length=aX g:=by simp[o0]
def aOB{g:List (List bl)}{k:Nat}(h:k<g.length):(o0 g k)[k]?=some (.dK (.sl 5 (cg g[k]) false)):=by rw[o0,hd (by rw[gy,hE];omega),gy,hE,MX R,rR,jq h];rfl
def aOC{g:List (List bl)}{k:Nat}(h:k<g.length):(o0 g k).set k (.own (cg g[k]))=o0 g (k+1):=by
 have al:(aX (g.take k)).length=k:=by rw[gy,hE];omega
 rw[o0,yY _ _ R,al,rR,jq h,fh,FG,o0,KX h,←C'];simp[aX]
def aOD(l:List bl)(al:l.length≤1000)(H:aa):cn 79 [.i (.sl 5 (cg l) false)] H (.ref H.length 0 0 l.length) (H++[.sl 5 0 (cg l) false]):=by have j:=fq l;unfold cn dd;simp only[eV,show E.ext 79=some (lW 5)from rfl,bx,bc,c8,reach,fm,dr,cx,co];simp[lW,j,show l.length≤1000000000 by omega,bc,reach,Chunk.refs,co,df,bt,Chunk.cI,ea]
def aOE(g:List (List bl))(aP:g.length≤1000)(H:aa):cn 78 [.i (.sl 1 (b2 g) false)] H (.x (.d H.length 0 0 g.length)) (H++[.az 5 0 0 (o0 g 0)]):=by have j:=gx g;unfold cn dd;simp only[eV,show E.ext 78=some (s0 5)from rfl,bx,bc,c8,reach,fm,dr,cx,co];simp[s0,j,show g.length≤1000000000 by omega,bc,cN.c,cN.to,reach,Chunk.refs,co,df,bt,Chunk.cI,ea,aOz]
def aOF(g:List (List bl))(aP:g.length≤1000)(ah:∀r∈g,r.length≤1000):∀(m k:Nat),k+m=g.length→
  hV Cs 0 [(3,.x (.d 0 0 0 g.length)),(8,g.length),(9,k)] [.az 5 0 0 (o0 g k)] 0 [(3,.x (.d 0 0 0 g.length)),(8,g.length),(9,g.length),(10,false)] [.az 5 0 0 (aX g)]:=by
 intro m;induction m with
 |zero=>intro k ay;obtain rfl:k=g.length:=R;rw[aOA];refine(cM Cs 0).trans ?_;simp(disch:=omega)only[ar,simprocAttr,PG,dM,cV]
 |succ m a8=>intro k ay;have be:k<g.length:=R;have px:=aOB be;have jA:=aOC be;have ni:=ahP g k;have aOG:=ah g[k] (mL be);have aj:=aOD g[k] aOG;have e:=a8 (k+1) R;have aOH:=fq g[k];refine ga ?_ e;clear e a8;generalize o0 g (k+1)=aRg at*;generalize o0 g k=eL at*;generalize g[k]=row at*;refine(cM Cs 0).trans ?_;simp(disch:=omega)only[ar,simprocAttr,PG,dM,cV,aj,px,jA,aOH,ni,ne_eq,aef]
def aOI{g:Nat}{bq:List U}{c n:Nat}{x:Chunk}{H:aa}(he:E.ext g=none)(ah:bx bq=[])(ak:x.refs=[])(ag:∃L,b3 E g bq []=some (.x (.d c 0 0 n),L)∧L[c]?=some x):
  cn g bq H (.x (.d H.length 0 0 n)) (H++[x]):=by
 obtain⟨L,ag,e_⟩:=ag;have j:=(fU (bt [])).2 bq ah;have lV:=kZ ak;have dj:=r8 e_ ak;unfold cn dd;rw[ah];simp only[eV,he,reach,j,fm,ag,dr,q8,if_false,mQ,r9,c8,bc,cN.c,dj];simp[co,cx,df,bt,e_,lV,ea,cN.to,cN.c]
def R5(g:List (List bl))(aP:g.length≤1000)(ah:∀r∈g,r.length≤1000)(H:aa):cn 45 [.i (.sl 1 (b2 g) false)] H (.x (.d H.length 0 0 g.length)) (H++[.az 5 0 0 (aX g)]):=aOI rfl rfl rfl (by
 have ao:=aOE g aP;have al:=aOF g aP ah g.length 0 R;rw[show((0:Nat):Int)=0 from rfl]at al;have ay:=ahP g 0;rw[nt Tryz.func45 rfl Cs.1];simp(disch:=omega)only[ar,simprocAttr,PG,dM,cV,ao,al,aef];exact⟨_,rfl,rfl⟩)
def aOJ(l:List Bool)(al:l.length≤1000)(H:aa):cn 46 [.i (.sl 1 (dS l) false)] H (.ref H.length 0 0 l.length) (H++[.sl 1 0 (dS l) false]):=by have j:=l2 l;unfold cn dd;simp only[eV,show E.ext 46=some (lW 1)from rfl,bx,bc,c8,reach,fm,dr,cx,co];simp[lW,j,show l.length≤1000000000 by omega,bc,reach,Chunk.refs,co,df,bt,Chunk.cI,ea]
def aOK{m:M}(hm:bi m):∃a b L,b3 E 19 [.agg (iw m)] []=some (.agg (aT {m with gl:=false} a 0 b 0),L)∧a≠b∧L[a]?=some (.az 5 0 0 (aX m.G))∧L[b]?=some (.az 5 0 0 (aX m.O)):=by
 have hw:=hm.w;have aN:=hm.h;have k3:=hm.G;have qi:=hm.O;have cJ:=hm.back;have dn:=hm.cD;have ao:=λ H=>R5 m.G R (λ r ah=>by have:=k3.2 r ah;omega) H
 have aH:=λ H=>R5 m.O R (λ r ah=>by have:=qi.2 r ah;omega) H
 have bN:=λ H=>R5 m.back R (λ r ah=>by have:=cJ.2 r ah;omega) H
 have c':=λ H=>aOJ m.cD R H
 rw[k3.1]at ao;rw[qi.1]at aH;have fl:=Db m.back;have z2:=Da m.back;have t1:=l2 m.cD;have fe:=gx m.back;have dz:=gy m.back;unfold iw;rw[bo acA];simp(disch:=omega)only[ar,simprocAttr,aDV,dM,eO,sq,ao,aH,bN,c',fl,z2,R3,R4,aOx];exact⟨2,3,_,Prod.ext (congrArg U.agg (aOy {m with gl:=false} 2 0 3 0 rfl)) rfl,by decide,rfl,rfl⟩
def ahQ(a b s:Int)(H:aa):cv 31 [.agg [.i (.v (.int .u8 (a))),.i (.v (.int .u8 (b)))],s] H (↑(Cf a b s)):=by unfold cv dd;simp only[eV,show E.ext 31=some xD from rfl,bx,bc,c8,reach,fm,dr,cx,co];simp[xD,bc,reach,Chunk.refs,co,ea]
def ahR{a b s:Int}(h:(a=66∨a=48)∧(b=66∨b=48)∧(s=0∨s=1)):Cf a b s=true:=by obtain⟨rfl|rfl,rfl|rfl,rfl|rfl⟩:=h<;>rfl
def aOL{r:List bl}(h:1≤r.length∧r.length≤132∧hv r=true)(H:aa):cv 34 [.i (.sl 5 (cg r) false)] H false:=cu (by
 have e:=λ H=>QI (l:=r) R h.2.1 h.2.2 H
 refine bz acG ?_;simp(disch:=omega)only[ar,simprocAttr,aD0,cV,e];exact⟨_,rfl⟩)
def aOM(g:List (List bl))(aP:g.length<100000)(ah:∀r∈g,1≤r.length∧r.length≤132∧hv r=true):∀(n k:Nat),k+n=g.length→
  hV Cw 0 [(0,.i (.sl 1 (b2 g) false)),(1,.aQ (.func 34) [] []),(7,g.length),(8,k)] [] 0 [(0,.i (.sl 1 (b2 g) false)),(1,.aQ (.func 34) [] []),(7,g.length),(8,g.length),(9,false)] []:=by
 intro n;induction n with
 |zero=>intro k ay;obtain rfl:k=g.length:=R;refine(cM Cw 0).trans ?_;simp(disch:=omega)only[ar,simprocAttr,PJ,dM,cV]
 |succ n a8=>
  intro k ay;have fR:k<g.length:=R;have ak:=Ah (eX fR);have ao:=λ H=>aOL (ah g[k] (mL fR)) H
  refine ga ?_ (a8 (k+1) R);clear a8;refine(cM Cw 0).trans ?_;simp(disch:=omega)only[ar,simprocAttr,PJ,dM,cV,ak,ao,aAv,aeh]
def aON(g:List (List bl))(aP:g.length<100000)(ah:∀r∈g,1≤r.length∧r.length≤132∧hv r=true)(H:aa):cv 65 [.i (.sl 1 (b2 g) false),.aQ (.func 34) [] []] H (↑(-1:Int)):=cu (by
 have e:=aOM g aP ah g.length 0 R;rw[show((0:Nat):Int)=0 from rfl]at e;have al:=gx g;refine bz Cw ?_;simp(disch:=omega)only[ar,simprocAttr,PJ,dM,cV,e,al,aeh];exact⟨_,rfl⟩)
def aOO(g:List (List bl))(aP:g.length<100000)(ah:∀r∈g,1≤r.length∧r.length≤132∧hv r=true)(H:aa):cv 33 [.i (.sl 1 (b2 g) false),.aQ (.func 34) [] []] H false:=cu (by
 have e:=λ H=>aON g aP ah H
 refine bz acF ?_;simp(disch:=omega)only[ar,simprocAttr,aDZ,dM,e];exact⟨_,rfl⟩)
def ahS{c:fW}{w h:Nat}(hw:w≤1000)(ag:wb c w h)(g:aC)(H:aa):cv 29 [.agg [c.r,c.c,c.p],.agg [w,h,.i g]] H true:=cu (by
 obtain⟨r,q,p⟩:=c;obtain⟨⟨j,I⟩,⟨av,ba⟩,bs⟩:=ag;simp only at j I av ba bs⊢;have gq:¬r<0:=R;have Ex:¬q<0:=R;cases p with
 |false=>refine bz PF ?_;simp(disch:=omega)only[ar,simprocAttr,acD,j,I,av,ba];exact⟨_,rfl⟩
 |true=>
  have bs:=bs rfl;refine bz PF ?_;simp(disch:=omega)only[ar,simprocAttr,acD,j,I,av,ba,bs];exact⟨_,rfl⟩)
def aOP{m:M}(hm:bi m):gv 11 [.agg (iw m)] (↑(0:Int)):=by
 have hw:=hm.w;have aN:=hm.h;have ao:=λ H=>QR m.w m.h hw aN m.G hm.G.1 hm.G.2 H
 have aH:=λ H=>QR m.w m.h hw aN m.O hm.O.1 hm.O.2 H
 have bN:=λ g H=>ahS (c:=m.aF) (w:=m.w) (h:=m.h) R hm.aF g H
 have c':=λ g H=>ahS (c:=m.bO.aF) (w:=m.w) (h:=m.h) R hm.bO g H
 have mM:=λ H=>agq hm.a H
 have IK:=λ H=>agq hm.aD H
 have Q0:=λ H=>ahQ m.md.dh m.md.s1 m.md.dI H
 have ahT:=λ H=>ahQ m.bO.dh m.bO.s1 m.bO.dI H
 rw[ahR hm.bK]at Q0;rw[ahR hm.hM]at ahT;have RP:=λ H=>afa m.eK (by have:=hm.eK;omega) H
 have aOQ:=λ H=>aOO m.back (by have:=hm.back.1;omega) hm.back.2 H
 obtain⟨t1,t2,t3⟩:=hm.cY;have j:=l2 m.cD;have I:=gx m.back;have av:=hm.cD;have ba:=hm.back.1;have bs:((b2 m.back).length:Int)≤500:=R;have dq:((dS m.cD).length:Int)=m.w:=R;unfold iw;refine bz acx ?_;simp(disch:=omega)only[ar,simprocAttr,aDS,dM,eO,sq,R3,R4,ao,aH,bN,c',mM,IK,Q0,ahT,RP,aOQ,t1,t2,t3,bs,dq];exact⟨_,rfl⟩
def aOR{m:M}(hm:bi m)(H:aa):cv 11 [.agg (iw m)] H (↑(0:Int)):=gY rfl rfl rfl (aOP hm)
def yu(m:M):List aC:=[.v (.int .i64 m.w),.v (.int .i64 m.h),.sl 1 (b2 m.G) false,.v (.int .i64 m.w),.v (.int .i64 m.h),.sl 1 (b2 m.O) false,.v (.int .i64 m.aF.r),.v (.int .i64 m.aF.c),.v (.bool m.aF.p),.v (.int .i64 m.bO.aF.r),.v (.int .i64 m.bO.aF.c),.v (.bool m.bO.aF.p),.v (.int .i64 m.bO.a.cZ),.v (.int .i64 m.bO.a.a7),.v (.int .i64 m.bO.a.cW),.v (.bool m.bO.c2),.v (.int .u8 m.bO.dh),.v (.int .u8 m.bO.s1),.v (.int .i64 m.bO.dI),.v (.int .i64 m.a.cZ),.v (.int .i64 m.a.a7),.v (.int .i64 m.a.cW),.v (.bool m.md.ins),.v (.bool m.md.ic),.v (.bool m.md.ky),.v (.bool m.md.c2),.v (.bool m.md.wr),.v (.bool m.md.kz),.v (.bool m.md.fJ),.v (.bool m.md.kA),.v (.int .u8 m.md.dh),.v (.int .u8 m.md.s1),.v (.int .i64 m.md.dI),.v (.int .i64 m.cA),.v (.int .i64 m.b7),.sl 1 (dS m.cD) false,.sl 1 (b2 m.back) false,.v (.int .i64 m.bk.bK),.str m.bk.b4,.str m.bk.b0,.str (dN m.eK),.str m.ds]
def ahU(m:M):kH (yu m)=iw m:=rfl
def R6(H:aa)(x:aC)(r:List U):fC H (.i x::r)=match fC H r with
 |some (xs,bu)=>some (x::xs,bu)
 |none=>none:=rfl
def ahV(H:aa)(k:cN)(r:List U):fC H (.x k::r)=match o4 H k with
 |some (x,H1)=>match fC H1 r with
  |some (xs,bu)=>some (x::xs,bu)
  |none=>none
 |none=>none:=rfl
def ahW{m:M}{a ae b af aD aG:Nat}{H:aa}(G1:m.gl=false)(bY:H[a]?=some (.az 5 ae aD (aX m.G)))(cJ:H[b]?=some (.az 5 af aG (aX m.O)))(cS:a≠b)(k3:m.G.length=m.h)(qi:m.O.length=m.h):
  fC H (aT m a ae b af)=some (yu m,(H.set a (.fd ae (b2 m.G))).set b (.fd af (b2 m.O))):=by
 have J:∀(g:List (List bl)) (c gc s:Nat) (H:aa),H[c]?=some (.az 5 gc s (aX g))→o4 H (.d c gc 0 g.length)=some (.sl 1 (b2 g) false,H.set c (.fd gc (b2 g))):=by intro g c gc s H h;rw[WM,h,WN,if_pos rfl,Db,WO,Da,il,s7 (by rw[gx];exact cL _)]
 have f1:=J m.G a ae aD H bY;have aOS:(H.set a (.fd ae (b2 m.G)))[b]?=some (.az 5 af aG (aX m.O)):=by rw[dw cS];exact cJ
 have f2:=J m.O b af aG _ aOS;rw[k3]at f1;rw[qi]at f2;unfold aT;rw[G1];rw[R6,R6,ahV,f1];simp only[R6,ahV,f2,Wb];rfl
def AS(m:M)(Z P:List U):aa:=[.box Z,.box (aT m 2 0 3 0),.az 5 0 0 (aX m.G),.az 5 0 0 (aX m.O),.box P]
def ahX{m:M}{Z P:List U}{c p d:Nat}{H:aa}(wa:∀a∈Z,∃x,a=.i x)(lP:∀a∈P,∃x,a=.i x)(h:qk p m H)(ag:H[c]?=some (.box Z))(aM:H[d]?=some (.box P))(e2:c≠d)(x y z:aC):
  o8 0 [(4,.ptr (c) 0 0 0),(5,.ptr (p) 0 0 0),(6,.ptr (d) 0 0 0),(28,.i x),(29,.i y),(30,.i z)] H=([(4,.ptr (0) 0 0 0),(5,.ptr (1) 0 0 0),(6,.ptr (4) 0 0 0),(28,.i x),(29,.i y),(30,.i z)],AS m Z P):=by
 obtain⟨A,ae,B,af,aD,aG,au,bY,cJ,iv⟩:=h;have ahY:∀{q:Nat} {W:List U},(∀a∈W,∃x,a=.i x)→H[q]?=some (.box W)→q≠p∧q≠A∧q≠B:=by
  intro q W vt bm;refine⟨λ e=>?_,λ e=>?_,λ e=>?_⟩
  ·subst e;rw[au]at bm;cases bm;obtain⟨x,ak⟩:=vt (.x (.d A ae 0 m.h)) (by simp[aT]);cases ak
  ·subst e;rw[bY]at bm;cases bm
  ·subst e;rw[cJ]at bm;cases bm
 obtain⟨b_,ca,c3⟩:=ahY wa ag;obtain⟨d1,d2,d3⟩:=ahY lP aM;have yl:p≠A:=λ e=>by subst e;rw[bY]at au;cases au
 have hY:p≠B:=λ e=>by subst e;rw[cJ]at au;cases au
 have aOT:ey 0 H (aT m A ae B af)=aT m A 0 B 0:=by simp[aT,ey,el,cN.c,bY,cJ,rE]
 have g0:∀k,(eJ 0 H 0 H)[k]?=(H[k]?).map (dO 0 H k):=λ k=>by rw[vl];simp
 have cm:(eJ 0 H 0 H)[c]?=some (.box Z):=by rw[g0,ag];simp only[en,dO,DJ wa]
 have cy:(eJ 0 H 0 H)[d]?=some (.box P):=by rw[g0,aM];simp only[en,dO,DJ lP]
 have fc:(eJ 0 H 0 H)[p]?=some (.box (aT m A 0 B 0)):=by rw[g0,au];simp only[en,dO,aOT]
 have iW:(eJ 0 H 0 H)[A]?=some (.az 5 0 0 (aX m.G)):=by rw[g0,bY];simp[dO]
 have l_:(eJ 0 H 0 H)[B]?=some (.az 5 0 0 (aX m.O)):=by rw[g0,cJ];simp[dO]
 have GZ:od 0 H [(4,.ptr (c) 0 0 0),(5,.ptr (p) 0 0 0),(6,.ptr (d) 0 0 0),(28,.i x),(29,.i y),(30,.i z)]=[(4,.ptr (c) 0 0 0),(5,.ptr (p) 0 0 0),(6,.ptr (d) 0 0 0),(28,.i x),(29,.i y),(30,.i z)]:=by simp[od,el,tp,ag,au,aM]
 rw[I6,GZ];generalize eJ 0 H 0 H=H1 at*;have lt:∀{q:Nat} {w:Chunk},H1[q]?=some w→¬H1.length≤q:=λ h=>e'.2 (bF.1 h).1
 have aOU:=(ys (aS:=λ _=>none) wa).2;have aOV:=(ys (aS:=λ _=>none) lP).2;have aOW:=λ aS=>(ys (aS:=aS) wa).1
 have aOX:=λ aS=>(ys (aS:=aS) lP).1
 have dj:o7 0 [(4,.ptr (c) 0 0 0),(5,.ptr (p) 0 0 0),(6,.ptr (d) 0 0 0),(28,.i x),(29,.i y),(30,.i z)] H1=[c,p,A,B,d]:=by simp[o7,bx,bc,reach,cm,cy,fc,iW,l_,kb,bH,aOU,aOV,Chunk.refs,lt cm,lt cy,lt fc,lt iW,lt l_,b_,ca,c3,d1,d2,d3,yl,hY,iv,e2,a' b_,a' ca,a' c3,a' d1,a' d2,a' d3,a' yl,a' hY,a' iv,a' e2]
 rw[Jq (jp _),dj];have oy:bt [c,p,A,B,d] c=some 0:=by simp[bt]
 have qV:bt [c,p,A,B,d] p=some 1:=by simp[bt,a' b_]
 have yh:bt [c,p,A,B,d] A=some 2:=by simp[bt,a' ca,a' yl]
 have aOY:bt [c,p,A,B,d] B=some 3:=by simp[bt,a' c3,a' hY,a' iv]
 have aOZ:bt [c,p,A,B,d] d=some 4:=by simp[bt,a' e2,d1,d2,d3]
 have em:=jN _ m A 0 B 0 _ _ yh aOY;simp only[yJ,AS,fh,fm,co,oy,qV,aOZ,cm,cy,fc,iW,l_,en,i1,iu,yt,em,aOW,aOX]
noncomputable def G2(J:Fr)(H:aa):Option (eC×Fr×aa):=vD E 0 8 (fg Tryz.f8 0) (o8 0 J H)
def bi.fold:∀{l:List dt} {m:M},bi m→oZ l→bi (l.foldl Go.VI.mC m)
 |[],_,h,_=>h
 |e::l,m,h,aP=>bi.fold (l:=l) (h.mC (aP e (by simp))) λ x ak=>aP x (by simp[ak])
def aO0{Z P:List U}(wa:∀a∈Z,∃x,a=.i x)(lP:∀a∈P,∃x,a=.i x)(l:List dt)(al:l.length<100000)(aP:oZ l):∀(n k:Nat) (m:M) (c p d:Nat) (H:aa),k+n=l.length→bi m→qk p m H→H[c]?=some (.box Z)→H[d]?=some (.box P)→c≠d→
  G2 [(4,.ptr (c) 0 0 0),(5,.ptr (p) 0 0 0),(6,.ptr (d) 0 0 0),(28,.i (.sl 7 (ep l) false)),(29,.i (.v (.int .i64 (l.length)))),(30,.i (.v (.int .i64 (k))))] H=some (.exit 0,[(4,.ptr (0) 0 0 0),(5,.ptr (1) 0 0 0),(6,.ptr (4) 0 0 0),(28,.i (.sl 7 (ep l) false)),(29,.i (.v (.int .i64 (l.length)))),(30,.i (.v (.int .i64 (l.length))))]++[(31,.i (.v (.bool (false))))],AS ((l.drop k).foldl mC m) Z P):=by
 intro n;induction n with
 |zero=>intro k m c p d H ay hm aO ag aM e2;obtain rfl:k=l.length:=R;unfold G2;rw[ahX wa lP aO ag aM e2,zM,mR,List.foldl_nil];generalize AS m Z P=W;rw[cM JW 0];simp(disch:=omega)only[ar,simprocAttr,FK,ns,cj]
 |succ n a8=>
  intro k m c p d H ay hm aO ag aM e2;have fR:k<l.length:=R;have ak:(ep l)[k]?=some (CX l[k]):=by simp[ep,fR]
  have he:=aP l[k] (mL fR);obtain⟨bu,ao,j,I⟩:=GN (f:=21) (bq:=[uz l[k]]) (H:=AS m Z P++[.box (kH (CX l[k]))]) (p:=1) (A:=2) (B:=3) (ae:=0) (af:=0) rfl rfl rfl (aNq hm l[k] he) ⟨rfl,⟨0,rfl⟩,⟨0,rfl⟩,by decide⟩;have aH:=a8 (k+1) _ 0 1 4 bu R (hm.mC he) j (I.2.1 0 _ rfl (by decide) trivial) (I.2.1 4 _ rfl (by decide) trivial) (by decide);unfold G2;rw[ahX wa lP aO ag aM e2,zM,jq fR,yX];refine ga ?_ aH;clear aH a8;generalize l[k]=e at*;rw[yq]at ao;simp only[CX]at ak ao;simp only[AS,cj,kH,fh,fm]at ao⊢;rw[cM JW 0];simp(disch:=omega)only[ar,simprocAttr,FK,ns,ak,ao,show∀J H,fN E 0 8 (GW _) J H=G2 (norm [4,5,6,28,29,30] J) H from λ J H=>zN rfl aK aK aK aK J H]
def iR(m:M)(s:List UInt8):M:={(jd m.bk s).2.foldl mC {m with gl:=false}with bk:=(jd m.bk s).1,gl:=false}
def bi.R7{m:M}(h:bi m)(q:db)(b:Bool):bi {m with bk:=q,gl:=b}:=
 {w:=h.w,h:=h.h,G:=h.G,O:=h.O,aF:=h.aF,bO:=h.bO,a:=h.a,aD:=h.aD,cY:=h.cY,cD:=h.cD,back:=h.back,bK:=h.bK,hM:=h.hM,eK:=h.eK,ds:=h.ds}
def WP(m:M):Prop:=bi m∧gD m.bk=true
def WP.ahZ{m:M}(h:WP m)(s:List UInt8):oZ (jd m.bk s).2:=by unfold jd;rw[LC h.2];exact ahL s h.2
def WP.write{m:M}(h:WP m)(s:List UInt8):WP (iR m s):=by refine⟨(bi.fold (h.1.R7 m.bk false) (h.ahZ s)).R7 _ _,?_⟩;show gD (jd m.bk s).1=true;unfold jd;rw[LC h.2];exact RZ s h.2
def aO1{g:Nat}{bq:List U}{a b:Nat}{m:M}{x y:Chunk}{H:aa}(he:E.ext g=none)(ah:bx bq=[])(ak:x.refs=[])(aY:y.refs=[])(cS:a≠b)(ag:∃L,b3 E g bq []=some (.agg (aT m a 0 b 0),L)∧L[a]?=some x∧L[b]?=some y):
  cn g bq H (.agg (aT m H.length 0 (H.length+1) 0)) (H++[x,y]):=by
 obtain⟨L,ag,e_,ta⟩:=ag;have j:=(fU (bt [])).2 bq ah;have lV:=kZ ak;have Gh:=kZ aY;have ij:bc (.agg (aT m a 0 b 0))=[a,b]:=rfl;have bG:=e'.2 (bF.1 e_).1;have bC:=e'.2 (bF.1 ta).1;have dj:reach L 64 [a,b] []=[a,b]:=by simp[reach,e_,ta,ak,aY,cS,a' cS,bG,bC]
 have ao:=jN (df [] H.length [a,b]) m a 0 b 0 H.length (H.length+1) (by simp[df,bt]) (by simp[df,bt,a' cS,qb]);unfold cn dd;rw[ah];simp only[eV,he,reach,j,fm,ag,dr,q8,if_false,mQ,r9,c8,ij,dj];simp[co,cx,ao,e_,ta,lV,Gh,ea]
def aO2{m:M}(hm:bi m)(H:aa):cn 19 [.agg (iw m)] H (.agg (aT {m with gl:=false} H.length 0 (H.length+1) 0)) (H++[.az 5 0 0 (aX m.G),.az 5 0 0 (aX m.O)]):=by obtain⟨a,b,L,j,I,av,ba⟩:=aOK hm;exact aO1 rfl rfl rfl rfl I ⟨L,j,av,ba⟩
def aO3(m:M):bx (iw m)=[]:=rfl
def aO4(m:M)(H:aa):fC H (iw m)=some (yu m,H):=by rw[←ahU];exact Ot (yu m)
def aO5(m:M)(H:aa):fC H (mk m (.i (.v (.int .i64 m.w))) (.i (.v (.int .i64 m.h))) (.i (.sl 1 (b2 m.G) false)) (.i (.v (.int .i64 m.w))) (.i (.v (.int .i64 m.h))) (.i (.sl 1 (b2 m.O) false)) (.i (.sl 1 (dS m.cD) false)) (.i (.sl 1 (b2 m.back) false)))=some (yu m,H):=aO4 m H
def aO6(m:M):(yu m).map U.i=mk m (.i (.v (.int .i64 m.w))) (.i (.v (.int .i64 m.h))) (.i (.sl 1 (b2 m.G) false)) (.i (.v (.int .i64 m.w))) (.i (.v (.int .i64 m.h))) (.i (.sl 1 (b2 m.O) false)) (.i (.sl 1 (dS m.cD) false)) (.i (.sl 1 (b2 m.back) false)):=rfl
def aO7(m:M):jx [none,none,some 1,none,none,some 1,none,none,none,none,none,none,none,none,none,none,none,none,none,none,none,none,none,none,none,none,none,none,none,none,none,none,none,none,none,some 1,some 1,none,none,none,none,none] (mk m (.i (.v (.int .i64 m.w))) (.i (.v (.int .i64 m.h))) (.i (.sl 1 (b2 m.G) false)) (.i (.v (.int .i64 m.w))) (.i (.v (.int .i64 m.h))) (.i (.sl 1 (b2 m.O) false)) (.i (.sl 1 (dS m.cD) false)) (.i (.sl 1 (b2 m.back) false)))=mk m (.i (.v (.int .i64 m.w))) (.i (.v (.int .i64 m.h))) (.i (.sl 1 (b2 m.G) false)) (.i (.v (.int .i64 m.w))) (.i (.v (.int .i64 m.h))) (.i (.sl 1 (b2 m.O) false)) (.i (.sl 1 (dS m.cD) false)) (.i (.sl 1 (b2 m.back) false)):=rfl
def aO8:(E.kinds 76).getD 35 none=some 1:=aK
def aO9:(E.kinds 76).getD 36 none=some 1:=aK
def aO_(m:M)(a ae b af:Nat):(aT m a ae b af).set 35 (.i (.sl 1 (dS m.cD) false))=aT m a ae b af:=rfl
def aO'(m:M)(a ae b af:Nat):(aT m a ae b af).set 36 (.i (.sl 1 (b2 m.back) false))=aT {m with gl:=false} a ae b af:=rfl
def aPa(m:M)(a ae b af:Nat):eG 42 (aT m a ae b af)=[]:=rfl
def aPb(m:M)(g0 g1 X cH cr Y T K:U):eG 42 (mk m g0 g1 X cH cr Y T K)=[]:=rfl
def uC:=o @aPa (o @aPb (o @aO5 (o @aO6 (o @aO7 (o R3 (o R4 (o aO8 (o aO9 (o @aO_ @aO')))))))))
def LF:List U:=[.i (.v (.int .i64 (0))),.i (.v (.int .i64 (0))),.i (.sl 0 [] true),.i (.v (.int .i64 (0))),.i (.v (.int .i64 (0))),.i (.sl 0 [] true),.i (.v (.int .i64 (0))),.i (.v (.int .i64 (0))),.i (.v (.bool (false))),.i (.v (.int .i64 (0))),.i (.v (.int .i64 (0))),.i (.v (.bool (false))),.i (.v (.int .i64 (0))),.i (.v (.int .i64 (0))),.i (.v (.int .i64 (0))),.i (.v (.bool (false))),.i (.v (.int .u8 0)),.i (.v (.int .u8 0)),.i (.v (.int .i64 (0))),.i (.v (.int .i64 (0))),.i (.v (.int .i64 (0))),.i (.v (.int .i64 (0))),.i (.v (.bool (false))),.i (.v (.bool (false))),.i (.v (.bool (false))),.i (.v (.bool (false))),.i (.v (.bool (false))),.i (.v (.bool (false))),.i (.v (.bool (false))),.i (.v (.bool (false))),.i (.v (.int .u8 0)),.i (.v (.int .u8 0)),.i (.v (.int .i64 (0))),.i (.v (.int .i64 (0))),.i (.v (.int .i64 (0))),.i (.sl 0 [] true),.i (.sl 0 [] true),.i (.v (.int .i64 (0))),.i (.str []),.i (.str []),.i (.str []),.i (.str [])]
def oG{m:M}(hw:WP m)(s:List UInt8)(aR:s.length<5000):gv 8 [.agg (iw m),.i (.str s)] (.agg (iw (iR m s))):=by
 have hm:=hw.1;have ao:=λ H=>aO2 hm H
 have aH:=λ H=>aOR hm H
 obtain⟨bG,bC⟩:=QD hw.2;have bN:=λ H=>aGL m.bk R R s R H
 have aP:=hw.ahZ s;obtain⟨l,al⟩:∃l,(jd m.bk s).2=l:=⟨_,rfl⟩;obtain⟨q,bm⟩:∃q,(jd m.bk s).1=q:=⟨_,rfl⟩;have sn:l.length<100000:=by have:=(QC s (QD hw.2)).2;rw[←al];unfold jd;rw[LC hw.2];omega
 obtain⟨m2,gB⟩:∃m2,iR m s=m2:=⟨_,rfl⟩;have th:=hw.write s;rw[gB]at th⊢;unfold iR at gB;unfold KJ vV at bN;rw[al]at aP;rw[al,bm]at gB;rw[al,bm]at bN;have fj:=KI l;have aW:iw m=mk (m) (.i (.v (.int .i64 (m).w))) (.i (.v (.int .i64 (m).h))) (.i (.sl 1 (b2 m.G) false)) (.i (.v (.int .i64 (m).w))) (.i (.v (.int .i64 (m).h))) (.i (.sl 1 (b2 m.O) false)) (.i (.sl 1 (dS (m).cD) false)) (.i (.sl 1 (b2 (m).back) false)):=rfl;rw[aW]at ao aH⊢;refine bz JW ?_;simp(disch:=omega)only[ar,simprocAttr,FK,ns,sq,bQ,bV,bH,RJ,uC,ao,aH,bN,fj,show∀J H,fN E 0 8 (GW _) J H=G2 (norm [4,5,6,28,29,30] J) H from λ J H=>zN rfl aK aK aK aK J H];have q3:bi {m with gl:=false}:=hm.R7 m.bk false;have c':=aO0 (Z:=LF) (P:=[.i (.v (.int .i64 (q.bK))),.i (.str q.b4),.i (.str q.b0)]) (by simp[LF]) (by simp) l sn aP l.length 0 {m with gl:=false} 1 4 5 [.box (mk (m) (.i (.v (.int .i64 (m).w))) (.i (.v (.int .i64 (m).h))) (.i (.sl 1 (b2 (m).G) false)) (.i (.v (.int .i64 (m).w))) (.i (.v (.int .i64 (m).h))) (.i (.sl 1 (b2 (m).O) false)) (.i (.sl 1 (dS (m).cD) false)) (.i (.sl 1 (b2 (m).back) false))),.box LF,.az 5 0 0 (aX m.G),.az 5 0 0 (aX m.O),.box (aT {m with gl:=false} 2 0 3 0),.box [.i (.v (.int .i64 (q.bK))),.i (.str q.b4),.i (.str q.b0)]] R q3 ⟨2,0,3,0,0,0,rfl,rfl,rfl,by decide⟩ rfl rfl (by decide);rw[il,show((0:Nat):Int)=0 from rfl]at c';have gW:=bi.fold q3 aP;obtain⟨m1,j⟩:∃m1,l.foldl mC {m with gl:=false}=m1:=⟨_,rfl⟩;rw[j]at c' gW gB;simp only[LF,AS,cj]at c';rw[c'];have LX:∀H:aa,H[2]?=some (.az 5 0 0 (aX m1.G))→H[3]?=some (.az 5 0 0 (aX m1.O))→fC H (aT m2 2 0 3 0)=some (yu m2,(H.set 2 (.fd 0 (b2 m2.G))).set 3 (.fd 0 (b2 m2.O))):=by subst gB;intro H bY cJ;exact ahW rfl bY cJ (by decide) gW.G.1 gW.O.1
 have aPc:({m1 with gl:=false,bk:=⟨q.bK,q.b4,q.b0⟩}:M)=m2:=gB;simp(disch:=omega)only[ar,simprocAttr,FK,ns,sq,bQ,bV,bH,RJ,uC];rw[aPc,LX _ rfl rfl];simp(disch:=omega)only[ar,simprocAttr,FK,ns,sq,uC];exact⟨_,rfl⟩
def G3{m:M}(hw:WP m)(s:List UInt8)(aR:s.length<5000)(H:aa):cv 8 [.agg (iw m),.i (.str s)] H (.agg (iw (iR m s))):=gY rfl rfl rfl (oG hw s aR)
def aPd(r:List bl)(ah:r.length<100000):∀(n k:Nat),k+n=r.length→
  hV Cv 0 [(0,.i (.sl 5 (cg r) false)),(1,.i (.sl 5 (cg r) false)),(5,k)] [] 0 [(0,.i (.sl 5 (cg r) false)),(1,.i (.sl 5 (cg r) false)),(5,r.length),(14,false)] []:=by
 intro n;have al:=fq r;induction n with
 |zero=>intro k ay;obtain rfl:k=r.length:=R;refine(cM Cv 0).trans ?_;simp(disch:=omega)only[ar,simprocAttr,PI,cV,al]
 |succ n a8=>intro k ay;have fR:k<r.length:=R;have ak:=x3 (eX fR);refine ga ?_ (a8 (k+1) R);clear a8;refine(cM Cv 0).trans ?_;simp(disch:=omega)only[ar,simprocAttr,PI,cV,al,ak,afe,aeg]
def aPe(r:List bl)(ah:r.length<100000)(H:aa):cv 57 [.i (.sl 5 (cg r) false),.i (.sl 5 (cg r) false)] H true:=cu (by
 have e:=aPd r ah r.length 0 R;rw[show((0:Nat):Int)=0 from rfl]at e;have al:=fq r;refine bz Cv ?_;simp(disch:=omega)only[ar,simprocAttr,PI,cV,e,al,aeg];exact⟨_,rfl⟩)
def aPf(g:List (List bl))(aP:g.length<100000)(ah:∀r∈g,r.length<100000):∀(n k:Nat),k+n=g.length→
  hV Cp 0 [(0,.i (.sl 1 (b2 g) false)),(1,.i (.sl 1 (b2 g) false)),(5,k)] [] 0 [(0,.i (.sl 1 (b2 g) false)),(1,.i (.sl 1 (b2 g) false)),(5,g.length),(14,false)] []:=by
 intro n;have al:=gx g;induction n with
 |zero=>intro k ay;obtain rfl:k=g.length:=R;refine(cM Cp 0).trans ?_;simp(disch:=omega)only[ar,simprocAttr,PD,dM,cV,al]
 |succ n a8=>
  intro k ay;have fR:k<g.length:=R;have ak:=Ah (eX fR);have ao:=λ H=>aPe g[k] (ah _ (mL fR)) H
  refine ga ?_ (a8 (k+1) R);clear a8;refine(cM Cp 0).trans ?_;simp(disch:=omega)only[ar,simprocAttr,PD,dM,cV,al,ak,ao,aee]
def ah0(g:List (List bl))(aP:g.length<100000)(ah:∀r∈g,r.length<100000)(H:aa):cv 24 [.i (.sl 1 (b2 g) false),.i (.sl 1 (b2 g) false)] H true:=cu (by
 have e:=aPf g aP ah g.length 0 R;rw[show((0:Nat):Int)=0 from rfl]at e;have al:=gx g;refine bz Cp ?_;simp(disch:=omega)only[ar,simprocAttr,PD,dM,cV,e,al,aee];exact⟨_,rfl⟩)
def ah1(w h:Nat)(g:List (List bl))(aP:g.length<100000)(ah:∀r∈g,r.length<100000)(H:aa):cv 22 [.agg [w,h,.i (.sl 1 (b2 g) false)],.agg [w,h,.i (.sl 1 (b2 g) false)]] H true:=cu (by
 have e:=λ H=>ah0 g aP ah H
 refine bz acB ?_;simp(disch:=omega)only[ar,simprocAttr,aDW,dM,e];exact⟨_,rfl⟩)
def aPg(l:List Bool)(al:l.length<100000):∀(n k:Nat),k+n=l.length→
  hV Co 0 [(0,.i (.sl 1 (dS l) false)),(1,.i (.sl 1 (dS l) false)),(5,k)] [] 0 [(0,.i (.sl 1 (dS l) false)),(1,.i (.sl 1 (dS l) false)),(5,l.length),(14,false)] []:=by
 intro n;have sn:=l2 l;induction n with
 |zero=>intro k ay;obtain rfl:k=l.length:=R;refine(cM Co 0).trans ?_;simp(disch:=omega)only[ar,simprocAttr,PC,eO,sn]
 |succ n a8=>
  intro k ay;have fR:k<l.length:=R;have ak:(dS l)[k]?=some [.v (.bool l[k])]:=by simp[dS,fR]
  refine ga ?_ (a8 (k+1) R);clear a8;cases aPh:l[k]<;>
  ·rw[aPh]at ak;refine(cM Co 0).trans ?_;simp(disch:=omega)only[ar,simprocAttr,PC,eO,sn,ak,aed]
def aPi(l:List Bool)(al:l.length<100000)(H:aa):cv 23 [.i (.sl 1 (dS l) false),.i (.sl 1 (dS l) false)] H true:=cu (by
 have e:=aPg l al l.length 0 R;rw[show((0:Nat):Int)=0 from rfl]at e;have sn:=l2 l;refine bz Co ?_;simp(disch:=omega)only[ar,simprocAttr,PC,eO,e,sn,aed];exact⟨_,rfl⟩)
def aPj(r c:Int)(p:Bool):jS Tryz.prog .neq 30 (.agg [.i (.v (.int .i64 r)),.i (.v (.int .i64 c)),.i (.v (.bool p))]) (.agg [.i (.v (.int .i64 r)),.i (.v (.int .i64 c)),.i (.v (.bool p))])=some (.i (.v (.bool false))):=by rw[FD];simp[iS,xL,xJ,xK,oc,o1,ob,qt,U.bool]
def aPk(r c:Int)(p:Bool)(x y z:Int)(g:Bool)(s t u:Int):jS Tryz.prog .neq 35 (.agg [.i (.v (.int .i64 r)),.i (.v (.int .i64 c)),.i (.v (.bool p)),.i (.v (.int .i64 x)),.i (.v (.int .i64 y)),.i (.v (.int .i64 z)),.i (.v (.bool g)),.i (.v (.int .u8 s)),.i (.v (.int .u8 t)),.i (.v (.int .i64 u))]) (.agg [.i (.v (.int .i64 r)),.i (.v (.int .i64 c)),.i (.v (.bool p)),.i (.v (.int .i64 x)),.i (.v (.int .i64 y)),.i (.v (.int .i64 z)),.i (.v (.bool g)),.i (.v (.int .u8 s)),.i (.v (.int .u8 t)),.i (.v (.int .i64 u))])=some (.i (.v (.bool false))):=by rw[FD];simp[iS,xL,xJ,xK,oc,o1,ob,qt,U.bool]
def aPl(x y z:Int):jS Tryz.prog .neq 32 (.agg [.i (.v (.int .i64 x)),.i (.v (.int .i64 y)),.i (.v (.int .i64 z))]) (.agg [.i (.v (.int .i64 x)),.i (.v (.int .i64 y)),.i (.v (.int .i64 z))])=some (.i (.v (.bool false))):=by rw[FD];simp[iS,xL,xJ,xK,oc,o1,ob,qt,U.bool]
def aPm(a b c d e f g h:Bool)(x y z:Int):jS Tryz.prog .neq 37 (.agg [.i (.v (.bool a)),.i (.v (.bool b)),.i (.v (.bool c)),.i (.v (.bool d)),.i (.v (.bool e)),.i (.v (.bool f)),.i (.v (.bool g)),.i (.v (.bool h)),.i (.v (.int .u8 x)),.i (.v (.int .u8 y)),.i (.v (.int .i64 z))]) (.agg [.i (.v (.bool a)),.i (.v (.bool b)),.i (.v (.bool c)),.i (.v (.bool d)),.i (.v (.bool e)),.i (.v (.bool f)),.i (.v (.bool g)),.i (.v (.bool h)),.i (.v (.int .u8 x)),.i (.v (.int .u8 y)),.i (.v (.int .i64 z))])=some (.i (.v (.bool false))):=by rw[FD];simp[iS,xL,xJ,xK,oc,o1,ob,qt,U.bool]
def aPn(x:Int)(y z:List UInt8):jS Tryz.prog .eql 40 (.agg [.i (.v (.int .i64 x)),.i (.str y),.i (.str z)]) (.agg [.i (.v (.int .i64 x)),.i (.str y),.i (.str z)])=some (.i (.v (.bool true))):=by rw[Wz];simp[iS,xL,xJ,xK,oc,o1,ob,qt,U.bool]
def aPo{m:M}(hm:bi m)(H:aa):cv 9 [.agg (iw m),.agg (iw m)] H true:=cu (by
 have hw:=hm.w;have aN:=hm.h;have k3:=hm.G;have qi:=hm.O;have cJ:=hm.back;have dn:=hm.cD;have ao:=λ H=>ah1 m.w m.h m.G R (λ r ah=>by have:=(k3.2 r ah).1;omega) H
 have aH:=λ H=>ah1 m.w m.h m.O R (λ r ah=>by have:=(qi.2 r ah).1;omega) H
 have bN:=λ H=>aPi m.cD R H
 have c':=λ H=>ah0 m.back R (λ r ah=>by have:=cJ.2 r ah;omega) H
 unfold iw;refine bz acw ?_;simp(disch:=omega)only[ar,simprocAttr,aDR,dM,eO,sq,uC,ao,aH,bN,c',aPj,aPk,aPl,aPm];exact⟨_,rfl⟩)
structure ee (h:bl→bl):Prop where
 w:∀c,(h c).w=c.w
 a:∀c,(h c).a=c.a
 i:∀c,h (h c)=h c
 b:∀a7,h (qh a7)=qh a7
 c:∀a,h (cont a)=cont a
 m:∀r a c,h (l4 r a (h c))=h (l4 r a c)
section
variable{h:bl→bl}(aN:ee h)
include aN
def ee.AT(l:List bl):(l.map h).map h=l.map h:=by
 rw[vH];exact zn λ c _=>aN.i c
def ee.qm(n:Nat)(a7:Int):(dB n a7).map h=dB n a7:=by simp[dB,aN.b]
def ee.pE(l:List bl)(k:Nat):(c9 l k).map h=c9 (l.map h) k:=by
 unfold c9;rw[fw];cases e:l[k]? with
 |none=>rfl
 |some c=>
  simp only[en,aN.w,aN.a];split
  ·simp only[uo,aN.b]
  ·rfl
def ee.bh(l:List bl)(c:Nat):∀n,(iq l c n).map h=iq (l.map h) c n
 |0=>rfl
 |n+1=>by rw[iq,iq,aN.pE,ee.bh l c n]
def ee.fix(l:List bl):(l1 l).map h=l1 (l.map h):=by
 unfold l1;rw[fw,nM];cases e:l[l.length-1]? with
 |none=>rfl
 |some c=>
  simp only[en,aN.w,aN.a];split
  ·simp only[uo,aN.b]
  ·rfl
def ee.ins(l:List bl)(c n:Nat)(a:ed):(mz l c n a).map h=mz (l.map h) c n a:=by unfold mz Ai;rw[aN.fix];simp only[rf,vZ,sk,aN.pE,aN.qm,nM]
def ee.del(l:List bl)(c n:Nat)(a:ed):(oS l c n a).map h=oS (l.map h) c n a:=by unfold oS;simp only[rf,vZ,sk,aN.pE,aN.qm,nM]
def ee.era(l:List bl)(p q:Nat)(a:ed):(pD l p q a).map h=pD (l.map h) p q a:=by
 unfold pD;split
 ·rfl
 ·simp only[rf,vZ,sk,aN.pE,aN.qm]
def ee.put(l:List bl)(c:Nat)(t:List Int)(w:Int)(a:ed):(oR l c t w a).map h=(oR (l.map h) c t w a).map h:=by unfold oR;split<;>simp only[uo,aN.bh,aN.AT]
def eQ(h:bl→bl)(g:List (List bl)):List (List bl):=g.map (List.map h)
def ee.d_(g:List (List bl)):eQ h (eQ h g)=eQ h g:=by
 unfold eQ;rw[vH];exact zn λ l _=>aN.AT l
def ee.ah2(w:Nat)(a7:Int)(p q:Nat)(g:List (List bl)):eQ h (h' w a7 p q g)=h' w a7 p q (eQ h g):=by simp only[eQ,h',rf,vZ,sk,List.map_replicate,aN.qm]
def ee.up(w:Nat)(a7:Int)(p q k:Nat)(g:List (List bl)):eQ h (ri w a7 p q k g)=ri w a7 p q k (eQ h g):=by simp only[eQ,ri,rf,vZ,sk,List.map_replicate,aN.qm]
def ee.aPp(w:Nat)(a7:Int)(p q k:Nat)(g:List (List bl)):eQ h (rj w a7 p q k g)=rj w a7 p q k (eQ h g):=by simp only[eQ,rj,rf,vZ,sk,List.map_replicate,aN.qm]
def ee.yg(w:Nat)(a7:Int)(p q:Nat)(k:Int)(g:List (List bl)):eQ h (ql w a7 p q k g)=ql w a7 p q k (eQ h g):=by
 unfold ql;split
 ·exact aN.up ..
 ·exact aN.aPp ..
def ah3(p:Nat)(k:Int)(g:List (List bl)):eQ h (je p k g)=je p k (eQ h g):=by
 unfold je rk eQ;split
 ·simp only[vZ,sk]
 ·rfl
def ah4(b ai:List (List bl)):eQ h (tc b ai)=tc (eQ h b) (eQ h ai):=by simp only[tc,uq,eQ,sk,rf,dp,nM]
def dG(h:bl→bl)(m:M):M:={m with G:=eQ h m.G,O:=eQ h m.O,back:=eQ h m.back,bk:=⟨0,[],[]⟩,gl:=false}
def k5{x y:M}(j:eQ h x.G=eQ h y.G)(I:eQ h x.O=eQ h y.O)(av:eQ h x.back=eQ h y.back)(ba:(x.w,x.h,x.aF,x.bO,x.a,x.md,x.cA,x.b7,x.cD,x.eK,x.ds)=(y.w,y.h,y.aF,y.bO,y.a,y.md,y.cA,y.b7,y.cD,y.eK,y.ds)):dG h x=dG h y:=by obtain⟨⟩:=x;obtain⟨⟩:=y;simp only[bw]at ba;simp only[dG]at*;simp[j,I,av,ba]
def er(h:bl→bl)(f:M→M):Prop:=∀m,dG h (f m)=dG h (f (dG h m))
def er.comp{f g:M→M}(aI:er h f)(aP:er h g):er h λ m=>f (g m):=λ m=>by rw[aI (g m),aP m,←aI]
def du{c:Prop} [Decidable c]{a b bW bR:M}(j:dG h a=dG h bW)(I:dG h b=dG h bR):dG h (if c then a else b)=dG h (if c then bW else bR):=by split<;>assumption
def AU(m:M):fs (dG h m)=(fs m).map h:=by show(eQ h m.G).getD m.aF.r.toNat []=(m.G.getD m.aF.r.toNat []).map h;simp only[eQ,oF,fw];cases m.G[m.aF.r.toNat]?<;>rfl
def LG(g:List (List bl))(k:Nat)(r:List bl):eQ h (g.set k r)=(eQ h g).set k (r.map h):=by simp[eQ,uo]
include aN
def ee.l6:er h λ m=>m:=λ m=>k5 (aN.d_ _).symm (aN.d_ _).symm (aN.d_ _).symm rfl
def ee.cells{f:M→M}(j:∀m,(f m).G=m.G∧(f m).O=m.O∧(f m).back=m.back)(I:∀m,((f m).w,(f m).h,(f m).aF,(f m).bO,(f m).a,(f m).md,(f m).cA,(f m).b7,(f m).cD,(f m).eK,(f m).ds)=((f (dG h m)).w,(f (dG h m)).h,(f (dG h m)).aF,(f (dG h m)).bO,(f (dG h m)).a,(f (dG h m)).md,(f (dG h m)).cA,(f (dG h m)).b7,(f (dG h m)).cD,(f (dG h m)).eK,(f (dG h m)).ds)):er h f:=λ m=>by obtain⟨hs,a2,a3⟩:=j m;obtain⟨fe,dz,Iv⟩:=j (dG h m);exact k5 (by rw[hs,fe];exact(aN.d_ _).symm) (by rw[a2,dz];exact(aN.d_ _).symm) (by rw[a3,Iv];exact(aN.d_ _).symm) (I m)
def ee.uu{f:M→List bl}{u:M→fW}(j:∀m,(f m).map h=(f (dG h m)).map h)(I:∀m,u m=u (dG h m)):er h λ m=>{m with aF:=u m,G:=m.G.set m.aF.r.toNat (f m)}:=λ m=>by
 refine k5 ?_ (aN.d_ _).symm (aN.d_ _).symm ?_
 ·show eQ h (m.G.set m.aF.r.toNat (f m))=eQ h ((eQ h m.G).set m.aF.r.toNat (f (dG h m)));rw[LG,LG,aN.d_,j]
 ·show(m.w,m.h,u m,m.bO,m.a,m.md,m.cA,m.b7,m.cD,m.eK,m.ds)=(m.w,m.h,u (dG h m),m.bO,m.a,m.md,m.cA,m.b7,m.cD,m.eK,m.ds);rw[I]
def ee.we(p q:Nat):er h λ m=>yi m p q:=
 aN.uu (f:=λ m=>pD (fs m) p q m.a) (u:=λ m=>{m.aF with p:=false}) (λ m=>by rw[AU,aN.era,aN.era,aN.AT];rfl) (λ _=>rfl)
def ee.Gx(ins:Bool)(n:Nat):er h λ m=>sp m ins n:=
 aN.uu (f:=λ m=>if ins=true then mz (fs m) m.aF.c.toNat n m.a else oS (fs m) m.aF.c.toNat n m.a) (u:=λ m=>{m.aF with p:=false}) (λ m=>by
  split
  ·rw[AU,aN.ins,aN.ins,aN.AT];rfl
  ·rw[AU,aN.del,aN.del,aN.AT];rfl) (λ _=>rfl)
def ee.tf(n:Int):er h λ m=>tf m n:=λ m=>by
 refine du ?_ (du ?_ (du ?_ (aN.l6 m)))
 ·exact aN.we m.aF.c.toNat m.w m
 ·exact aN.we 0 (m.aF.c.toNat+1) m
 ·exact aN.we 0 m.w m
def ee.Ld{f:M→List (List bl)}(j:∀m,eQ h (f m)=eQ h (f (dG h m))):er h λ m=>{m with G:=f m}:=λ m=>k5 (j m) (aN.d_ _).symm (aN.d_ _).symm rfl
def ee.rows(p q:Nat):er h λ m=>Av m p q:=aN.Ld (f:=λ m=>h' m.w m.a.a7 p q m.G) λ m=>by show eQ h (h' m.w m.a.a7 p q m.G)=eQ h (h' m.w m.a.a7 p q (eQ h m.G));rw[aN.ah2,aN.ah2,aN.d_]
def ee.uv(n:Int):er h λ m=>uv m n:=λ m=>by
 refine du ?_ (du ?_ (du ?_ (du ?_ (aN.l6 m))))
 ·exact aN.rows (m.aF.r.toNat+1) m.h m
 ·exact aN.rows 0 m.aF.r.toNat m
 ·exact aN.rows 0 m.h m
 ·exact k5 (aN.d_ _).symm (aN.d_ _).symm rfl rfl
def ee.yj(n:Int):er h λ m=>yj m n:=er.comp (aN.tf n) (aN.uv n)
def ee.k2(k:Bool){fr hG:M→Int}(j:∀m,fr m=fr (dG h m))(I:∀m,hG m=hG (dG h m)):er h λ m=>k2 m (fr m) (hG m) k:=λ m=>by
 refine k5 ?_ (aN.d_ _).symm ?_ rfl
 ·show eQ h (ql m.w m.a.a7 (fr m).toNat m.b7.toNat (eH (hG m) (-(m.b7-fr m)) (m.b7-fr m)) m.G)=eQ h (ql m.w m.a.a7 (fr (dG h m)).toNat m.b7.toNat (eH (hG (dG h m)) (-(m.b7-fr (dG h m))) (m.b7-fr (dG h m))) (eQ h m.G));rw[←j,←I,aN.yg,aN.yg,aN.d_]
 ·show eQ h (if k &&(decide (m.cA=0) &&!m.md.fJ)then tc m.back (je (fr m).toNat (eH (hG m) (-(m.b7-fr m)) (m.b7-fr m)) m.G)else m.back)=eQ h (if k &&(decide (m.cA=0) &&!m.md.fJ)then tc (eQ h m.back) (je (fr (dG h m)).toNat (eH (hG (dG h m)) (-(m.b7-fr (dG h m))) (m.b7-fr (dG h m))) (eQ h m.G))else eQ h m.back);rw[←j,←I];split
  ·rw[ah4,ah4,ah3,ah3,aN.d_,aN.d_]
  ·exact(aN.d_ _).symm
def ee.aF{u:M→fW}(j:∀m,u m=u (dG h m)):er h λ m=>{m with aF:=u m}:=λ m=>k5 (aN.d_ _).symm (aN.d_ _).symm (aN.d_ _).symm (by
 show(m.w,m.h,u m,m.bO,m.a,m.md,m.cA,m.b7,m.cD,m.eK,m.ds)=(m.w,m.h,u (dG h m),m.bO,m.a,m.md,m.cA,m.b7,m.cD,m.eK,m.ds);rw[j])
def ee.feed:er h mA:=λ m=>by
 refine du ?_ ?_
 ·exact(er.comp (aN.k2 true (fr:=λ m=>m.cA) (hG:=λ _=>1) (λ _=>rfl) (λ _=>rfl)) (aN.aF (u:=λ m=>(oT m.aF (cf m)).1) λ _=>rfl)) m
 ·exact aN.aF (u:=λ m=>(oT m.aF (cf m)).1) (λ _=>rfl) m
def ee.rev:er h GK:=λ m=>by
 refine du ?_ ?_
 ·exact(er.comp (aN.k2 false (fr:=λ m=>m.cA) (hG:=λ _=>-1) (λ _=>rfl) (λ _=>rfl)) (aN.aF (u:=λ m=>(rm m.aF (cf m)).1) λ _=>rfl)) m
 ·exact aN.aF (u:=λ m=>(rm m.aF (cf m)).1) (λ _=>rfl) m
def ee.l5:er h mW:=aN.aF (u:=λ m=>{m.aF with c:=0,p:=false}) λ _=>rfl
def ee.GX(n:Int):er h λ m=>uy m n:=λ m=>by refine du ?_ (aN.l6 m);exact(er.comp aN.l5 (aN.k2 false (fr:=λ m=>m.aF.r) (hG:=λ _=>n) (λ _=>rfl) (λ _=>rfl))) m
def ee.R8(f:List Bool→Int→Int):∀k,er h λ m=>nz f k m
 |0=>aN.l6
 |k+1=>λ m=>(er.comp (ee.R8 f k) (aN.aF (u:=λ m=>{m.aF with c:=f m.cD m.aF.c,p:=false}) λ _=>rfl)) m
def ee.Rh(n:Int):er h λ m=>Aw m n:=λ m=>by
 refine du ?_ (du ?_ (aN.l6 m))
 ·exact k5 (aN.d_ _).symm (aN.d_ _).symm (aN.d_ _).symm rfl
 ·exact k5 (aN.d_ _).symm (aN.d_ _).symm (aN.d_ _).symm rfl
def ee.Rj(n:Int):er h λ m=>Ax m n:=λ m=>by refine du ?_ (aN.l6 m);exact k5 (aN.d_ _).symm (aN.d_ _).symm (aN.d_ _).symm rfl
def ee.Rl(l:List Int):er h λ m=>Dp m l:=λ m=>by refine du ?_ (aN.l6 m);exact k5 (aN.d_ _).symm (aN.d_ _).symm (aN.d_ _).symm rfl
def ee.GJ:er h DB:=λ m=>k5 (aN.d_ _).symm (aN.d_ _).symm (aN.d_ _).symm rfl
def ee.DD:er h yn:=λ m=>k5 (aN.d_ _).symm (aN.d_ _).symm (aN.d_ _).symm rfl
def ee.md{u:M→k1}(j:∀m,u m=u (dG h m)):er h λ m=>{m with md:=u m}:=λ m=>k5 (aN.d_ _).symm (aN.d_ _).symm (aN.d_ _).symm (by
 show(m.w,m.h,m.aF,m.bO,m.a,u m,m.cA,m.b7,m.cD,m.eK,m.ds)=(m.w,m.h,m.aF,m.bO,m.a,u (dG h m),m.cA,m.b7,m.cD,m.eK,m.ds);rw[j])
end
section
variable{h:bl→bl}(aN:ee h)
include aN
def ee.ic:er h GI:=λ m=>du (aN.l5 m) (aN.l6 m)
def ee.Rz(c:Int):er h λ m=>Dy m c:=λ m=>by
 refine du ?_ (du ?_ (du ?_ (du ?_ (du ?_ (du ?_ (aN.l6 m))))))
 ·exact aN.aF (u:=λ m=>mV m.aF (-1) (cf m)) (λ _=>rfl) m
 ·exact aN.aF (u:=λ m=>{m.aF with c:=n8 m.cD m.aF.c,p:=false}) (λ _=>rfl) m
 ·exact(er.comp aN.ic aN.feed) m
 ·exact aN.l5 m
 ·exact aN.md (u:=λ m=>{m.md with dI:=1}) (λ _=>rfl) m
 ·exact aN.md (u:=λ m=>{m.md with dI:=0}) (λ _=>rfl) m
def ee.getD(l:List bl)(k:Nat)(a:ed):(l.map h).getD k (cont a)=h (l.getD k (cont a)):=by
 simp only[oF,fw];cases l[k]? with
 |none=>exact(aN.c a).symm
 |some c=>rfl
def ee.hj(m:M):Go.VI.hj (dG h m)=Go.VI.hj m:=by unfold Go.VI.hj;rw[AU];show(if 0≤hN m∧(((fs m).map h).getD (hN m).toNat (cont m.a)).w=0 then hN m-1 else hN m)=_;rw[aN.getD,aN.w]
def ee.mark(r:Int):er h λ m=>ru m r:=λ m=>by show dG h (ru m r)=dG h (ru (dG h m) r);unfold ru;rw[aN.hj m];refine du (aN.l6 m) ?_;refine k5 ?_ (aN.d_ _).symm (aN.d_ _).symm rfl;show eQ h (m.G.set m.aF.r.toNat ((fs m).set (Go.VI.hj m).toNat (l4 r m.a ((fs m).getD (Go.VI.hj m).toNat (cont m.a)))))=eQ h ((eQ h m.G).set m.aF.r.toNat ((fs (dG h m)).set (Go.VI.hj m).toNat (l4 r m.a ((fs (dG h m)).getD (Go.VI.hj m).toNat (cont m.a)))));rw[AU,aN.getD,LG,LG,aN.d_,uo,uo,aN.AT,aN.m]
def ee.yl:er h qo:=λ m=>du ((er.comp aN.feed aN.l5) m) (aN.l6 m)
def ee.wk:er h wk:=aN.aF (u:=λ m=>{m.aF with p:=false}) λ _=>rfl
def ee.hY(w:Int):er h λ m=>uw m w:=λ m=>by refine du (du ((er.comp aN.feed aN.l5) m) ?_) (aN.l6 m);exact aN.aF (u:=λ m=>{m.aF with c:=m.w-w,p:=false}) (λ _=>rfl) m
def ee.Lm(w:Int):er h λ m=>wj m w:=λ m=>by refine du ?_ (aN.l6 m);exact aN.uu (f:=λ m=>mz (fs m) m.aF.c.toNat w.toNat m.a) (u:=λ m=>m.aF) (λ m=>by rw[AU,aN.ins,aN.ins,aN.AT];rfl) (λ _=>rfl) m
def ee.Rr(r w:Int):er h λ m=>AB m r w:=
 aN.uu (f:=λ m=>oR (fs m) m.aF.c.toNat [r] w m.a) (u:=λ m=>m.aF) (λ m=>by rw[AU,aN.put];rfl) (λ _=>rfl)
def ee.Rs(w:Int):er h λ m=>GF m w:=λ m=>by
 refine du ?_ ?_
 ·exact aN.aF (u:=λ m=>{m.aF with c:=m.w-1,p:=m.md.wr}) (λ _=>rfl) m
 ·exact aN.aF (u:=λ m=>{m.aF with c:=m.aF.c+w}) (λ _=>rfl) m
def ee.Rt(r:Int):er h λ m=>Dw m r:=λ m=>by refine du (aN.l6 m) (du (aN.mark r m) ?_);exact(er.comp (aN.Rs (wid r)) (er.comp (aN.Rr r (wid r)) (er.comp (aN.Lm (wid r)) (er.comp (aN.hY (wid r)) (er.comp aN.wk aN.yl))))) m
def ee.RI(s:List UInt8)(c:Int):er h λ m=>DE m s c:=λ m=>by
 refine du ?_ (du (aN.GJ m) (du (aN.DD m) (du ((er.comp aN.feed aN.l5) m) (du (aN.feed m) (du (aN.rev m) (du ?_ (du ?_ (aN.l6 m))))))))
 ·exact aN.md (u:=λ m=>pH m.md s c) (λ _=>rfl) m
 ·exact k5 (aN.d_ _).symm (aN.d_ _).symm (aN.d_ _).symm rfl
 ·exact k5 rfl rfl rfl rfl
def ee.mod(p n:Int)(on:Bool):er h λ m=>DC m p n on:=λ m=>by
 refine du ?_ (du ?_ (du ?_ (du (du ?_ ?_) ?_)))
 ·exact aN.md (u:=λ m=>g_ p on m.md n) (λ _=>rfl) m
 ·exact k5 (aN.d_ _).symm (aN.d_ _).symm (aN.d_ _).symm rfl
 ·exact aN.md (u:=λ m=>g_ p on m.md n) (λ _=>rfl) m
 ·exact k5 rfl (aN.d_ _).symm (aN.d_ _).symm rfl
 ·exact k5 (aN.d_ _).symm (aN.d_ _).symm (aN.d_ _).symm rfl
 ·exact k5 (aN.d_ _).symm (aN.d_ _).symm (aN.d_ _).symm rfl
def ee.uA(v:Int)(on:Bool):∀l,er h λ m=>uA m v on l
 |[]=>aN.l6
 |n::l=>er.comp (ee.uA v on l) (aN.mod v n on)
def ee.RS(c:Int)(l:List Int):er h λ m=>yp m c l:=λ m=>by
 have Aj:∀n,dG h {m with aF:=ir m.aF n (cf m)}=dG h {dG h m with aF:=ir (dG h m).aF n (cf (dG h m))}:=λ n=>aN.aF (u:=λ m=>ir m.aF n (cf m)) (λ _=>rfl) m
 have aV:∀n,dG h {m with aF:=mV m.aF n (cf m)}=dG h {dG h m with aF:=mV (dG h m).aF n (cf (dG h m))}:=λ n=>aN.aF (u:=λ m=>mV m.aF n (cf m)) (λ _=>rfl) m
 have C:∀n,dG h (AK m n)=dG h (AK (dG h m) n):=λ n=>aN.aF (u:=λ m=>x_ ⟨m.aF.r,n-1,false⟩ (cf m)) (λ _=>rfl) m
 have T:=aN.aF (u:=λ m=>⟨toR (bU l 0 1) (cf m),k0 (bU l 1 1) (cf m),false⟩) (λ _=>rfl) m;refine du (aN.Gx true _ m)<|du (Aj _)<|du (Aj _)<|du (aV _)<|du (aV _)<|du ?_<|du ?_<|du (C _)<|du T<|du (aN.R8 _ _ m)<|du (aN.yj _ m)<|du (aN.tf _ m)<|du (aN.GX _ m)<|du (aN.GX _ m)<|du (aN.Gx false _ m)<|du ?_<|du ?_<|du ?_<|du (aN.R8 _ _ m)<|du (C _)<|du (aV _)<|du ?_<|du (Aj _)<|du T<|du (aN.Rh _ m)<|du (aN.Rj _ m)<|du (aN.Rl l m)<|du (aN.GJ m)<|du (aN.DD m) (aN.l6 m)
 ·exact(er.comp aN.l5 (aN.aF (u:=λ m=>ir m.aF (0-bU l 0 1) (cf m)) λ _=>rfl)) m
 ·exact(er.comp aN.l5 (aN.aF (u:=λ m=>ir m.aF (bU l 0 1) (cf m)) λ _=>rfl)) m
 ·exact aN.k2 true (fr:=λ m=>m.cA) (hG:=λ _=>bU l 0 1) (λ _=>rfl) (λ _=>rfl) m
 ·exact aN.k2 false (fr:=λ m=>m.cA) (hG:=λ _=>0-bU l 0 1) (λ _=>rfl) (λ _=>rfl) m
 ·exact aN.we m.aF.c.toNat (min (m.aF.c+bU l 0 1) m.w).toNat m
 ·exact aN.aF (u:=λ m=>⟨toR (bU l 0 1) (cf m),k0 (m.aF.c+1) (cf m),false⟩) (λ _=>rfl) m
def ee.seq(s:List UInt8)(v:Int)(bk:List Int)(c:Int):er h λ m=>DK m s v bk c:=λ m=>by refine du (aN.l6 m) (du (aN.uA v _ bk m) (du (aN.l6 m) (du ?_ (aN.RS c bk m))));exact k5 (aN.d_ _).symm (aN.d_ _).symm (aN.d_ _).symm rfl
def ee.mC(e:dt):er h λ m=>mC m e:=λ m=>by refine du (aN.Rt _ m) (du (aN.Rz _ m) (du (aN.RI _ _ m) (du (aN.seq _ _ _ _ m) (du ?_ (aN.l6 m)))));exact k5 (aN.d_ _).symm (aN.d_ _).symm (aN.d_ _).symm rfl
def ee.fold:∀(l:List dt),er h λ m=>l.foldl Go.VI.mC m
 |[]=>aN.l6
 |e::l=>er.comp (ee.fold l) (aN.mC e)
def ee.rB(l:List dt){m bZ:M}(e:dG h m=dG h bZ):dG h (l.foldl Go.VI.mC m)=dG h (l.foldl Go.VI.mC bZ):=by rw[aN.fold l m,aN.fold l bZ,e]
end
def LH:ee id:=⟨λ _=>rfl,λ _=>rfl,λ _=>rfl,λ _=>rfl,λ _=>rfl,λ _ _ _=>rfl⟩
def aPq(g:List (List bl)):eQ id g=g:=by simp[eQ]
def aPr{m bZ:M}(e:dG id m=dG id bZ)(au:m.bk=bZ.bk)(aj:m.gl=bZ.gl):m=bZ:=by obtain⟨⟩:=m;obtain⟨⟩:=bZ;simp only at au aj;simp only[dG,aPq,M.mk.injEq]at e;simp[e,au,aj]
def R9(h:bl→bl)(aN:ee h)(m:M)(s:List UInt8):dG h (iR m s)=dG h ((jd m.bk s).2.foldl mC m):=
 (show dG h (iR m s)=dG h ((jd m.bk s).2.foldl mC {m with gl:=false})from rfl).trans (aN.rB _ rfl)
def aPs(m:M)(a b:List UInt8):iR (iR m a) b=iR m (a++b):=by
 have aI:=aM6 m.bk a b;refine aPr ?_ ?_ rfl
 ·rw[R9 id LH,R9 id LH,aI];show dG id ((jd (jd m.bk a).1 b).2.foldl mC (iR m a))=_;rw[List.foldl_append];exact LH.rB _ (R9 id LH m a)
 ·show(jd (jd m.bk a).1 b).1=(jd m.bk (a++b)).1;rw[aI]
def WP.new{w h:Nat}(hw:1≤w∧w≤132)(aN:1≤h∧h≤60):WP (jf w h):=⟨bi.new hw aN,rfl⟩
def ah5{m:M}{a b:Nat}{H:aa}(hm:bi m)(aj:m.gl=false)(bY:H[a]?=some (.az 5 0 0 (aX m.G)))(cJ:H[b]?=some (.az 5 0 0 (aX m.O)))(cS:a≠b):fC H (aT m a 0 b 0)=some (yu m,(H.set a (.fd 0 (b2 m.G))).set b (.fd 0 (b2 m.O))):=ahW aj bY cJ cS hm.G.1 hm.O.1
def ah6(w h:Nat)(hw:1≤w∧w≤132)(aN:1≤h∧h≤60)(H:aa):cn 7 [w,h] H (.bd [.agg (aT (jf w h) H.length 0 (H.length+1) 0),↑(0:Int)]) (H++[.az 5 0 0 (aX (jf w h).G),.az 5 0 0 (aX (jf w h).O)]):=agH w h hw aN H
def ah7{m:M}(h:m.gl=false):({m with gl:=false}:M)=m:=by obtain⟨⟩:=m;simp only at h;subst h;rfl
def aPt:(iR (iR (jf 3 1) [97,27,91]) [67,98]).G=[[⟨[97],1,⟨-1,-1,0⟩⟩,⟨[32],1,⟨-1,-1,0⟩⟩,⟨[98],1,⟨-1,-1,0⟩⟩]]:=aK
def R_(H:aa):cv 6 [] H true:=cu (by
 have ao:=λ H=>ah6 3 1 (by decide) (by decide) H
 rw[show((3:Nat):Int)=3 from rfl,show((1:Nat):Int)=1 from rfl]at ao;have hw:=WP.new (w:=3) (h:=1) (by decide) (by decide);have aP:=aPt;have aj:(jf 3 1).gl=false:=rfl;obtain⟨N,lk⟩:∃N,jf 3 1=N:=⟨_,rfl⟩;rw[lk]at ao hw aP aj;have aH:=λ H=>G3 hw [97,27,91] (by decide) H
 have th:=hw.write [97,27,91];obtain⟨R',Gi⟩:∃R',iR N [97,27,91]=R':=⟨_,rfl⟩;rw[Gi]at aH th aP;have bN:=λ H=>G3 th [67,98] (by decide) H
 obtain⟨Sa,aPu⟩:∃Sa,iR R' [67,98]=Sa:=⟨_,rfl⟩;rw[aPu]at bN aP;have ah8:b2 Sa.G=[[.sl 5 [[.str [97],.v (.int .i64 1),.v (.int .i64 (-1)),.v (.int .i64 (-1)),.v (.int .i64 0)],[.str [32],.v (.int .i64 1),.v (.int .i64 (-1)),.v (.int .i64 (-1)),.v (.int .i64 0)],[.str [98],.v (.int .i64 1),.v (.int .i64 (-1)),.v (.int .i64 (-1)),.v (.int .i64 0)]] false]]:=by rw[aP];rfl
 simp only[iw]at aH bN;refine bz acs ?_;simp(disch:=omega)only[ar,simprocAttr,acu,dM,cV,sq,bQ,bV,bH,uC,ao,aH,bN,ah8,c8];rw[ah7 aj,ah5 hw.1 aj rfl rfl (by decide)];simp(disch:=omega)only[ar,simprocAttr,acu,dM,cV,sq,bQ,bV,bH,uC,ao,aH,bN,ah8,c8];exact⟨_,rfl⟩)
def Sb(m:M):∀a∈iw m,∃x,a=.i x:=by intro a aA;rw[←ahU]at aA;obtain⟨x,_,rfl⟩:=Fa.1 aA;exact⟨x,rfl⟩
def aPv{m:M}{a b:Nat}{H:aa}(aj:m.gl=false)(bY:H[a]?=some (.fd 0 (b2 m.G)))(cJ:H[b]?=some (.fd 0 (b2 m.O)))(k3:m.G.length=m.h)(qi:m.O.length=m.h):ey 0 H (aT m a 0 b 0)=iw m:=by
 have ao:((b2 m.G).drop 0).take m.h=b2 m.G:=by rw[il,s7 (by rw[gx];omega)]
 have aH:((b2 m.O).drop 0).take m.h=b2 m.O:=by rw[il,s7 (by rw[gx];omega)]
 simp only[aT,ey,el,cN.c,q8,if_false,bY,cJ,WQ,if_true,ao,aH,aj];rfl
def ah9{t u:M}{c d:Nat}{C:List U}{H:aa}(ag:H[c]?=some (.box C))(j:ey 0 H C=iw t)(aM:H[d]?=some (.box (iw u)))(e2:c≠d)(x y z v:aC):o8 0 [(5,.ptr (c) 0 0 0),(7,.ptr (d) 0 0 0),(8,.i x),(45,.i y),(46,.i z),(47,.i v)] H=([(5,.ptr (0) 0 0 0),(7,.ptr (1) 0 0 0),(8,.i x),(45,.i y),(46,.i z),(47,.i v)],[.box (mk (t) (.i (.v (.int .i64 (t).w))) (.i (.v (.int .i64 (t).h))) (.i (.sl 1 (b2 (t).G) false)) (.i (.v (.int .i64 (t).w))) (.i (.v (.int .i64 (t).h))) (.i (.sl 1 (b2 (t).O) false)) (.i (.sl 1 (dS (t).cD) false)) (.i (.sl 1 (b2 (t).back) false))),.box (mk (u) (.i (.v (.int .i64 (u).w))) (.i (.v (.int .i64 (u).h))) (.i (.sl 1 (b2 (u).G) false)) (.i (.v (.int .i64 (u).w))) (.i (.v (.int .i64 (u).h))) (.i (.sl 1 (b2 (u).O) false)) (.i (.sl 1 (dS (u).cD) false)) (.i (.sl 1 (b2 (u).back) false)))]):=by
 have GZ:od 0 H [(5,.ptr (c) 0 0 0),(7,.ptr (d) 0 0 0),(8,.i x),(45,.i y),(46,.i z),(47,.i v)]=[(5,.ptr (c) 0 0 0),(7,.ptr (d) 0 0 0),(8,.i x),(45,.i y),(46,.i z),(47,.i v)]:=by simp[od,el,tp,ag,aM]
 have cm:(eJ 0 H 0 H)[c]?=some (.box (iw t)):=by rw[vl,ag];simp only[en,dO,j]
 have cy:(eJ 0 H 0 H)[d]?=some (.box (iw u)):=by rw[vl,aM];simp only[en,dO,DJ (Sb u)]
 rw[I6,GZ];generalize eJ 0 H 0 H=H1 at*;have bG:=e'.2 (bF.1 cm).1;have bC:=e'.2 (bF.1 cy).1;have dj:o7 0 [(5,.ptr (c) 0 0 0),(7,.ptr (d) 0 0 0),(8,.i x),(45,.i y),(46,.i z),(47,.i v)] H1=[c,d]:=by simp[o7,bx,bc,reach,cm,cy,kb,aO3,bG,bC,e2,a' e2]
 rw[Jq (jp _),dj];have oy:bt [c,d] c=some 0:=by simp[bt]
 have qV:bt [c,d] d=some 1:=by simp[bt,a' e2]
 simp only[yJ,fh,fm,co,oy,qV,cm,cy,en,i1,iu,(ys (Sb _)).1];rfl
noncomputable def G4(J:Fr)(H:aa):Option (eC×Fr×aa):=vD E 0 3 (fg Tryz.f3 0) (o8 0 J H)
def aPw(cs:List UInt8)(eS:cs.length≤20)(u:M):∀(n k:Nat) (t:M) (rest:List UInt8) (c d:Nat) (C:List U) (H:aa),k+n=cs.length→WP t→iR t rest=u→rest.length≤200→H[c]?=some (.box C)→ey 0 H C=iw t→H[d]?=some (.box (iw u))→c≠d→
  ∃jo Sc,G4 [(5,.ptr (c) 0 0 0),(7,.ptr (d) 0 0 0),(8,.i (.str (rest))),(45,.i (.sl 1 (dJ cs) false)),(46,.i (.v (.int .i64 (cs.length)))),(47,.i (.v (.int .i64 (k))))] H=some (.exit 0,[(5,.ptr (0) 0 0 0),(7,.ptr (1) 0 0 0),(8,.i (.str (Sc))),(45,.i (.sl 1 (dJ cs) false)),(46,.i (.v (.int .i64 (cs.length)))),(47,.i (.v (.int .i64 (cs.length))))]++[(48,.i (.v (.bool (false))))],[.box (mk (jo) (.i (.v (.int .i64 (jo).w))) (.i (.v (.int .i64 (jo).h))) (.i (.sl 1 (b2 (jo).G) false)) (.i (.v (.int .i64 (jo).w))) (.i (.v (.int .i64 (jo).h))) (.i (.sl 1 (b2 (jo).O) false)) (.i (.sl 1 (dS (jo).cD) false)) (.i (.sl 1 (b2 (jo).back) false))),.box (mk (u) (.i (.v (.int .i64 (u).w))) (.i (.v (.int .i64 (u).h))) (.i (.sl 1 (b2 (u).G) false)) (.i (.v (.int .i64 (u).w))) (.i (.v (.int .i64 (u).h))) (.i (.sl 1 (b2 (u).O) false)) (.i (.sl 1 (dS (u).cD) false)) (.i (.sl 1 (b2 (u).back) false)))])∧WP jo∧iR jo Sc=u∧Sc.length≤200:=by
 intro n;induction n with
 |zero=>intro k t rest c d C H ay hw hu ah ag j aM e2;obtain rfl:k=cs.length:=R;refine⟨t,rest,?_,hw,hu,ah⟩;unfold G4;rw[ah9 ag j aM e2,zM];rw[cM Ck 0];simp(disch:=omega)only[ar,simprocAttr,zT,de,cj]
 |succ n a8=>
  intro k t rest c d C H ay hw hu ah ag j aM e2;have fR:k<cs.length:=R;have ak:(dJ cs)[k]?=some [.v (.int .u8 cs[k].toNat)]:=by simp[dJ,fR]
  obtain⟨ac,a_⟩:∃ac,min (cs[k].toNat:Int) (rest.length:Int)=((ac:Nat):Int)∧ac≤rest.length:=⟨min cs[k].toNat rest.length,R,R⟩;have ao:=λ H=>G3 hw (rest.take ac) (by rw[hE];omega) H
  obtain⟨jo,hk,aH,I,av,ba⟩:=a8 (k+1) (iR t (rest.take ac)) (rest.drop ac) 0 1 (iw (iR t (rest.take ac))) [.box (mk (iR t (rest.take ac)) (.i (.v (.int .i64 (iR t (rest.take ac)).w))) (.i (.v (.int .i64 (iR t (rest.take ac)).h))) (.i (.sl 1 (b2 (iR t (rest.take ac)).G) false)) (.i (.v (.int .i64 (iR t (rest.take ac)).w))) (.i (.v (.int .i64 (iR t (rest.take ac)).h))) (.i (.sl 1 (b2 (iR t (rest.take ac)).O) false)) (.i (.sl 1 (dS (iR t (rest.take ac)).cD) false)) (.i (.sl 1 (b2 (iR t (rest.take ac)).back) false))),.box (mk (u) (.i (.v (.int .i64 (u).w))) (.i (.v (.int .i64 (u).h))) (.i (.sl 1 (b2 (u).G) false)) (.i (.v (.int .i64 (u).w))) (.i (.v (.int .i64 (u).h))) (.i (.sl 1 (b2 (u).O) false)) (.i (.sl 1 (dS (u).cD) false)) (.i (.sl 1 (b2 (u).back) false)))] R (hw.write _) (by rw[aPs,Jg];exact hu) (by rw[iG];omega) rfl (DJ (Sb _)) rfl (by decide);refine⟨jo,hk,?_,I,av,ba⟩;unfold G4;rw[ah9 ag j aM e2,zM];refine ga ?_ aH;clear aH a8;have aRh:cs[k].toNat<256:=cs[k].toNat_lt;generalize cs[k].toNat=b at*;have Eu:=a_.1;have jH:=a_.2;have rp:(rest.drop ac).take (rest.length-ac)=rest.drop ac:=s7 (by rw[iG];exact cL _);simp only[iw]at ao;rw[cM Ck 0];simp(disch:=omega)only[ar,simprocAttr,zT,de,sq,uC,ak,Eu,ao,rp,sf,c8,show∀J H,fN E 0 3 (GW _) J H=G4 (norm [5,7,8,45,46,47] J) H from λ J H=>zN rfl aK aK aK aK J H]
def aPx(a b w h:Nat)(aA:a<256)(aj:b<256)(hw:1≤w∧w≤132)(aN:1≤h∧h≤60)(ah_:Int.tmod (a:Int) 20+1=(w:Nat))(ah':Int.tmod (b:Int) 8+1=(h:Nat))(s cs:List UInt8)(aR:s.length≤200)(ag:cs.length≤20):gv 3 [.agg [.i (.v (.int .u8 (a))),.i (.v (.int .u8 (b))),.i (.str s),.i (.sl 1 (dJ cs) false)]] true:=by
 have ch:=dY cs;have o9:¬200<(s.length:Int):=R;have kR:¬20<((dJ cs).length:Int):=R;have ao:=λ H=>ah6 w h hw aN H
 have lk:=WP.new hw aN;have G1:(jf w h).gl=false:=rfl;generalize jf w h=N at*;have aH:=λ H=>G3 lk s R H
 have aia:=lk.write s;obtain⟨u,hu⟩:∃u,iR N s=u:=⟨_,rfl⟩;rw[hu]at aH aia;simp only[iw]at aH;refine bz Ck ?_;simp(disch:=omega)only[ar,simprocAttr,zT,de,sq,bQ,bV,bH,uC,o9,kR,ah_,ah',ch,ao,aH,c8];rw[ah7 G1,ah5 lk.1 G1 rfl rfl (by decide)];simp(disch:=omega)only[ar,simprocAttr,zT,de,sq,bQ,bV,bH,uC,o9,kR,ah_,ah',ch,ao,aH,c8,show∀J H,fN E 0 3 (GW _) J H=G4 (norm [5,7,8,45,46,47] J) H from λ J H=>zN rfl aK aK aK aK J H];obtain⟨jo,hk,bN,bG,bC,cE⟩:=aPw cs ag u cs.length 0 N s 3 4 (aT N 1 0 2 0) [.box [.i (.v (.int .u8 (a))),.i (.v (.int .u8 (b))),.i (.str s),.i (.sl 1 (dJ cs) false)],.fd 0 (b2 N.G),.fd 0 (b2 N.O),.box (aT N 1 0 2 0),.box (mk (u) (.i (.v (.int .i64 (u).w))) (.i (.v (.int .i64 (u).h))) (.i (.sl 1 (b2 (u).G) false)) (.i (.v (.int .i64 (u).w))) (.i (.v (.int .i64 (u).h))) (.i (.sl 1 (b2 (u).O) false)) (.i (.sl 1 (dS (u).cD) false)) (.i (.sl 1 (b2 (u).back) false)))] R lk hu aR rfl (aPv G1 rfl rfl lk.1.G.1 lk.1.O.1) rfl (by decide);rw[show((0:Nat):Int)=0 from rfl]at bN;have c':=λ H=>G3 bG hk R H
 rw[bC]at c';have mM:=λ H=>aPo aia.1 H
 simp only[iw]at c' mM;rw[bN];simp(disch:=omega)only[ar,simprocAttr,zT,de,sq,uC,c',mM,aPn,R_,c8,cj];exact⟨_,rfl⟩
def c3(a b:Nat)(aA:a<256)(aj:b<256)(s cs:List UInt8)(aR:s.length≤9223372036854775807)(ag:cs.length≤9223372036854775807):gv 3 [.agg [.i (.v (.int .u8 (a))),.i (.v (.int .u8 (b))),.i (.str s),.i (.sl 1 (dJ cs) false)]] true:=by
 have ch:=dY cs;by_cases j:s.length≤200
 ·by_cases I:cs.length≤20
  ·exact aPx a b (a%20+1) (b%8+1) aA aj R R (by rw[afI R];omega) (by rw[afI R];omega) s cs j I
  ·have gq:¬200<(s.length:Int):=R;have Ew:20<(cs.length:Int):=R;refine bz Ck ?_;simp(disch:=omega)only[ar,simprocAttr,zT,de,gq,Ew,ch,R_];exact⟨_,rfl⟩
 ·have gq:200<(s.length:Int):=R;refine bz Ck ?_;simp(disch:=omega)only[ar,simprocAttr,zT,de,gq,ch,R_];exact⟨_,rfl⟩
def aib:∀{l:List Int},(∀b∈l,0≤b∧b≤255)→∃cs:List UInt8,cs.length=l.length∧dJ cs=l.map λ a=>[.v (.int .u8 a)]
 |[],_=>⟨[],rfl,rfl⟩
 |a::l,h=>by
  obtain⟨cs,e,I⟩:=aib (l:=l) λ b aj=>h b (xe _ aj)
  have:=h a Lf;refine⟨hI a.toNat::cs,by simp[e],?_⟩;have ay:((hI a.toNat).toNat:Int)=a:=by rw[UInt8.toNat_ofNat_of_lt' (show a.toNat<256 by omega)];omega
  simp only[dJ,fh]at I⊢;rw[I,ay]
def cvC(a b:Int)(aA:0≤a∧a≤255)(aj:0≤b∧b≤255)(s:List UInt8)(aR:s.length≤maxLen)(l:List Int)(al:l.length≤maxLen∧∀b∈l,0≤b∧b≤255):
  gv 3 [.agg [.i (.v (.int .u8 a)),.i (.v (.int .u8 b)),.i (.str s),.i (.sl 1 (l.map λ a=>[.v (.int .u8 a)]) false)]] true:=by
 obtain⟨m,rfl⟩:=jb aA.1;obtain⟨n,rfl⟩:=jb aj.1;obtain⟨cs,j,I⟩:=aib al.2;rw[←I];have ak:maxLen≤9223372036854775807:=by unfold maxLen;omega
 exact c3 m n R R s cs R R
end Go.VI
namespace Go.VI
open Go.Lib
open Go.Proofs
open Go.RowKit
open Go.Shelf
set_option maxRecDepth 100000
set_option maxHeartbeats 40000000
set_option linter.unusedVariables false
set_option linter.unusedSimpArgs false
set_option linter.defProp false
def LI{ad:b'}{ab:b8}{H:aa}{a:U}{vs:Array Value}(h:ow ad ab H [a] vs):∃x,vs=#[x]∧a6 ad ab H a x:=by
 obtain⟨aR,ah⟩:=h;obtain⟨l⟩:=vs
 match l,aR with
 |[x],_=>exact⟨x,rfl,ah 0 a rfl⟩
def aPy{ad:b'}{a:aC}{v:Value}(h:dl ad a v):v.oneCell'=true:=by
 cases h
 ·assumption
 all_goals rfl
section
variable{E:Env}{ad:b'}{ab:b8}{H:aa}{w:World}
def G5(ap:b5 E ad ab H w){fI:World}(aj:Below w.heap.size w fI):ci E ad ab H w H fI λ aL aB=>aL=ad∧aB=ab:=by
 have hold:=aj.block;refine⟨ad,ab,⟨λ b ai h=>?_,λ c x ak=>(ap.b6 c x ak).mono (λ _=>rfl) (λ _ _ h=>h) (e6.refl _ _ _) λ r b n h=>hold b (ap.sep _ _ _ h).2.1,ap.inj,λ c b n h=>?_,ap.e4⟩,
  ⟨aj.os,aj.tape,aj.output,aj.size,λ b h _=>hold b h,λ _ _ h=>h,λ b h=>.inl h,λ c b n h=>.inr ⟨_,_,h⟩⟩,e6.refl _ _ _,rfl,rfl⟩
 ·have:=ap.dR b ai h;rw[hold b (jY.1 this).1];exact this
 ·obtain⟨j,I,av⟩:=ap.sep _ _ _ h;exact⟨j,wO I aj.size,av⟩
end
section
variable{E:Env}{ad:b'}{ab:b8}{H:aa}{w:World}
def Sd(ap:b5 E ad ab H w){aq:World}(aj:Below w.heap.size w aq){g:Nat}(aP:w.heap.size≤g){cs:Array Value}{elem:TypeId}{bj:Nat×Nat}(qR:aq.heap[g]?=some (.cells cs elem bj))(gH:uQ bj cs.size)
  {aw:Nat}{rows:List (List aC)}(bf:0<aw)(aI:Flat aw rows)(eh:∀(i:Nat) (r:List aC) (k:Nat) (a:aC),rows[i]?=some r→r[k]?=some a→dl ad a (cs.getD (i*aw+k) undef))(hle:rows.length*aw≤cs.size){cap:Nat}(jZ:rows.length≤cap)(eS:cap*aw≤cs.size):
  ci E ad ab H w (H++[.sl aw 0 rows false]) aq λ aL aB=>a6 aL aB (H++[.sl aw 0 rows false]) (.ref H.length 0 0 rows.length) (.slice (some ⟨g,0,none⟩) rows.length cap):=by
 have v7:g<aq.heap.size:=(jY.1 qR).1;have hold:=aj.block;have hm:e6 ad ab H ad (fM ab H.length g cs.size) (H++[.sl aw 0 rows false]):=by
  refine mG (λ _ _ h=>h) (by simp) λ c ag=>?_
  exact iX.same (by rw[ei ag]) (λ r=>by simp[fM,show c≠H.length by omega])
 have hn:∀(c:fb) b n,fM ab H.length g cs.size c=some (b,n)→(c=⟨H.length,0⟩∧b=g∧n=cs.size)∨ab c=some (b,n):=by
  intro c b n h;unfold fM at h;split at h
  ·cases h;exact .inl ⟨by assumption,rfl,rfl⟩
  ·exact .inr h
 refine⟨ad,fM ab H.length g cs.size,⟨λ b ai aj=>?_,λ c x ak=>?_,λ c cl b n dP j I=>?_,λ c b n h=>?_,ap.e4⟩,⟨aj.os,aj.tape,aj.output,aj.size,λ b jk _=>hold b jk,λ _ _ h=>h,λ b h=>.inl h,λ c b n h=>?_⟩,hm,?_⟩
 ·have:=ap.dR b ai aj;have be:b<w.heap.size:=(jY.1 this).1;rw[hold b be];exact this
 ·by_cases ag:c<H.length
  ·rw[ei ag]at ak;refine(ap.b6 c x ak).mono (λ r=>by simp[fM,show c≠H.length by omega]) (λ _ _ h=>h) hm λ r b n h=>hold b (ap.sep _ _ _ h).2.1
  ·have:c=H.length:=by have:=(bF.1 ak).1;simp at this;omega
   subst this;simp at ak;subst ak;exact⟨λ e=>R,aI,.inr ⟨g,cs,elem,bj,by simp[fM],qR,gH,hle,λ h=>(by cases h),eh⟩⟩
 ·rcases hn _ _ _ j with⟨rfl,rfl,rfl⟩|ao
  ·rcases hn _ _ _ I with⟨e,_,_⟩|aH
   ·exact e.symm
   ·have:=(ap.sep _ _ _ aH).2.1;omega
  ·rcases hn _ _ _ I with⟨e,rfl,_⟩|aH
   ·have:=(ap.sep _ _ _ ao).2.1;omega
   ·exact ap.inj _ _ _ _ _ ao aH
 ·rcases hn _ _ _ h with⟨rfl,rfl,rfl⟩|ao
  ·refine⟨?_,v7,by simp⟩;cases cc:ad b with
   |none=>rfl
   |some ai=>have:=(jY.1 (ap.dR _ _ cc)).1;omega
  ·have:=ap.sep _ _ _ ao;exact⟨this.1,wO this.2.1 aj.size,by simp;omega⟩
 ·rcases hn _ _ _ h with⟨rfl,rfl,rfl⟩|ao
  ·exact .inl aP
  ·exact .inr ⟨_,_,ao⟩
 ·refine .ref _ _ _ _ _ (by simp) (λ Pd c7 hB h=>?_) (λ _ _ _ h=>by simp at h) ⟨_,_,rfl⟩ (λ _ _ _ _ h=>R);simp at h;obtain⟨rfl,rfl,rfl⟩:=h;exact⟨R,_,_,rfl,.inr ⟨g,cs.size,by simp[fM],R,by simpa using eS,.inl (by simp)⟩⟩
def LJ(ap:b5 E ad ab H w){aq:World}(aj:Below w.heap.size w aq){z:Nat}(bf:0<z)(a:Option Addr):ci E ad ab H w (H++[.sl z 0 [] false]) aq λ aL aB=>a6 aL aB (H++[.sl z 0 [] false]) (.ref H.length 0 0 0) (.slice a 0 0):=by
 refine(G5 ap aj).trans λ ef dW dm _ _ _=>?_
 have fy:dW H.length=none:=by
  cases h:dW H.length with
  |none=>rfl
  |some p=>have:=dm.Bc (b:=p.1) (n:=p.2) h;omega
 have hm:e6 ef dW H ef dW (H++[.sl z 0 [] false]):=mG (λ _ _ h=>h) (by simp) λ c ag=>iX.same (by rw[ei ag]) (λ _=>rfl)
 refine⟨ef,dW,⟨dm.dR,λ c x ak=>?_,dm.inj,λ c b n h=>by have:=dm.sep c b n h;exact⟨this.1,this.2.1,by simp;omega⟩,dm.e4⟩,Trans.refl _ _ _,hm,?_⟩
 ·by_cases ag:c<H.length
  ·rw[ei ag]at ak;exact(dm.b6 c x ak).mono (λ _=>rfl) (λ _ _ h=>h) hm (λ _ _ _ _=>rfl)
  ·have:c=H.length:=by have:=(bF.1 ak).1;simp at this;omega
   subst this;simp at ak;subst ak;exact⟨λ e=>R,λ i r h=>by simp at h,.inl ⟨fy,rfl⟩⟩
 ·refine .ref _ _ _ _ _ (by simp) (λ Pd c7 hB h=>?_) (λ _ _ _ h=>by simp at h) ⟨_,_,rfl⟩ (λ _ _ _ _ h=>R);simp at h;obtain⟨rfl,rfl,rfl⟩:=h;exact⟨by simp,_,_,rfl,.inl ⟨fy,rfl⟩⟩
def aic(P:Program)(f:FuncId)(z:Nat)(T:TypeId):Prop:=
 (∀(i6:Addr) (n c:Nat) (fL:List Value) (w:World),fL.length=n*z→n≤1000000000→(∀ac u,fL[ac]?=some u→w.cell? (i6.add ac)=some u)→(∀u∈fL,u.oneCell'=true)→
  Calls P f #[.slice (some i6) n c] w λ e aq=>∃hb,e=.returned hb∧aq.ownsRow w.heap.size T z hb n fL∧Below w.heap.size w aq)∧
 ∀(n c:Nat) (w:World),Calls P f #[.slice none n c] w λ e aq=>e=.returned (.slice none 0 0)∧aq=w
def Se{E:Env}{f:FuncId}{z:Nat}{T:TypeId}(bf:0<z)(ch:aic E.P f z T):sc E f (lW z):=by
 intro args H r an ah ad ab w vs ap bY;unfold lW at ah;split at ah
 ·rename_i fl rows ex;split at ah
  ·rename_i ag;obtain⟨rfl,ff⟩:=ag;cases ah;obtain⟨y,rfl,iB⟩:=LI bY;cases iA iB with
   |nil _ _ a cap ak=>
    cases a with
    |none=>
     refine(ch.2 0 cap w).mono λ e aq ⟨j,I⟩=>?_
     subst j I;exact⟨_,rfl,LJ ap (wv _ _) bf none⟩
    |some i6=>
     refine(ch.1 i6 0 cap [] w (by simp) (by decide) (λ ac u a_=>by cases a_) (λ u hu=>by cases hu)).mono λ e aq ⟨hb,he,ko,sr⟩=>?_
     subst he;obtain⟨_,bh⟩:=ko;rcases bh with⟨rfl,_⟩|⟨g,aid,lO,rfl,G6,kp,G7,_,eu,_⟩
     ·exact⟨_,rfl,LJ ap sr bf none⟩
     ·exact⟨_,rfl,Sd ap sr G6 kp (pb _) bf (λ i r h=>by simp at h) (λ i r k a h=>by simp at h) (by simp) G7 R⟩
   |sl _ _ _ b off cap cs elem bj dA cc jZ ak ij j I=>
    have aPz:=ap.dR b _ cc;have u3:∀i k,i<rows.length→k<fl→cs[off+i*fl+k]?=some (dA i k)∧(dA i k).oneCell'=true:=by intro i k ax ay;have p8:rows[i]?=some rows[i]:=eX ax;have hlen:=ij i _ p8;have aie:rows[i][k]?=some rows[i][k]:=eX R;exact⟨j i _ k _ p8 aie,aPy (I i _ k _ p8 aie)⟩
    have L5:∀ac,ac/fl*fl+ac%fl=ac:=λ ac=>by rw[uT];exact yR _ _
    have tJ:∀ac,ac<rows.length*fl→cs[off+ac]?=some (dA (ac/fl) (ac%fl))∧(dA (ac/fl) (ac%fl)).oneCell'=true:=by intro ac a_;have:=u3 (ac/fl) (ac%fl) ((HA bf).2 a_) (Ei _ bf);rw[tB,L5]at this;exact this
    have aif:∀ac u,((g' (rows.length*fl)).map λ ac=>dA (ac/fl) (ac%fl))[ac]?=some u→ac<rows.length*fl∧u=dA (ac/fl) (ac%fl):=by
     intro ac u a_;rw[fw]at a_;by_cases be:ac<rows.length*fl
     ·rw[Jf be]at a_;simp only[en,bg]at a_;exact⟨be,a_.symm⟩
     ·rw[rW (by simp;omega)]at a_;cases a_
    refine(ch.1 ⟨b,off,none⟩ rows.length cap ((g' (rows.length*fl)).map λ ac=>dA (ac/fl) (ac%fl)) w (by simp) ff (λ ac u a_=>?_) (λ u hu=>?_)).mono λ e aq ⟨hb,he,ko,sr⟩=>?_
    ·obtain⟨be,rfl⟩:=aif ac u a_;rw[Addr.add_lit];simp[rP,aPz,(tJ ac be).1]
    ·obtain⟨ac,a_⟩:=List.getElem?_of_mem hu;obtain⟨be,rfl⟩:=aif ac u a_;exact(tJ ac be).2
    ·subst he;obtain⟨_,bh⟩:=ko;rcases bh with⟨rfl,hp⟩|⟨g,aid,lO,rfl,G6,kp,G7,_,eu,rp⟩
     ·obtain rfl:rows=[]:=pX.1 hp;exact⟨_,rfl,LJ ap sr bf none⟩
     ·have hle:rows.length*fl≤lO.size:=by rw[eu];exact jX _ G7
      refine⟨_,rfl,Sd ap sr G6 kp (pb _) bf ij (λ i r k a ax ay=>?_) hle G7 R⟩;have y2:i<rows.length:=(bF.1 ax).1;have ni:k<fl:=by have:=(bF.1 ay).1;rw[ij i r ax]at this;exact this
      have a_:i*fl+k<rows.length*fl:=by have:(i+1)*fl≤rows.length*fl:=jX _ y2;rw[hc]at this;omega
      have aM:(i*fl+k)/fl=i:=by rw[uT,Nat.mul_add_div bf,Nat.div_eq_of_lt ni,e7]
      have aPA:(i*fl+k)%fl=k:=by rw[uT,Nat.mul_add_mod,CU ni]
      have:(lO.toList.take (rows.length*fl))[i*fl+k]?=some (dA i k):=by rw[rp,fw,Jf a_];simp only[en,bg];rw[aM,aPA]
      rw[agP a_]at this;have agF:lO[i*fl+k]?=some (dA i k):=by simpa using this
      rw[di,agF];exact I i r k a ax ay
  ·cases ah
 ·cases ah
def aPB{E:Env}{f:FuncId}{z:Nat}{T:TypeId}(ch:aic E.P f 1 T):sc E f (s0 z):=by
 intro args H r an ah ad ab w vs ap bY;unfold s0 at ah;split at ah
 ·rename_i fl rows ex;split at ah
  ·rename_i ag;obtain⟨rfl,ff⟩:=ag;cases ah;refine(Se (E:=E) (f:=f) (T:=T) (by decide) ch [.i (.sl 1 rows ex)] H (.ref H.length 0 0 rows.length) (H++[.sl 1 0 rows false]) (by unfold lW;exact if_pos ⟨rfl,ff⟩) ad ab w vs ap bY).mono λ e aq ⟨x,he,k⟩=>?_
   exact⟨x,he,MJ (z:=z) ap k⟩
  ·cases ah
 ·rename_i c g ai n;unfold OG at ah;split at ah;rotate_left
  ·cases ah
  rename_i d new H1 aR;split at ah;rotate_left
  ·cases ah
  rename_i pg;simp only[bg,bw]at ah;obtain⟨rfl,rfl⟩:=ah;obtain⟨y,rfl,iB⟩:=LI bY;obtain⟨g2,off,s2,c7,_,mN,b9,fy,rfl,ew,a,cap,rfl,mh,j4,pk,qS⟩:=Ie E.P ap iB aR;have fk:d<H.length:=(bF.1 mN).1;have ph:∀(i:Nat) (y:bT),i<new.length→c7[off+i]?=some y→l9 ad ab w z d (off+i) y (ew.getD i undef):=λ i y ax aY=>pk i y (by rw[fy i ax];exact aY)
  have MS:(H.set d (Chunk.az z g2 (s2+1) (e5 c7 off new.length))).length=H.length:=by simp
  have sJ:∀aq:World,new=[]→Below w.heap.size w aq→ci E ad ab H w (H.set d (Chunk.az z g2 (s2+1) (e5 c7 off new.length))++[.az z 0 0 new]) aq λ aL aB=>a6 aL aB (H.set d (Chunk.az z g2 (s2+1) (e5 c7 off new.length))++[.az z 0 0 new]) (.x (.d (H.set d (Chunk.az z g2 (s2+1) (e5 c7 off new.length))).length 0 0 new.length)) (.slice none 0 0):=by
   intro aq aW aj;subst aW;refine(G5 ap aj).trans λ ef dW dm _ _ ao=>?_
   obtain⟨rfl,rfl⟩:=ao;obtain⟨eY,ev,h5,gQ,j3,_⟩:=BB dm mN (g1:=g2) (s1:=s2+1) (tM:=e5 c7 off 0) (.inr ⟨rfl,R,by rw[rV]⟩) (by rw[rV];exact cL _) (λ i y aY=>by rw[rV]at aY;exact aY);obtain⟨jD,jE,EC,xg,BA,ED⟩:=MO h5 z none;exact⟨jD,jE,EC,gQ.trans xg,j3.trans BA,ED⟩
  cases a with
  |none=>
   have aW:new=[]:=by
    cases new with
    |nil=>rfl
    |cons q l=>obtain⟨i6,j,_⟩:=qS 0 (by simp);cases j
   refine(ch.2 new.length cap w).mono λ e aq ⟨j,I⟩=>?_
   subst j I;exact⟨_,rfl,sJ _ aW (wv _ _)⟩
  |some i6=>
   refine(ch.1 i6 new.length cap ew.toList w (by simp[j4]) pg (λ ac u a_=>?_) (λ u hu=>?_)).mono λ e aq ⟨hb,he,ko,sr⟩=>?_
   ·have jH:ac<new.length:=by have:=(bF.1 a_).1;simpa[j4]using this
    obtain⟨aRi,j,I⟩:=qS ac jH;cases j;rw[I];simp only[mH]at a_;rw[di,a_];rfl
   ·obtain⟨ac,a_⟩:=List.getElem?_of_mem hu;have jH:ac<new.length:=by have:=(bF.1 a_).1;simpa[j4]using this
    simp only[mH]at a_;have:=(pk ac _ (eX jH)).one;rwa [di,a_]at this
   subst he;obtain⟨_,bh⟩:=ko;rcases bh with⟨rfl,hp⟩|⟨af,aid,lO,rfl,G6,kp,G7,_,eu,rp⟩
   ·exact⟨_,rfl,sJ _ (pX.1 hp) sr⟩
   ·refine⟨_,rfl,?_⟩;rw[MS];have p5:∀ac,ac<new.length→lO.getD ac undef=ew.getD ac undef:=by
     intro ac a_;have j:(lO.toList.take (new.length*1))[ac]?=ew.toList[ac]?:=by rw[rp]
     rw[agP R,mH,mH]at j;rw[di,di,j]
    refine Bx ap (c:=H.length) (d:=d) (p:=0) (rows:=[]) (cs:=#[]) (ew:=ew) (fe:=af) (iH:=lO) (ao:=T) (u6:=(0,0)) (aq:=aq) (n:=new.length) (off:=off) (eB:=new) (g1:=0) (s1:=0) (z:=z) (g2:=g2) (s2:=s2) (c7:=c7)
      R mN b9 (by simp) (by rw[hd (by simp)];simp) (by rw[ei (by simpa using fk)];simp[fk]) (λ e j I=>?_) (λ h=>R) kp (pb _) R (.inr G6) (λ b aj _=>sr.block b aj) sr.size sr.os sr.tape sr.output
     ph (λ ac y a_=>by simp at a_) (λ ac y a_=>?_) (λ aB gV=>?_)
    ·by_cases av:e<H.length
     · rw[ei (by simpa using av),dw (a' I)]
     · rw[rW (by simp;omega),rW R]
    ·have ld:=(bF.1 a_).1;exact .inl ⟨ac,ld,R,by rw[←fy ac ld];exact a_,p5 ac ld⟩
    ·refine .x _ _ ⟨by simp,⟨_,_,rfl⟩,λ c_ aU dD eB h=>?_⟩ (.d (show(H.set d (Chunk.az z g2 (s2+1) (e5 c7 off new.length))++[Chunk.az z 0 0 new])[H.length]?=some (.az z 0 0 new)from by rw[hd (by simp)];simp));rw[hd (by simp)]at h;simp at h;obtain⟨rfl,rfl,rfl,rfl⟩:=h;exact⟨cL _,λ _=>⟨R,_,_,rfl,.inr ⟨_,_,gV,R,R,.inl rfl⟩⟩⟩
 ·cases ah
end
def aPC(i6:Addr)(n c:Nat)(fL:List Value)(w:World)(bf:fL.length=n*1)(pg:n≤1000000000)(ag:∀ac u,fL[ac]?=some u→w.cell? (i6.add ac)=some u)(j:∀u∈fL,u.oneCell'=true):
  Calls Tryz.prog 46 #[.slice (some i6) n c] w λ e aq=>∃hb,e=.returned hb∧aq.ownsRow w.heap.size 4 1 hb n fL∧Below w.heap.size w aq:=by
 obtain⟨i0,ax,o',j0,kq⟩:=info_parts (show(Tryz.prog.info? 4).map (λ i=>(i.zero,i.size,i.bytes))=some (some (.bool false),1,1)from aK);have G8:∀(w:World) (a:Option Addr) (n c dP cl:Nat),(binOp .eql 38 (.slice a n c) (.slice none dP cl)).run Tryz.prog w=.ok (.bool a.isNone) w:=λ w a n c dP cl=>G9 w _ _ a n c dP cl Tryz.underlying38
 have aih:∀w,tL Tryz.prog (underlying 38) w=.ok (TypeDesc.slice 4) w:=run_underlying Tryz.underlying38;have A:Aside (∀ac u,fL[ac]?=some u→w.cell? (i6.add ac)=some u):=ag;clear ag
 go_enter Tryz.func46,Tryz.ntmps46
 go_wp2_with (at_builtin;refine wpList_append_own _ rfl _ _ 38 rfl w.heap.size 4 i0 _ 1 1 Tryz.underlying38 ax o' j0 kq rfl (by decide) _ _ _ rfl (World.ownsRow_made w #[] 0 (cL _) (jp _) rfl) i6 n c fL rfl bf ?G_ ?G' ?Ha ?Hb ?Hc ?_)
 case G_=>intro ac u a_;exact Lib.cell?_alloc_some _ (A.out ac u a_)
 case G'=>exact j
 case Ha=>unfold maxLen;omega
 case Hb=>omega
 case Hc=>simp
 intro hb f_ ko Hd xi
 go_wp2
 go_ret
 exact⟨hb,rfl,by simpa using ko,((wv _ w).alloc (cL _) _).grown Hd (by simp) (by intro k ay;simp[Value.ownBlock]at ay;omega)⟩
def aPD(n c:Nat)(w:World):Calls Tryz.prog 46 #[.slice none n c] w λ e aq=>e=.returned (.slice none 0 0)∧aq=w:=by
 have G8:∀(w:World) (a:Option Addr) (n c dP cl:Nat),(binOp .eql 38 (.slice a n c) (.slice none dP cl)).run Tryz.prog w=.ok (.bool a.isNone) w:=λ w a n c dP cl=>G9 w _ _ a n c dP cl Tryz.underlying38
 go_enter Tryz.func46,Tryz.ntmps46
 go_wp2
 go_ret
 exact⟨rfl,rfl⟩
def aPE:sc E 46 (lW 1):=Se (T:=4) (by decide) ⟨aPC,aPD⟩
def aPF(i6:Addr)(n c:Nat)(fL:List Value)(w:World)(bf:fL.length=n*1)(pg:n≤1000000000)(ag:∀ac u,fL[ac]?=some u→w.cell? (i6.add ac)=some u)(j:∀u∈fL,u.oneCell'=true):
  Calls Tryz.prog 78 #[.slice (some i6) n c] w λ e aq=>∃hb,e=.returned hb∧aq.ownsRow w.heap.size 65 1 hb n fL∧Below w.heap.size w aq:=by
 obtain⟨i0,ax,o',j0,kq⟩:=info_parts (show(Tryz.prog.info? 65).map (λ i=>(i.zero,i.size,i.bytes))=some (some (.slice none 0 0),1,24)from aK);have G8:∀(w:World) (a:Option Addr) (n c dP cl:Nat),(binOp .eql 26 (.slice a n c) (.slice none dP cl)).run Tryz.prog w=.ok (.bool a.isNone) w:=λ w a n c dP cl=>G9 w _ _ a n c dP cl Tryz.underlying26
 have aih:∀w,tL Tryz.prog (underlying 26) w=.ok (TypeDesc.slice 65) w:=run_underlying Tryz.underlying26;have A:Aside (∀ac u,fL[ac]?=some u→w.cell? (i6.add ac)=some u):=ag;clear ag
 go_enter Tryz.func78,Tryz.ntmps78
 go_wp2_with (at_builtin;refine wpList_append_own _ rfl _ _ 26 rfl w.heap.size 65 i0 _ 1 24 Tryz.underlying26 ax o' j0 kq rfl (by decide) _ _ _ rfl (World.ownsRow_made w #[] 0 (cL _) (jp _) rfl) i6 n c fL rfl bf ?G_ ?G' ?Ha ?Hb ?Hc ?_)
 case G_=>intro ac u a_;exact Lib.cell?_alloc_some _ (A.out ac u a_)
 case G'=>exact j
 case Ha=>unfold maxLen;omega
 case Hb=>omega
 case Hc=>simp
 intro hb f_ ko Hd xi
 go_wp2
 go_ret
 exact⟨hb,rfl,by simpa using ko,((wv _ w).alloc (cL _) _).grown Hd (by simp) (by intro k ay;simp[Value.ownBlock]at ay;omega)⟩
def aPG(n c:Nat)(w:World):Calls Tryz.prog 78 #[.slice none n c] w λ e aq=>e=.returned (.slice none 0 0)∧aq=w:=by
 have G8:∀(w:World) (a:Option Addr) (n c dP cl:Nat),(binOp .eql 26 (.slice a n c) (.slice none dP cl)).run Tryz.prog w=.ok (.bool a.isNone) w:=λ w a n c dP cl=>G9 w _ _ a n c dP cl Tryz.underlying26
 go_enter Tryz.func78,Tryz.ntmps78
 go_wp2
 go_ret
 exact⟨rfl,rfl⟩
def aPH:sc E 78 (s0 5):=aPB (T:=65) ⟨aPF,aPG⟩
def aPI(i6:Addr)(n c:Nat)(fL:List Value)(w:World)(bf:fL.length=n*5)(pg:n≤1000000000)(ag:∀ac u,fL[ac]?=some u→w.cell? (i6.add ac)=some u)(j:∀u∈fL,u.oneCell'=true):
  Calls Tryz.prog 79 #[.slice (some i6) n c] w λ e aq=>∃hb,e=.returned hb∧aq.ownsRow w.heap.size 67 5 hb n fL∧Below w.heap.size w aq:=by
 obtain⟨i0,ax,o',j0,kq⟩:=info_parts (show(Tryz.prog.info? 67).map (λ i=>(i.zero,i.size,i.bytes))=some (some (.agg #[.string ⟨#[]⟩,.int .i64 0,.int .i64 0,.int .i64 0,.int .i64 0]),5,48)from aK);have G8:∀(w:World) (a:Option Addr) (n c dP cl:Nat),(binOp .eql 65 (.slice a n c) (.slice none dP cl)).run Tryz.prog w=.ok (.bool a.isNone) w:=λ w a n c dP cl=>G9 w _ _ a n c dP cl Tryz.underlying65
 have aih:∀w,tL Tryz.prog (underlying 65) w=.ok (TypeDesc.slice 67) w:=run_underlying Tryz.underlying65;have A:Aside (∀ac u,fL[ac]?=some u→w.cell? (i6.add ac)=some u):=ag;clear ag
 go_enter Tryz.func79,Tryz.ntmps79
 go_wp2_with (at_builtin;refine wpList_append_own _ rfl _ _ 65 rfl w.heap.size 67 i0 _ 5 48 Tryz.underlying65 ax o' j0 kq rfl (by decide) _ _ _ rfl (World.ownsRow_made w #[] 0 (cL _) (jp _) rfl) i6 n c fL rfl bf ?G_ ?G' ?Ha ?Hb ?Hc ?_)
 case G_=>intro ac u a_;exact Lib.cell?_alloc_some _ (A.out ac u a_)
 case G'=>exact j
 case Ha=>unfold maxLen;omega
 case Hb=>omega
 case Hc=>simp
 intro hb f_ ko Hd xi
 go_wp2
 go_ret
 exact⟨hb,rfl,by simpa using ko,((wv _ w).alloc (cL _) _).grown Hd (by simp) (by intro k ay;simp[Value.ownBlock]at ay;omega)⟩
def aPJ(n c:Nat)(w:World):Calls Tryz.prog 79 #[.slice none n c] w λ e aq=>e=.returned (.slice none 0 0)∧aq=w:=by
 have G8:∀(w:World) (a:Option Addr) (n c dP cl:Nat),(binOp .eql 65 (.slice a n c) (.slice none dP cl)).run Tryz.prog w=.ok (.bool a.isNone) w:=λ w a n c dP cl=>G9 w _ _ a n c dP cl Tryz.underlying65
 go_enter Tryz.func79,Tryz.ntmps79
 go_wp2
 go_ret
 exact⟨rfl,rfl⟩
def aPK:sc E 79 (lW 5):=Se (T:=67) (by decide) ⟨aPI,aPJ⟩
def k6(x:Int):Bool:=(x !=66) &&(x !=48)
def He(x:Int)(w:World):Calls Tryz.prog 63 #[.int .u8 x] w λ e aq=>e=.returned (.bool (k6 x))∧aq=w:=by
 go_enter Tryz.func63,Tryz.ntmps63
 unfold k6;by_cases h:x=66
 ·subst h
  go_wp2
  go_ret
  exact⟨rfl,rfl⟩
 ·have j:(x !=66)=true:=by simpa using h
  go_wp2
  go_ret
  exact⟨by simp[j],rfl⟩
def aPL(a b:Int)(B c:Nat)(w:World)(aW:w.cell? ⟨B,0,none⟩=some (.int .u8 a))(j:w.cell? ⟨B,1,none⟩=some (.int .u8 b)):
  Calls Tryz.prog 119 #[.slice (some ⟨B,0,none⟩) 2 c,.func (.func 63) #[] #[]] w λ e aq=>e=.returned (.int .i64 (if k6 a=true then 0 else if k6 b=true then 1 else-1))∧aq=w:=by
 cases aA:k6 a with
 |true=>
  rw[if_pos rfl]
  go_enter Tryz.func119,Tryz.ntmps119
  go_wp2
  refine wp_loop_rounds 3 ?_;rw[rounds_succ]
  go_wp2_with (go_at_call 63;refine(He a w).mono ?_;rw[aA];rintro e aq ⟨rfl,rfl⟩)
  go_wp2
  go_ret
  exact⟨rfl,rfl⟩
 |false=>
  rw[if_neg (by simp)];cases aj:k6 b with
  |true=>
   rw[if_pos rfl]
   go_enter Tryz.func119,Tryz.ntmps119
   go_wp2
   refine wp_loop_rounds 3 ?_;rw[rounds_succ]
   go_wp2_with (go_at_call 63;refine(He a w).mono ?_;rw[aA];rintro e aq ⟨rfl,rfl⟩)
   go_wp2
   rw[rounds_succ]
   go_wp2_with (go_at_call 63;refine(He b aq).mono ?_;rw[aj];rintro e aq ⟨rfl,rfl⟩)
   go_wp2
   go_ret
   exact⟨rfl,rfl⟩
  |false=>
   rw[if_neg (by simp)]
   go_enter Tryz.func119,Tryz.ntmps119
   go_wp2
   refine wp_loop_rounds 3 ?_;rw[rounds_succ]
   go_wp2_with (go_at_call 63;refine(He a w).mono ?_;rw[aA];rintro e aq ⟨rfl,rfl⟩)
   go_wp2
   rw[rounds_succ]
   go_wp2_with (go_at_call 63;refine(He b aq).mono ?_;rw[aj];rintro e aq ⟨rfl,rfl⟩)
   go_wp2
   rw[rounds_succ]
   go_wp2
   go_ret
   exact⟨rfl,rfl⟩
def aPM(a b s:Int):Cf a b s=((!k6 a) &&(!k6 b) &&(s==0||s==1)):=by unfold Cf k6;simp[bne]
def Sf(a b:Int)(B c:Nat)(w:World)(aW:w.cell? ⟨B,0,none⟩=some (.int .u8 a))(j:w.cell? ⟨B,1,none⟩=some (.int .u8 b)):
  Calls Tryz.prog 62 #[.slice (some ⟨B,0,none⟩) 2 c,.func (.func 63) #[] #[]] w λ e aq=>e=.returned (.bool (k6 a||k6 b))∧aq=w:=by
 cases aA:k6 a<;>cases aj:k6 b
 all_goals
  go_enter Tryz.func62,Tryz.ntmps62
  go_wp2_with (go_at_call 119;refine(aPL a b B c w aW j).mono ?_;simp only[aA,aj,fF,if_true,if_false];rintro e aq ⟨rfl,rfl⟩)
  go_wp2
  go_ret
  exact⟨rfl,rfl⟩
def aPN(a b s:Int)(w:World):Calls Tryz.prog 31 #[.agg #[.int .u8 a,.int .u8 b],.int .i64 s] w λ e aq=>e=.returned (.bool (Cf a b s))∧Below w.heap.size w aq:=by
 rw[aPM];cases cS:k6 a||k6 b with
 |true=>
  have ah:((!k6 a) &&(!k6 b) &&(s==0||s==1))=false:=by cases j:k6 a<;>cases I:k6 b<;>simp_all
  rw[ah]
  go_enter Tryz.func31,Tryz.ntmps31
  go_wp2_with (go_at_call 62;refine(Sf a b w.heap.size _ _ ((Hf w _ _ 0).trans rfl) ((Hf w _ _ 1).trans rfl)).mono ?_;rw[cS];rintro e aq ⟨rfl,rfl⟩)
  go_wp2
  go_ret
  exact⟨rfl,(wv _ w).alloc (cL _) _⟩
 |false=>
  have ah:((!k6 a) &&(!k6 b) &&(s==0||s==1))=(s==0||s==1):=by cases j:k6 a<;>cases I:k6 b<;>simp_all
  rw[ah];by_cases aW:s=0
  ·subst aW
   go_enter Tryz.func31,Tryz.ntmps31
   go_wp2_with (go_at_call 62;refine(Sf a b w.heap.size _ _ ((Hf w _ _ 0).trans rfl) ((Hf w _ _ 1).trans rfl)).mono ?_;rw[cS];rintro e aq ⟨rfl,rfl⟩)
   go_wp2
   go_ret
   exact⟨rfl,(wv _ w).alloc (cL _) _⟩
  ·have RT:(s==0)=false:=by simpa using aW
   go_enter Tryz.func31,Tryz.ntmps31
   go_wp2_with (go_at_call 62;refine(Sf a b w.heap.size _ _ ((Hf w _ _ 0).trans rfl) ((Hf w _ _ 1).trans rfl)).mono ?_;rw[cS];rintro e aq ⟨rfl,rfl⟩)
   go_wp2
   go_ret
   exact⟨by simp[RT],(wv _ w).alloc (cL _) _⟩
def aPO:sc E 31 xD:=by
 intro args H r an ah ad ab w vs ap bY;unfold xD at ah;split at ah
 ·rename_i a b s;cases ah;obtain⟨x,y,rfl,j,I⟩:=OH bY;obtain rfl:=fv I;cases j with
  |agg _ cs al ay=>
   have xk:=fv (ay 0 _ rfl);have bG:=fv (ay 1 _ rfl);obtain⟨l⟩:=cs
   match l,al with
   |[gr,b_],_=>
    simp at xk bG;subst xk bG;refine(aPN a b s w).mono λ e aq ⟨j,I⟩=>?_
    subst j;obtain⟨aL,aB,cm,cy,fc,rfl,rfl⟩:=G5 ap I;exact⟨_,rfl,_,_,cm,cy,fc,.i _ _ (.v _ rfl)⟩
 ·cases ah
end Go.VI
namespace Go.VI
open Go.Lib
open Go.Proofs
open Go.RowKit
open Go.Shelf
open Go.Sort
set_option maxRecDepth 100000
set_option maxHeartbeats 40000000
set_option linter.unusedVariables false
set_option linter.unusedSimpArgs false
set_option linter.defProp false
variable{E:Env}{aS:Ren}{ad:b'}{ab:b8}{H:aa}{w:World}
def aii{ops:Array Oper}{rest:List Oper}{ai:Oper}{a:Act}{Q:Exit→Act→World→Prop}(EG:ai.guard=none)(s x:Operand)(t t2:TypeId)
  (b9:ai.op=.call {callee:=.builtin .append,args:=#[s,x],argTypes:=#[t,t2]}) {aD aij v:U} {an:aa} (h:hz E H t t2 aD aij=some (v,an)) (ap:b5 E ad ab H w)
  (cP lj:Value) (aR:a.eval s=cP) (ak:a.eval x=lj) (fQ:a6 ad ab H aD cP) (rx:a6 ad ab H aij lj)
  (k:∀u aq aL aB,b5 E aL aB an aq→Trans ad ab w aL aB aq→e6 ad ab H aL aB an→a6 aL aB an v u→wpList E.P ops Q rest (a.put ai.dst u) aq):wpList E.P ops Q (ai::rest) a w:=
 wpList_plain EG λ _ jl=>by obtain⟨u,aq,ah,aL,aB,bG,bC,cE,eU⟩:=MZ (d':=ai.type) ap h fQ rx;unfold Oper.wp execOp;simp only[b9,resolve,invoke,builtin,dT,eE,eg,List.map_toArray,fh,fm,aR,ak,ah];exact jl _ _ (k u aq aL aB bG bC cE eU)
def aPP(ap:b5 E ad ab H w){fI:World}{cs:Array Value}{elem:TypeId}{bj:Nat×Nat}(b9:fI.os=w.os)(bp:fI.tape=w.tape)(hu:fI.output=w.output)(eu:w.heap.size<fI.heap.size)
  (hold:∀b,b<w.heap.size→fI.heap[b]?=w.heap[b]?)(fy:fI.heap[w.heap.size]?=some (.cells cs elem bj)):
  ∃aL,b5 E aL ab H fI∧Trans ad ab w aL ab fI∧e6 ad ab H aL ab H∧aL w.heap.size=some (.cells cs elem bj):=by
 have ti:ad w.heap.size=none:=by
  cases cc:ad w.heap.size with
  |none=>rfl
  |some ai=>have:=ap.dR _ _ cc;simp at this
 let aL:b':=λ b=>if b=w.heap.size then some (.cells cs elem bj)else ad b
 have hle:ad.le aL:=by
  intro b ai aj;have:b≠w.heap.size:=λ e=>by rw[e,ti]at aj;cases aj
  simp only[aL,if_neg this,aj]
 have hm:e6 ad ab H aL ab H:=mG hle (cL _) λ c ag=>iX.same rfl λ _=>rfl
 refine⟨aL,⟨λ b ai aj=>?_,λ c x ak=>(ap.b6 c x ak).mono (λ _=>rfl) hle hm λ r b n h=>hold b (ap.sep _ _ _ h).2.1,ap.inj,λ c b n h=>?_,λ g cells aP=>(ap.e4 g cells aP).mono hle⟩,
  ⟨b9,bp,hu,Nat.le_of_lt eu,λ b aj _=>hold b aj,hle,λ b aj=>?_,λ c b n h=>.inr ⟨_,_,h⟩⟩,hm,by simp[aL]⟩
 ·by_cases e:b=w.heap.size
  ·subst e;simp only[aL,if_true,bg]at aj;rw[fy,aj]
  ·simp only[aL,if_neg e]at aj;have:=ap.dR b ai aj;rw[hold b (jY.1 this).1];exact this
 ·obtain⟨j,I,av⟩:=ap.sep _ _ _ h;exact⟨by simp only[aL,if_neg (show b≠w.heap.size by omega),j],R,av⟩
 ·by_cases e:b=w.heap.size
  ·exact .inr (.inl R)
  ·simp only[aL,if_neg e]at aj;exact .inl aj
def aPQ{t t2:TypeId}{s r:U}{an:aa}{l:List UInt8}{ex:Bool}(bp:∃e,e0 E.P t=some e)(h:hz E H t t2 s (.i (.str l))=some (r,an)):
  hz E H t t s (.i (.sl 1 (l.map λ b=>[aC.v (.int .u8 b.toNat)]) ex))=some (r,an):=by
 obtain⟨e,he⟩:=bp;unfold hz at h⊢;rw[he]at h⊢;simp only[kL,hH]at h⊢;simp only[he,OS,true_or,true_and];split at h
 ·rename_i z b dX c_ new fY j I av ba;simp only[bg,bw]at ba;obtain⟨rfl,rfl,rfl⟩:=ba;simp only[j,I,av];split at h
  ·rename_i ag;obtain⟨b_,ca,c3,fH,c5,li⟩:=ag;rw[if_pos ⟨b_,ca,c3,c5,li⟩];exact h
  ·cases h
 ·cases h
def aPR{g:Nat}(ap:b5 E ad ab H w)(aP:E.e4 g=some oK)(ac:Nat)(a_:ac<20):w.cell? ⟨g,ac,none⟩=some (.int .u64 (sb.getD ac 0)):=by
 have h:=(ap.e4 g _ aP).1;generalize ag:oK=cells at h;generalize au:Cg (some ⟨g,0,none⟩)=p at h;cases h with
 |gd _ _ b off cs elem bj dA cc j I=>
  simp at au;obtain⟨rfl,aW⟩:=au;subst ag;have jH:oK[ac]?=some (.v (.int .u64 (sb.getD ac 0))):=by
   have:ac<sb.length:=by rw[Lib.pow10Tab_length];exact a_
   simp[oK,Gz,this]
  have ao:=j ac _ jH;have aH:=I ac _ jH;generalize dA ac=q at ao aH;cases aH with
  |v x ak=>have c6:off=0:=R;subst c6;rw[cp]at ao;simp[rP,ap.dR _ _ cc,ao]
variable{E:Env}{aS:Ren}{ad:b'}{ab:b8}{H:aa}{w:World}
def aPS{P:Program}(L:LaysM.n284 P aS)(u:Nat)(j:1≤u)(I:u<18446744073709551616)(w:World)
  (yv:∀ac,ac<20→w.cell? ⟨aS.g 17,ac,none⟩=some (.int .u64 (sb.getD ac 0))):
  Calls P (aS.f 284) #[.int .u64 u] w λ e aq=>e=.returned (.int .i64 (ww u))∧aq=w:=by
 have mixed:=L.mixed;have t53:=L.t53;have a53:=L.a53;have z53:=L.z53;have v53:=L.v53
 have t3:=L.t3;have a3:=L.a3;have z3:=L.z3;have v3:=L.v3
 have t212:=L.t212;have a212:=L.a212;have z212:=L.z212;have v212:=L.v212
 have t0:=L.t0;have a0:=L.a0;have z0:=L.z0;have v0:=L.v0
 have t4:=L.t4;have a4:=L.a4;have z4:=L.z4;have v4:=L.v4
 have aRj:∀args w,(callFunc (aS.f 129) args).run P w=.ok (.enter (aS.f 129) args) w:=enters_of L.f129 aK rfl;have aRk:∀args w,(callFunc (aS.f 317) args).run P w=.ok (.enter (aS.f 317) args) w:=enters_of L.f317 aK rfl;have aRl:∀args w,(callFunc (aS.f 318) args).run P w=.ok (.enter (aS.f 318) args) w:=enters_of L.f318 aK rfl;obtain⟨DN,aPT⟩:=Lib.numDigits_eq u j I;have e_:Lib.bitLen u≤64:=Lib.bitLen_le u 64 (cL _) I;have eh:w.cell? ⟨(aS.g 17),Lib.l10 (Lib.bitLen u),none⟩=some (.int .u64 ((10^Lib.l10 (Lib.bitLen u):Nat):Int)):=by rw[yv _ R,Lib.pow10Tab_at _ R]
 have aPU:((u:Int)).toNat=u:=R;generalize bm:Lib.l10 (Lib.bitLen u)=q at DN aPT eh;generalize dn:10^q=T at DN eh;have mP:q<20:=R;have aPV:=Lib.hid DN;clear DN yv
 go_enter L.f284,Body.n284_ntmps aS
 go_wp2_with (first
  |(go_at_fn (aS.f 129);refine(Any.bits_Len64 {L with} _ _ R R).mono ?_;rintro e aq ⟨rfl,rfl⟩)
  |(go_at_fn (aS.f 317);refine(Any.internal_strconv_log10Pow2 {L with} _ (by first|exact e_|(rw[aPU];exact e_)) _).mono ?_;rintro e aq ⟨rfl,rfl⟩)
  |(go_at_fn (aS.f 318);refine(Any.internal_strconv_bool2_int {L with} _ _).mono ?_;rintro e aq ⟨rfl,rfl⟩))
 all_goals go_ret
 all_goals (
  refine⟨?_,rfl⟩;have DN:=aPV.out
  congr 2
  split at DN<;>simp_all<;>omega)
def aPW(L:LaysM.n288 E.P aS)(u:Nat)(hu:u<100)(ap:b5 E ad ab H w){s r:U}{an:aa}{bO:Value}(fQ:a6 ad ab H s bO)
  (h:hz E H (aS.t 37) (aS.t 9) s (.i (.str (nq u)))=some (r,an)):
  Calls E.P (aS.f 288) #[bO,.int .u64 u,.int .i64 10] w λ e aq=>∃x,e=.returned x∧ci E ad ab H w an aq λ aL aB=>a6 aL aB an r x:=by
 have mixed:=L.mixed;have t5:=L.t5;have a5:=L.a5;have z5:=L.z5;have v5:=L.v5
 have t37:=L.t37;have Sg:=run_underlying L.t37;have a37:=L.a37;have z37:=L.z37;have v37:=L.v37
 have t53:=L.t53;have a53:=L.a53;have z53:=L.z53;have v53:=L.v53
 have t3:=L.t3;have a3:=L.a3;have z3:=L.z3;have v3:=L.v3
 have t4:=L.t4;have a4:=L.a4;have z4:=L.z4;have v4:=L.v4
 have t9:=L.t9;have a9:=L.a9;have z9:=L.z9;have v9:=L.v9
 have t171:=L.t171;have a171:=L.a171;have z171:=L.z171;have v171:=L.v171
 have t0:=L.t0;have a0:=L.a0;have z0:=L.z0;have v0:=L.v0
 have t173:=L.t173;have a173:=L.a173;have z173:=L.z173;have v173:=L.v173
 have aRm:∀args w,(callFunc (aS.f 283) args).run E.P w=.ok (.enter (aS.f 283) args) w:=enters_of L.f283 aK rfl
 go_enter L.f288,Body.n288_ntmps aS
 go_wp2_with (first
  |(go_at_fn (aS.f 283);refine(Any.internal_strconv_small {L with} u hu _).mono ?_;rintro e aq ⟨rfl,rfl⟩)
  |(at_builtin;refine aii rfl _ _ (aS.t 37) (aS.t 9) rfl h ap _ _ rfl rfl fQ (.i _ _ (.str _)) ?_))
 intro x f_ ef dW dm lN gW oj
 go_wp2
 go_ret
 exact⟨x,rfl,ef,dW,dm,lN,gW,oj⟩
def aPX(L:LaysM.n288 E.P aS)(u:Nat)(hu:100≤u)(DO:u<18446744073709551616)(ap:b5 E ad ab H w){s r:U}{an:aa}{bO:Value}(fQ:a6 ad ab H s bO)
  (yv:∀ac,ac<20→w.cell? ⟨aS.g 17,ac,none⟩=some (.int .u64 (sb.getD ac 0)))
  (h:hz E H (aS.t 37) (aS.t 9) s (.i (.str (nq u)))=some (r,an)):
  Calls E.P (aS.f 288) #[bO,.int .u64 u,.int .i64 10] w λ e aq=>∃x,e=.returned x∧ci E ad ab H w an aq λ aL aB=>a6 aL aB an r x:=by
 have mixed:=L.mixed;have t5:=L.t5;have a5:=L.a5;have z5:=L.z5;have v5:=L.v5
 have t37:=L.t37;have Sg:=run_underlying L.t37;have a37:=L.a37;have z37:=L.z37;have v37:=L.v37
 have t53:=L.t53;have a53:=L.a53;have z53:=L.z53;have v53:=L.v53
 have t3:=L.t3;have a3:=L.a3;have z3:=L.z3;have v3:=L.v3
 have t4:=L.t4;have a4:=L.a4;have z4:=L.z4;have v4:=L.v4
 have t9:=L.t9;have a9:=L.a9;have z9:=L.z9;have v9:=L.v9
 have t171:=L.t171;have a171:=L.a171;have z171:=L.z171;have v171:=L.v171
 have t0:=L.t0;have a0:=L.a0;have z0:=L.z0;have v0:=L.v0
 have t173:=L.t173;have a173:=L.a173;have z173:=L.z173;have v173:=L.v173
 have aRn:∀args w,(callFunc (aS.f 284) args).run E.P w=.ok (.enter (aS.f 284) args) w:=enters_of L.f284 aK rfl;have aRo:∀args w,(callFunc (aS.f 285) args).run E.P w=.ok (.enter (aS.f 285) args) w:=enters_of L.f285 aK rfl;have aik:1≤u:=R;have aRp:ww u≤20:=by have:=Lib.numDigits_eq u aik DO;split at this<;>omega
 have Aq:E.P.arrayLen (aS.t 171)=24:=by simp[Program.arrayLen,L.t171]
 have Hw:∀W,(uV (aS.t 171) (.pointer (some ⟨w.heap.size,0,none⟩)) none (some (.int .i64 (ww u:Int))) none).run E.P W=.ok (.slice (some ⟨w.heap.size,0,none⟩) (ww u) 24) W:=λ W=>by
  rw[run_sliceAt_array_h W (aS.t 171) ⟨w.heap.size,0,none⟩ (by simp[Program.arrayLen,Program.elem,L.t171]) .i64 (ww u:Int) R (by rw[Aq];omega)]
  go_simp
 have u1:=Lib.holds_zero0 w (aS.t 171) (ww u) R;have Sh:=Any.internal_strconv_formatBase10 {L with} w.heap.size 0 24 u (y_ (ww u) 0) (w.alloc (.cells AV (aS.t 171))) u1 (by rw[Si];exact Lib.lt_pow_nDigits u) DO (by rw[Si];omega);rw[Si]at Sh;have ail:=Lib.hid u1;have aRq:(100:Int)≤(u:Int):=R;have aPY:∀ai:Obj,∀ac,ac<20→(w.alloc ai).cell? ⟨aS.g 17,ac,none⟩=some (.int .u64 (sb.getD ac 0)):=λ ai ac a_=>by have aW:=yv ac a_;have be:=World.block_lt_of_cell? w _ aW;rw[World.cell?_of_block (zB w ai _ be)];exact aW
 clear u1 Aq
 go_enter L.f288,Body.n288_ntmps aS
 go_wp2_with (first
  |(go_at_fn (aS.f 284);refine(aPS {L with} u aik DO _ (aPY _)).mono ?_;rintro e aq ⟨rfl,rfl⟩))
 go_at_fn (aS.f 285)
 refine Sh.mono ?_;rintro e aq ⟨rfl,k,hb,yw,rfl,gR⟩;have Sj:∀ac Sk,(LK (nq u))[ac]?=some Sk→((putRow (λ(b:UInt8)=>jW .u8 (b.toNat:Int)) (w.alloc (.cells AV (aS.t 171))) w.heap.size 0 yw).drewN k).cell? ((⟨w.heap.size,0,none⟩:Addr).add ac)=some Sk:=by
  intro ac Sk a_;have jH:ac<(nq u).length:=by have bs:=(bF.1 a_).1;rwa [Lib.byteCells_length]at bs
  have mM:(LK (nq u))[ac]?=some (jW .u8 ((nq u)[ac].toNat:Int)):=by simp[LK,jH]
  rw[mM]at a_;cases a_;rw[Lib.row_is_numeral gR ac jH,Lib.add_plain,World.cell?_drewN];exact cell?_putRow (λ(b:UInt8)=>jW .u8 (b.toNat:Int)) _ w.heap.size 0 _ yw ail.out (by rw[gR.size,Si]) ac (by rw[gR.size];rw[Qw]at jH;exact jH)
 obtain⟨os,u9⟩:=Lib.fin_at w (.cells AV (aS.t 171)) yw k 0;have E4:((putRow (λ(b:UInt8)=>jW .u8 (b.toNat:Int)) (w.alloc (.cells AV (aS.t 171))) w.heap.size 0 yw).drewN k).os=w.os:=by rw[u9];rfl
 have nN:((putRow (λ(b:UInt8)=>jW .u8 (b.toNat:Int)) (w.alloc (.cells AV (aS.t 171))) w.heap.size 0 yw).drewN k).tape=w.tape:=by rw[u9];rfl
 have aim:((putRow (λ(b:UInt8)=>jW .u8 (b.toNat:Int)) (w.alloc (.cells AV (aS.t 171))) w.heap.size 0 yw).drewN k).output=w.output:=by rw[u9];rfl
 have ain:∀b,b<w.heap.size→((putRow (λ(b:UInt8)=>jW .u8 (b.toNat:Int)) (w.alloc (.cells AV (aS.t 171))) w.heap.size 0 yw).drewN k).heap[b]?=w.heap[b]?:=λ b aj=>by rw[u9];exact Lib.heap_grow_old w k os b aj
 have Wl:0<(nq u).length:=by
  rw[Qw];have gp:=Lib.lt_pow_nDigits u;rcases Nat.eq_zero_or_pos (ww u)with e|e
  ·rw[e]at gp;omega
  ·exact e
 generalize (putRow (λ(b:UInt8)=>jW .u8 (b.toNat:Int)) (w.alloc (.cells AV (aS.t 171))) w.heap.size 0 yw).drewN k=IZ at Sj E4 nN aim ain⊢;clear u9 ail Sh;obtain⟨cs,elem,bj,fy⟩:∃cs elem bj,IZ.heap[w.heap.size]?=some (.cells cs elem bj):=by
  have aW:=Sj 0 (jW .u8 ((nq u)[0].toNat:Int)) (by simp[LK,Wl]);simp only[rP,Lib.add_plain]at aW;split at aW
  ·rename_i cs elem bj aN;exact⟨cs,elem,bj,aN⟩
  ·cases aW
 have HG:w.heap.size<IZ.heap.size:=(jY.1 fy).1;obtain⟨ef,dm,lN,gW,Ta⟩:=aPP ap E4 nN aim HG ain fy;have bX:dl ef (.sl 1 ((nq u).map λ b=>[aC.v (.int .u8 b.toNat)]) false) (.slice (some ⟨w.heap.size,0,none⟩) (ww u) 24):=by
  have al:((nq u).map λ b=>[aC.v (.int .u8 b.toNat)]).length=ww u:=by rw[nM,Qw]
  rw[←al];refine .sl 1 _ false w.heap.size 0 24 cs elem bj (λ i _=>.int .u8 ((nq u).getD i 0).toNat) Ta (by rw[al];omega) (λ e=>by cases e) (λ i r ax=>?_) (λ i r ac a ax aA=>?_) (λ i r ac a ax aA=>?_)
  all_goals
   simp only[fw,c0]at ax;obtain⟨b,aj,rfl⟩:=ax
  ·rfl
  ·have a_:ac=0:=by have:=(bF.1 aA).1;simp at this;omega
   subst a_;have aW:=Sj i (.int .u8 b.toNat) (by simp[LK,aj]);simp only[rP,Lib.add_plain,fy]at aW;simp[Gz,aj];simpa using aW
  ·have a_:ac=0:=by have:=(bF.1 aA).1;simp at this;omega
   subst a_;simp at aA;subst aA;simp[Gz,aj];exact .v _ rfl
 have h1:=aPQ (ex:=false) ⟨aS.t 5,by simp[e0,L.t37]⟩ h
 go_wp2_with (at_builtin;refine aii rfl _ _ (aS.t 37) (aS.t 37) rfl h1 dm _ _ rfl rfl (gW _ _ fQ) (.i _ _ bX) ?_)
 intro x q4 eY ev tH sI gB iC
 go_wp2
 go_ret
 exact⟨x,rfl,eY,ev,tH,lN.trans sI,gW.trans gB,iC⟩
variable{E:Env}{aS:Ren}{ad:b'}{ab:b8}{H:aa}{w:World}
def aPZ(L:LaysM.n249 E.P aS)(u:Nat)(DO:u≤9223372036854775807)(ap:b5 E ad ab H w){s r:U}{an:aa}{bO:Value}(fQ:a6 ad ab H s bO)
  (yv:∀ac,ac<20→w.cell? ⟨aS.g 17,ac,none⟩=some (.int .u64 (sb.getD ac 0)))
  (h:hz E H (aS.t 37) (aS.t 9) s (.i (.str (nq u)))=some (r,an)):
  Calls E.P (aS.f 249) #[bO,.int .i64 u,.int .i64 10] w λ e aq=>∃x,e=.returned x∧ci E ad ab H w an aq λ aL aB=>a6 aL aB an r x:=by
 have mixed:=L.mixed;have t5:=L.t5;have a5:=L.a5;have z5:=L.z5;have v5:=L.v5
 have t37:=L.t37;have Sg:=run_underlying L.t37;have a37:=L.a37;have z37:=L.z37;have v37:=L.v37
 have t2:=L.t2;have a2:=L.a2;have z2:=L.z2;have v2:=L.v2
 have t3:=L.t3;have a3:=L.a3;have z3:=L.z3;have v3:=L.v3
 have t53:=L.t53;have a53:=L.a53;have z53:=L.z53;have v53:=L.v53
 have t4:=L.t4;have a4:=L.a4;have z4:=L.z4;have v4:=L.v4
 have aRr:∀args w,(callFunc (aS.f 288) args).run E.P w=.ok (.enter (aS.f 288) args) w:=enters_of L.f288 aK rfl;have BP:Calls E.P (aS.f 288) #[bO,.int .u64 u,.int .i64 10] w λ e aq=>∃x,e=.returned x∧ci E ad ab H w an aq λ aL aB=>a6 aL aB an r x:=by
  by_cases aP0:u<100
  ·exact aPW {L with} u aP0 ap fQ h
  ·exact aPX {L with} u R R ap fQ yv h
 have aE:¬((u:Int)<0):=R
 go_enter L.f249,Body.n249_ntmps aS
 go_wp2_with (go_at_fn (aS.f 288);refine(BP).mono ?_;rintro e fI ⟨v2,rfl,bY⟩)
 go_wp2
 first|go_ret|go_ret2
 exact⟨v2,rfl,bY⟩
def aP1(L:LaysM.n176 E.P aS)(u:Nat)(DO:u≤9223372036854775807)(ap:b5 E ad ab H w){s r:U}{an:aa}{bO:Value}(fQ:a6 ad ab H s bO)
  (yv:∀ac,ac<20→w.cell? ⟨aS.g 17,ac,none⟩=some (.int .u64 (sb.getD ac 0)))
  (h:hz E H (aS.t 37) (aS.t 9) s (.i (.str (nq u)))=some (r,an)):
  Calls E.P (aS.f 176) #[bO,.int .i64 u,.int .i64 10] w λ e aq=>∃x,e=.returned x∧ci E ad ab H w an aq λ aL aB=>a6 aL aB an r x:=by
 have mixed:=L.mixed;have t5:=L.t5;have a5:=L.a5;have z5:=L.z5;have v5:=L.v5
 have t37:=L.t37;have Sg:=run_underlying L.t37;have a37:=L.a37;have z37:=L.z37;have v37:=L.v37
 have t2:=L.t2;have a2:=L.a2;have z2:=L.z2;have v2:=L.v2
 have t3:=L.t3;have a3:=L.a3;have z3:=L.z3;have v3:=L.v3
 have aRs:∀args w,(callFunc (aS.f 249) args).run E.P w=.ok (.enter (aS.f 249) args) w:=enters_of L.f249 aK rfl;have BP:=aPZ {L with} u DO ap fQ yv h
 go_enter L.f176,Body.n176_ntmps aS
 go_wp2_with (go_at_fn (aS.f 249);refine(BP).mono ?_;rintro e fI ⟨v2,rfl,bY⟩)
 go_wp2
 go_ret
 exact⟨v2,rfl,bY⟩
def aP2(L:LaysM.n176 E.P aS)(aP:E.e4 (aS.g 17)=some oK):sc E (aS.f 176) (zO E.P (aS.t 37) (aS.t 9)):=by
 intro args H r an ah ad ab w vs ap bY;unfold zO at ah;split at ah
 ·rename_i s n b;split at ah
  ·rename_i ag;obtain⟨rfl,aW,j⟩:=ag;obtain⟨x,y,z,rfl,iB,tA,N_⟩:=arF bY;obtain rfl:=fv tA;obtain rfl:=fv N_;obtain⟨u,rfl⟩:∃u:Nat,n=u:=⟨n.toNat,R⟩;rw[Wv]at ah;exact aP1 L u R ap iB (λ ac a_=>aPR ap aP ac a_) ah
  ·cases ah
 ·cases ah
end Go.VI
namespace Go.VI
open Go.Proofs
open Go.Shelf
set_option maxRecDepth 100000
set_option maxHeartbeats 40000000
set_option linter.unusedVariables false
set_option linter.unusedSimpArgs false
set_option linter.defProp false
def Tryz.aio:Hg:=⟨λ|176=>196|249=>221|288=>229|283=>232|284=>233|285=>234|286=>235|129=>237|317=>236|318=>238|319=>239|320=>240|337=>241|338=>242|n=>n,λ|37=>22|2=>2|3=>3|53=>226|4=>4|9=>9|171=>256|0=>0|173=>259|212=>263|51=>241|5=>5|20=>20|213=>264|46=>184|232=>267|233=>268|n=>n,λ|17=>4|18=>5|19=>6|n=>n⟩
def Tryz.aP3:Go.Proofs.LaysM.n176 Tryz.prog Tryz.aio:={
 mixed:=aK
 f129:=Tryz.func237.trans (congrArg some aK)
 f176:=Tryz.func196.trans (congrArg some aK)
 f249:=Tryz.func221.trans (congrArg some aK)
 f283:=Tryz.func232.trans (congrArg some aK)
 f284:=Tryz.func233.trans (congrArg some aK)
 f285:=Tryz.func234.trans (congrArg some aK)
 f286:=Tryz.func235.trans (congrArg some aK)
 f288:=Tryz.func229.trans (congrArg some aK)
 f317:=Tryz.func236.trans (congrArg some aK)
 f318:=Tryz.func238.trans (congrArg some aK)
 f319:=Tryz.func239.trans (congrArg some aK)
 f320:=Tryz.func240.trans (congrArg some aK)
 f337:=Tryz.func241.trans (congrArg some aK)
 f338:=Tryz.func242.trans (congrArg some aK)
 t0:=Tryz.underlying0
 a0:=Tryz.isAgg0
 z0:=Tryz.sizeOf0
 v0:=Tryz.zeroValue0
 t2:=Tryz.underlying2
 a2:=Tryz.isAgg2
 z2:=Tryz.sizeOf2
 v2:=Tryz.zeroValue2
 t3:=Tryz.underlying3
 a3:=Tryz.isAgg3
 z3:=Tryz.sizeOf3
 v3:=Tryz.zeroValue3
 t4:=Tryz.underlying4
 a4:=Tryz.isAgg4
 z4:=Tryz.sizeOf4
 v4:=Tryz.zeroValue4
 t5:=Tryz.underlying5
 a5:=Tryz.isAgg5
 z5:=Tryz.sizeOf5
 v5:=Tryz.zeroValue5
 t9:=Tryz.underlying9
 a9:=Tryz.isAgg9
 z9:=Tryz.sizeOf9
 v9:=Tryz.zeroValue9
 t20:=Tryz.underlying20
 a20:=Tryz.isAgg20
 z20:=Tryz.sizeOf20
 v20:=Tryz.zeroValue20
 t37:=Tryz.underlying22
 a37:=Tryz.isAgg22
 z37:=Tryz.sizeOf22
 v37:=Tryz.zeroValue22
 t46:=Tryz.underlying184
 a46:=Tryz.isAgg184
 z46:=Tryz.sizeOf184
 v46:=Tryz.zeroValue184
 t51:=Tryz.underlying241
 a51:=Tryz.isAgg241
 z51:=Tryz.sizeOf241
 v51:=Tryz.zeroValue241
 t53:=Tryz.underlying226
 a53:=Tryz.isAgg226
 z53:=Tryz.sizeOf226
 v53:=Tryz.zeroValue226
 t171:=Tryz.underlying256
 a171:=Tryz.isAgg256
 z171:=Tryz.sizeOf256
 v171:=Tryz.zeroValue256
 t173:=Tryz.underlying259
 a173:=Tryz.isAgg259
 z173:=Tryz.sizeOf259
 v173:=Tryz.zeroValue259
 t212:=Tryz.underlying263
 a212:=Tryz.isAgg263
 z212:=Tryz.sizeOf263
 v212:=Tryz.zeroValue263
 t213:=Tryz.underlying264
 a213:=Tryz.isAgg264
 z213:=Tryz.sizeOf264
 t232:=Tryz.underlying267
 a232:=Tryz.isAgg267
 z232:=Tryz.sizeOf267
 v232:=Tryz.zeroValue267
 t233:=Tryz.underlying268
 a233:=Tryz.isAgg268
 z233:=Tryz.sizeOf268
 v233:=Tryz.zeroValue268
 g17:=aK
 g18:=aK
 g19:=aK
 i0:=aK
 i2:=aK
 i3:=aK
 i4:=aK
 i5:=aK
 i9:=aK
 i20:=aK
 i37:=aK
 i46:=aK
 i51:=aK
 i53:=aK
 i171:=aK
 i173:=aK
 i212:=aK
 i232:=aK
 i233:=aK
 m17:=aK
 m18:=aK
 m19:=by kernel_rfl}
def Tryz.aip:Hg:=⟨λ|171=>214|243=>225|246=>230|283=>232|284=>233|285=>234|286=>235|129=>237|317=>236|318=>238|319=>239|320=>240|337=>241|338=>242|n=>n,λ|3=>3|9=>9|2=>2|4=>4|171=>256|0=>0|53=>226|37=>22|5=>5|173=>259|212=>263|51=>241|20=>20|213=>264|46=>184|232=>267|233=>268|n=>n,λ|17=>4|18=>5|19=>6|n=>n⟩
def Tryz.aP4:Go.Proofs.LaysM.n171 Tryz.prog Tryz.aip:={
 mixed:=aK
 f129:=Tryz.func237.trans (congrArg some aK)
 f171:=Tryz.func214.trans (congrArg some aK)
 f243:=Tryz.func225.trans (congrArg some aK)
 f246:=Tryz.func230.trans (congrArg some aK)
 f283:=Tryz.func232.trans (congrArg some aK)
 f284:=Tryz.func233.trans (congrArg some aK)
 f285:=Tryz.func234.trans (congrArg some aK)
 f286:=Tryz.func235.trans (congrArg some aK)
 f317:=Tryz.func236.trans (congrArg some aK)
 f318:=Tryz.func238.trans (congrArg some aK)
 f319:=Tryz.func239.trans (congrArg some aK)
 f320:=Tryz.func240.trans (congrArg some aK)
 f337:=Tryz.func241.trans (congrArg some aK)
 f338:=Tryz.func242.trans (congrArg some aK)
 t0:=Tryz.underlying0
 a0:=Tryz.isAgg0
 z0:=Tryz.sizeOf0
 v0:=Tryz.zeroValue0
 t2:=Tryz.underlying2
 a2:=Tryz.isAgg2
 z2:=Tryz.sizeOf2
 v2:=Tryz.zeroValue2
 t3:=Tryz.underlying3
 a3:=Tryz.isAgg3
 z3:=Tryz.sizeOf3
 v3:=Tryz.zeroValue3
 t4:=Tryz.underlying4
 a4:=Tryz.isAgg4
 z4:=Tryz.sizeOf4
 v4:=Tryz.zeroValue4
 t5:=Tryz.underlying5
 a5:=Tryz.isAgg5
 z5:=Tryz.sizeOf5
 v5:=Tryz.zeroValue5
 t9:=Tryz.underlying9
 a9:=Tryz.isAgg9
 z9:=Tryz.sizeOf9
 v9:=Tryz.zeroValue9
 t20:=Tryz.underlying20
 a20:=Tryz.isAgg20
 z20:=Tryz.sizeOf20
 v20:=Tryz.zeroValue20
 t37:=Tryz.underlying22
 a37:=Tryz.isAgg22
 z37:=Tryz.sizeOf22
 v37:=Tryz.zeroValue22
 t46:=Tryz.underlying184
 a46:=Tryz.isAgg184
 z46:=Tryz.sizeOf184
 v46:=Tryz.zeroValue184
 t51:=Tryz.underlying241
 a51:=Tryz.isAgg241
 z51:=Tryz.sizeOf241
 v51:=Tryz.zeroValue241
 t53:=Tryz.underlying226
 a53:=Tryz.isAgg226
 z53:=Tryz.sizeOf226
 v53:=Tryz.zeroValue226
 t171:=Tryz.underlying256
 a171:=Tryz.isAgg256
 z171:=Tryz.sizeOf256
 v171:=Tryz.zeroValue256
 t173:=Tryz.underlying259
 a173:=Tryz.isAgg259
 z173:=Tryz.sizeOf259
 v173:=Tryz.zeroValue259
 t212:=Tryz.underlying263
 a212:=Tryz.isAgg263
 z212:=Tryz.sizeOf263
 v212:=Tryz.zeroValue263
 t213:=Tryz.underlying264
 a213:=Tryz.isAgg264
 z213:=Tryz.sizeOf264
 t232:=Tryz.underlying267
 a232:=Tryz.isAgg267
 z232:=Tryz.sizeOf267
 v232:=Tryz.zeroValue267
 t233:=Tryz.underlying268
 a233:=Tryz.isAgg268
 z233:=Tryz.sizeOf268
 v233:=Tryz.zeroValue268
 g17:=aK
 g18:=aK
 g19:=aK
 i0:=aK
 i2:=aK
 i3:=aK
 i4:=aK
 i5:=aK
 i9:=aK
 i20:=aK
 i37:=aK
 i46:=aK
 i51:=aK
 i53:=aK
 i171:=aK
 i173:=aK
 i212:=aK
 i232:=aK
 i233:=aK
 m17:=aK
 m18:=aK
 m19:=by kernel_rfl}
def Tryz.aiq:Hg:=⟨λ|217=>139|266=>202|n=>n,λ|9=>9|5=>5|3=>3|n=>n,λ|n=>n⟩
def Tryz.aP5:Go.Proofs.Lays.n217 Tryz.prog Tryz.aiq:={
 mixed:=aK
 f217:=Tryz.func139.trans (congrArg some aK)
 f266:=Tryz.func202.trans (congrArg some aK)
 t3:=Tryz.underlying3
 a3:=Tryz.isAgg3
 z3:=Tryz.sizeOf3
 v3:=Tryz.zeroValue3
 t5:=Tryz.underlying5
 a5:=Tryz.isAgg5
 z5:=Tryz.sizeOf5
 v5:=Tryz.zeroValue5
 t9:=Tryz.underlying9
 a9:=Tryz.isAgg9
 z9:=Tryz.sizeOf9
 v9:=Tryz.zeroValue9}
def Tryz.DP:Hg:=⟨λ|196=>64|259=>120|n=>n,λ|9=>9|4=>4|3=>3|5=>5|12=>12|119=>180|0=>0|46=>184|139=>183|138=>182|53=>226|n=>n,λ|3=>0|4=>1|n=>n⟩
def Tryz.DQ:Go.Proofs.Lays.n196 Tryz.prog Tryz.DP:={
 mixed:=aK
 f196:=Tryz.func64.trans (congrArg some aK)
 f259:=Tryz.func120.trans (congrArg some aK)
 t0:=Tryz.underlying0
 a0:=Tryz.isAgg0
 z0:=Tryz.sizeOf0
 v0:=Tryz.zeroValue0
 t3:=Tryz.underlying3
 a3:=Tryz.isAgg3
 z3:=Tryz.sizeOf3
 v3:=Tryz.zeroValue3
 t4:=Tryz.underlying4
 a4:=Tryz.isAgg4
 z4:=Tryz.sizeOf4
 v4:=Tryz.zeroValue4
 t5:=Tryz.underlying5
 a5:=Tryz.isAgg5
 z5:=Tryz.sizeOf5
 v5:=Tryz.zeroValue5
 t9:=Tryz.underlying9
 a9:=Tryz.isAgg9
 z9:=Tryz.sizeOf9
 v9:=Tryz.zeroValue9
 t12:=Tryz.underlying12
 a12:=Tryz.isAgg12
 z12:=Tryz.sizeOf12
 v12:=Tryz.zeroValue12
 t46:=Tryz.underlying184
 a46:=Tryz.isAgg184
 z46:=Tryz.sizeOf184
 v46:=Tryz.zeroValue184
 t53:=Tryz.underlying226
 a53:=Tryz.isAgg226
 z53:=Tryz.sizeOf226
 v53:=Tryz.zeroValue226
 t119:=Tryz.underlying180
 a119:=Tryz.isAgg180
 z119:=Tryz.sizeOf180
 t138:=Tryz.underlying182
 a138:=Tryz.isAgg182
 z138:=Tryz.sizeOf182
 v138:=Tryz.zeroValue182
 t139:=Tryz.underlying183
 a139:=Tryz.isAgg183
 z139:=Tryz.sizeOf183
 v139:=Tryz.zeroValue183
 g3:=aK
 g4:=by kernel_rfl}
def Tryz.air:Hg:=⟨λ|4=>201|n=>n,λ|22=>65|25=>67|3=>3|4=>4|9=>9|20=>20|0=>0|n=>n,λ|n=>n⟩
def Tryz.aP6:Go.Proofs.Lays8.n4 Tryz.prog Tryz.air:={
 mixed:=aK
 f4:=⟨Tryz.f201.name,by decide,Tryz.func201.trans (congrArg some aK)⟩
 t0:=Tryz.underlying0
 a0:=Tryz.isAgg0
 z0:=Tryz.sizeOf0
 v0:=Tryz.zeroValue0
 t3:=Tryz.underlying3
 a3:=Tryz.isAgg3
 z3:=Tryz.sizeOf3
 v3:=Tryz.zeroValue3
 t4:=Tryz.underlying4
 a4:=Tryz.isAgg4
 z4:=Tryz.sizeOf4
 v4:=Tryz.zeroValue4
 t9:=Tryz.underlying9
 a9:=Tryz.isAgg9
 z9:=Tryz.sizeOf9
 v9:=Tryz.zeroValue9
 t20:=Tryz.underlying20
 a20:=Tryz.isAgg20
 z20:=Tryz.sizeOf20
 v20:=Tryz.zeroValue20
 t22:=Tryz.underlying65
 a22:=Tryz.isAgg65
 z22:=Tryz.sizeOf65
 v22:=Tryz.zeroValue65}
def Tryz.ais:Hg:=⟨λ|4=>222|n=>n,λ|22=>26|25=>65|3=>3|4=>4|9=>9|20=>20|0=>0|n=>n,λ|n=>n⟩
def Tryz.aP7:Go.Proofs.Lays8.n4 Tryz.prog Tryz.ais:={
 mixed:=aK
 f4:=⟨Tryz.f222.name,by decide,Tryz.func222.trans (congrArg some aK)⟩
 t0:=Tryz.underlying0
 a0:=Tryz.isAgg0
 z0:=Tryz.sizeOf0
 v0:=Tryz.zeroValue0
 t3:=Tryz.underlying3
 a3:=Tryz.isAgg3
 z3:=Tryz.sizeOf3
 v3:=Tryz.zeroValue3
 t4:=Tryz.underlying4
 a4:=Tryz.isAgg4
 z4:=Tryz.sizeOf4
 v4:=Tryz.zeroValue4
 t9:=Tryz.underlying9
 a9:=Tryz.isAgg9
 z9:=Tryz.sizeOf9
 v9:=Tryz.zeroValue9
 t20:=Tryz.underlying20
 a20:=Tryz.isAgg20
 z20:=Tryz.sizeOf20
 v20:=Tryz.zeroValue20
 t22:=Tryz.underlying26
 a22:=Tryz.isAgg26
 z22:=Tryz.sizeOf26
 v22:=Tryz.zeroValue26}
end Go.VI
namespace Go.VI
open Go.Lib
open Go.Proofs
open Go.RowKit
open Go.Shelf
set_option maxRecDepth 100000
set_option maxHeartbeats 40000000
set_option linter.unusedVariables false
set_option linter.unusedSimpArgs false
set_option linter.defProp false
section
variable{E:Env}{aS:Ren}{ad:b'}{ab:b8}{H:aa}{w:World}
def aP8{g:Nat}{name:String}(aE:E.P.globalNamed name=some g)(ap:b5 E ad ab H w)(aP:E.e4 g=some oK):Lib.TabIs E.P w name .u64 sb:=by
 obtain⟨ah,cs,e,bj,cc,eu⟩:=ap.e4 g _ aP;unfold Lib.TabIs World.var?;rw[aE];simp only[OO,ap.dR _ _ cc,bg];generalize ag:oK=cells at ah;generalize au:Cg (some ⟨g,0,none⟩)=p at ah;cases ah with
 |gd _ _ b off cs' elem Vm dA ait j I=>
  simp at au;obtain⟨rfl,aW⟩:=au;have c6:off=0:=R;subst c6;rw[cc]at ait;cases ait;subst ag;apply Array.ext';apply EO;intro k;by_cases ay:k<sb.length
  ·have jH:oK[k]?=some (.v (.int .u64 sb[k])):=by simp[oK,ay]
   have ao:=j k _ jH;have aH:=I k _ jH;generalize dA k=q at ao aH;cases aH with
   |v x ak=>rw[cp]at ao;simp[ay];simpa using ao
  ·have:oK.length=sb.length:=by simp[oK]
   rw[rW (by simp;omega),rW (by simp;omega)]
def below_grow(w:World)(k:Nat)(os:Array Obj):Below w.heap.size w (Go.Sort.grow (w.drewN k) os):=⟨rfl,rfl,rfl,by show w.heap.size≤(w.heap++os).size;simp,λ ac a_=>by show(w.heap++os)[ac]?=_;exact xc a_⟩
def aP9(L:LaysM.n171 E.P aS){g:Nat}(aE:E.P.globalNamed "internal/strconv.uint64pow10"=some g)(aP:E.e4 g=some oK):sc E (aS.f 171) xE:=by
 intro args H r an ah ad ab w vs ap bY;unfold xE at ah;split at ah
 ·rename_i n;split at ah
  ·rename_i ag;cases ah;obtain⟨y,rfl,iB⟩:=LI bY;obtain rfl:=fv iB;refine(Any.strconv_Itoa L n ag.1 ag.2 w (aP8 aE ap aP)).mono ?_;rintro e aq ⟨rfl,k,os,rfl⟩;obtain⟨aL,aB,bG,bC,cE,rfl,rfl⟩:=G5 ap (below_grow w k os);exact⟨_,rfl,_,_,bG,bC,cE,.i _ _ (.str _)⟩
  ·cases ah
 ·cases ah
def aP_{ad:b'}{v:Value}{z:Nat}(h:dl ad (.sl z [] true) v):∃a,v=.slice a 0 0:=by
 generalize ak:aC.sl z [] true=x at h;cases h with
 |nil aw ex a cap he=>cases ak;exact⟨a,by rw[he rfl]⟩
 |sl aw rows ex b off cap cs elem bj dA cc ag he=>cases ak;exact⟨_,by rw[he rfl];rfl⟩
 |_=>cases ak
def aiu(L:Lays8.n4 E.P aS){i0:TypeInfo}{z:Nat}{dX:Value}(bf:0<z)(ax:E.P.info? (aS.t 25)=some i0)(aW:i0.zero=some dX)(j:i0.size=z)(I:dX.cells.size=z)(av:i0.bytes≤1000):sc E (aS.f 4) (qd z):=by
 intro args H r an ah ad ab w vs ap bY;unfold qd at ah;split at ah
 ·rename_i c_ n;split at ah
  ·rename_i ag;cases ah;obtain⟨x,y,rfl,iB,tA⟩:=OH bY;obtain rfl:=fv tA;obtain⟨a,rfl⟩:=aP_ (iA iB);obtain⟨k,rfl⟩:=jb ag.1;by_cases ay:k=0
   ·subst ay;refine(Any8.slices_Grow_room L a 0 0 0 w (cL _) (by decide) (by decide) (by decide)).mono λ e aq ⟨he,hw⟩=>?_
    subst he hw;exact⟨_,rfl,LJ ap (wv _ _) bf a⟩
   ·have aj:(0+k)*i0.bytes≤140737488355328:=rN (Nat.mul_le_mul (show 0+k≤1000000 by omega) av) (by decide);refine(Any8.slices_Grow_grow L i0 dX ax aW R a 0 0 k [] w (cL _) R aj R (by simp) (λ _=>rfl) (λ _ _ ac v h=>by simp at h)).mono λ e aq ⟨he,hw⟩=>?_
    subst he hw;have Mq:∀m,(Ev dX.cells m).size=m*z:=λ m=>by simp[Ev,I]
    generalize grownCap w (0+k) 0 (aS.t 25)=cap;refine⟨_,rfl,Sd ap ((wv _ w).drew.alloc (cL _) _) (cL _) (heap_alloc_new w.drew _) (pb _) bf (λ i r h=>by simp at h) (λ i r k a h=>by simp at h) (by simp) (jp _) ?_⟩;simp only[MR,Mq,H8,dr];have:cap*z≤(0+k+(cap-(0+k)))*z:=jX _ R;rw[hc]at this;simp only[sf];omega
  ·cases ah
 ·cases ah
def Sl{g:Nat}{cells:List aC}(ap:b5 E ad ab H w)(aP:E.e4 g=some cells)(ac:Nat){x:Value}(a_:cells[ac]?=some (.v x)):w.cell? ⟨g,ac,none⟩=some x:=by
 have h:=(ap.e4 g _ aP).1;generalize au:Cg (some ⟨g,0,none⟩)=p at h;cases h with
 |gd _ _ b off cs elem bj dA cc j I=>
  simp at au;obtain⟨rfl,aW⟩:=au;have ao:=j ac _ a_;have aH:=I ac _ a_;generalize dA ac=q at ao aH;cases aH with
  |v x ak=>have c6:off=0:=R;subst c6;rw[cp]at ao;simp[rP,ap.dR _ _ cc,ao]
def aiv:∀c:Fin 256,Ww c.val=(firstT c.val:Int):=by decide+kernel
def aP'{c:Nat}(h:c<256):vF[c]?=some (.v (.int .u8 (firstT c))):=by rw[←aiv ⟨c,h⟩];simp[vF,h]
def aQa:∀c:Fin 16,([128,191,160,191,128,159,144,191,128,143]++cB 22 (0:Int))[2*c.val]?=some (accLo c.val:Int)∧([128,191,160,191,128,159,144,191,128,143]++cB 22 (0:Int))[2*c.val+1]?=some (accHi c.val:Int):=by decide+kernel
def aiw{c:Nat}(h:c<16):vG[2*c]?=some (.v (.int .u8 (accLo c)))∧vG[2*c+1]?=some (.v (.int .u8 (accHi c))):=by have:=aQa ⟨c,h⟩;unfold vG;rw[fw,fw,this.1,this.2];exact⟨rfl,rfl⟩
def aQb(L:Lays.n196 E.P aS)(av:E.e4 (aS.g 3)=some vF)(ba:E.e4 (aS.g 4)=some vG):sc E (aS.f 196) xF:=by
 intro args H r an ah ad ab w vs ap bY;unfold xF at ah;split at ah
 ·rename_i s;split at ah
  ·rename_i ag;cases ah;obtain⟨y,rfl,iB⟩:=LI bY;obtain rfl:=p0 iB;refine(Any.utf8_ValidString L ⟨⟨s⟩⟩ w (by simpa[ByteArray.size]using ag) ⟨λ c ag=>Sl ap av c (aP' ag),λ c ag=>⟨Sl ap ba _ (aiw ag).1,Sl ap ba _ (aiw ag).2⟩⟩).mono λ e aq ⟨he,aj⟩=>?_
   subst he;obtain⟨aL,aB,bG,bC,cE,rfl,rfl⟩:=G5 ap aj;exact⟨_,rfl,_,_,bG,bC,cE,.i _ _ (.v _ rfl)⟩
  ·cases ah
 ·cases ah
def aQc(L:Lays.n217 E.P aS):sc E (aS.f 217) vE:=arE λ s c w=>Any.stringslite_IndexByte L s c w
end
def extOK:zk E:=by
 intro f h aI;rcases awN f h aI with⟨rfl,rfl⟩|⟨rfl,rfl⟩|⟨rfl,rfl⟩|⟨rfl,rfl⟩|⟨rfl,rfl⟩|⟨rfl,rfl⟩|⟨rfl,rfl⟩|⟨rfl,rfl⟩|⟨rfl,rfl⟩|⟨rfl,rfl⟩|I
 ·exact aPO
 ·exact aPE
 ·exact aQb (E:=E) (aS:=Tryz.DP) Tryz.DQ abl abm
 ·exact aPH
 ·exact aPK
 ·exact aQc (E:=E) (aS:=Tryz.aiq) Tryz.aP5
 ·exact aP2 (E:=E) (aS:=Tryz.aio) Tryz.aP3 O8
 ·obtain⟨i0,ax,o',j0,kq⟩:=info_parts (show(Tryz.prog.info? 67).map (λ i=>(i.zero,i.size,i.bytes))=some (some (.agg #[.string ⟨#[]⟩,.int .i64 0,.int .i64 0,.int .i64 0,.int .i64 0]),5,48)from aK);exact aiu (E:=E) (aS:=Tryz.air) Tryz.aP6 (by decide) ax o' j0 aK R
 ·exact aP9 (E:=E) (aS:=Tryz.aip) (g:=4) Tryz.aP4 aK O8
 ·obtain⟨i0,ax,o',j0,kq⟩:=info_parts (show(Tryz.prog.info? 65).map (λ i=>(i.zero,i.size,i.bytes))=some (some (.slice none 0 0),1,24)from aK);exact aiu (E:=E) (aS:=Tryz.ais) Tryz.aP7 (by decide) ax o' j0 aK R
 ·exact I.elim
def aix{W:World}{name:String}{g:Nat}(aE:Tryz.prog.globalNamed name=some g){cs:Array Value}(bh:W.var? Tryz.prog name=some cs){fL:List Value}(ag:cs.toList=fL)(j:∀v∈fL,v.oneCell'=true):tx (nn W) g (fL.map .v):=by
 unfold World.var? at bh;rw[aE]at bh;simp only[OO]at bh;split at bh
 ·rename_i cs' e bj aN;simp only[bg]at bh;subst bh;have al:cs'.size=fL.length:=by rw[←ag];simp
  refine⟨.gd _ 0 g 0 cs' e bj (λ k=>fL.getD k undef) aN (λ k a ay=>?_) (λ k a ay=>?_),cs',e,bj,aN,by simp[al]⟩
  ·have fR:k<fL.length:=by have:=(bF.1 ay).1;simpa using this
   rw[cp,←mH,ag];simp[Gz,fR]
  ·have fR:k<fL.length:=by have:=(bF.1 ay).1;simpa using this
   rw[fw,eX fR]at ay;simp only[en,bg]at ay;subst ay;simp[Gz,fR];exact .v _ (j _ (mL fR))
 ·cases bh
def aiy{k:IntKind}{l:List Int}:∀v∈l.map (jW k),v.oneCell'=true:=by intro v bh;obtain⟨x,_,rfl⟩:=Fa.1 bh;rfl
def Sm{W:World}{name:String}{g:Nat}{k:IntKind}{l:List Int}(aE:Tryz.prog.globalNamed name=some g){t e:TypeId}{n:Nat}(zp:(Tryz.prog.globals[g]?).map (·.type)=some t)(bp:Tryz.prog.underlying t=some (.array n e))(he:Tryz.prog.underlying e=some (.int k))(Eg:Tryz.prog.cellsOf e=1)(aQd:Tryz.prog.cellsOf t=n)(h:VarReads Tryz.prog W name (tabData k l)):tx (nn W) g (l.map λ x=>.v (.int k x)):=by obtain⟨aU,jo,cs,oI,p,Sn,So,Sp,aM⟩:=h;obtain rfl:=pY (aE.symm.trans Sn);obtain rfl:=pY (zp.symm.trans So);have:=aix aE Sp (cells_of_tab bp he Eg aQd aM) aiy;rwa [vH]at this
def aQe{H:Type}{enc:TypeId×Value→H}{P:Program}{w:World}{base:Nat}{mn:Nat→Bool}{held:Bool}{oI:Nat}{t e:TypeId}{n:Nat}{cs:List Value}{cK:List (DataW H)}{p:List MemPlace}(bp:P.underlying t=some (.array n e))
  (h:r5 enc P w base mn held oI t cs=some (.agg cK,p)):cs.length=P.cellsOf t:=by
 cases oI with
 |zero=>simp[r5]at h
 |succ oI=>
  simp only[r5,bp]at h;split at h
  ·assumption
  ·cases h
def LL:List Int:=[128,191,160,191,128,159,144,191,128,143]++cB 22 (0:Int)
def aQf:∀i:Fin 16,((LL.map (jW .u8)).drop (i.val*2)).take 2=[.int .u8 (accLo i.val),.int .u8 (accHi i.val)]:=by
 have h:∀i:Fin 16,(LL.drop (i.val*2)).take 2=[(accLo i.val:Int),(accHi i.val:Int)]:=by decide+kernel
 intro i;rw[←sk,←vZ,h i];rfl
def aiz{α:Type}:∀(n:Nat) (a b:List α),a.length=n*2→b.length=n*2→(∀i,i<n→(a.drop (i*2)).take 2=(b.drop (i*2)).take 2)→a=b
 |0,[],[],_,_,_=>rfl
 |n+1,[x],_,aA,_,_=>by simp at aA;omega
 |n+1,_::_::_,[u],_,aj,_=>by simp at aj;omega
 |n+1,x::y::a,u::v::b,aA,aj,h=>by
  have aW:=h 0 R;simp at aW;obtain⟨rfl,rfl⟩:=aW;rw[aiz n a b (by simp at aA;omega) (by simp at aj;omega) λ i ax=>by
   have:=h (i+1) R;rwa [show(i+1)*2=i*2+1+1 by omega,Sq,Sq,Sq,Sq]at this]
def aQg{W:World}{g:Nat}(aE:Tryz.prog.globalNamed "unicode/utf8.acceptRanges"=some g)(zp:(Tryz.prog.globals[g]?).map (·.type)=some (Tryz.DP.t 139))(h:VarReads Tryz.prog W "unicode/utf8.acceptRanges" acceptData):tx (nn W) g vG:=by
 obtain⟨aU,jo,cs,oI,p,Sn,So,Sp,aM⟩:=h;obtain rfl:=pY (aE.symm.trans Sn);obtain rfl:=pY (zp.symm.trans So);have hlen:=aQe Tryz.DQ.t139 aM;rw[show Tryz.prog.cellsOf (Tryz.DP.t 139)=16*2 from aK]at hlen;have ff:Tryz.prog.cellsOf (Tryz.DP.t 138)=2:=aK;have eS:cs.toList=LL.map (jW .u8):=aiz 16 _ _ hlen (by simp[LL]) λ i ax=>by
  obtain⟨aRt,d,q,aiA,he⟩:=array_elem Tryz.DQ.t139 aM i ax;simp only[fw,Jf ax,en,bg]at aiA;subst aiA;rw[ff]at he;have pc:Tryz.prog.cellsOf (Tryz.DP.t 5)=1:=aK;have:=ints_of_struct Tryz.DQ.t138 (λ ac f a_=>by
   match ac,a_ with
   |0,a_=>simp at a_;subst a_;exact⟨Tryz.DQ.t5,rfl,pc⟩
   |1,a_=>simp at a_;subst a_;exact⟨Tryz.DQ.t5,rfl,pc⟩
   |ac+2,a_=>simp at a_) (by rw[ff];rfl) he
  rw[this,aQf ⟨i,ax⟩];rfl
 have:=aix aE Sp eS aiy;rwa [vH]at this
def globs4{W:World}{a b:String×DataW Unit}(h:laidMet Tryz.prog [a,b,("internal/strconv.uint64pow10",tabData .u64 pow10Tab),("narrator/attr.codes",tabData .i64 [1,2,3,4,5,7,8,9]),("unicode/utf8.acceptRanges",acceptData),("unicode/utf8.first",firstData)] W):∀g cells,E.e4 g=some cells→tx (nn W) g cells:=by
 obtain⟨bk,al,_⟩:=h;have ah:=LaidVars_reads al;intro g cells aP;rcases awL g cells aP with⟨rfl,rfl⟩|⟨rfl,rfl⟩|⟨rfl,rfl⟩|⟨rfl,rfl⟩|h1
 ·have:=Sm (g:=0) (t:=180) (e:=5) (n:=256) aK aK Tryz.underlying180 Tryz.underlying5 aK aK (ah _ _ (by simp):VarReads Tryz.prog W "unicode/utf8.first" firstData);rw[show vF=firstTab.map λ x=>aC.v (.int .u8 x)from by
   unfold vF firstTab;rw[vH];exact zn λ c ag=>by rw[aiv ⟨c,zv.1 ag⟩];rfl]
  exact this
 ·exact aQg aK aK (ah _ _ (by simp))
 ·exact Sm (g:=2) (t:=239) (e:=3) (n:=8) (l:=[1,2,3,4,5,7,8,9]) aK aK Tryz.underlying239 Tryz.underlying3 aK aK (ah "narrator/attr.codes" _ (by simp))
 ·exact Sm (g:=4) (t:=263) (e:=226) (n:=20) (l:=pow10Tab) aK aK Tryz.underlying263 Tryz.underlying226 aK aK (ah "internal/strconv.uint64pow10" _ (by simp))
 ·exact h1.elim
end Go.VI
namespace Go.VI
open Go.Proofs
open Go.RowKit
open Go.Shelf
set_option maxRecDepth 100000
set_option maxHeartbeats 40000000
set_option linter.unusedVariables false
set_option linter.unusedSimpArgs false
set_option linter.defProp false
def mkOK:zl E:=by
 intro g fn h v w bh;rcases awJ g fn h with⟨rfl,rfl⟩|⟨rfl,rfl⟩|h
 ·go_enter Tryz.func153,Tryz.ntmps153
  go_wp2
  go_ret
  exact⟨rfl,_,rfl⟩
 ·go_enter Tryz.func156,Tryz.ntmps156
  go_wp2
  go_ret
  exact⟨rfl,_,rfl⟩
 ·exact h.elim
end Go.VI
