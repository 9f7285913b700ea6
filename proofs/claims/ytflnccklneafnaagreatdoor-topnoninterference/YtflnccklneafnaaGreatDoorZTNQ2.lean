import Derived.Test.YtflnccklneafnaaGreatDoorZTNQ1
import Derived.Tactics
import Derived.TacticsIn
import Derived.OrdersIn
import Derived.LoopN
import Derived.LoopNIn
import Derived.RangeFuncLeaves
import Derived.RangeFuncRecord
import Derived.RangeFuncSeq
import Derived.Below
import Derived.Scope
import Derived.ChangeSame
import Derived.ChangeSlices
import Derived.WideShapes
import Derived.RowKit
import Derived.WideKeyArgs
import Derived.ChangeArms
import Derived.ChangeReads
import Derived.ChangeMaps5
import Derived.Lib.Bytealg
import Derived.Lib.ItoaNum
import Derived.Lib.SlTrimSet
import Derived.Lib.ValidU
open Array renaming getElem?_toList→nM,getD_eq_getD_getElem?→dM,getElem?_eq_some_iff→kg,length_toList→wG,getElem?_push→J9,getElem?_eq_getElem→r9,eq_empty_of_size_eq_zero→AQ,replicate→AR,getElem?_append_left→yD,toList_map→O5,size_append→Pj,getElem?_append_right→Wn,getElem?_replicate→Qm
open Bool renaming false_eq_true→gk,and_eq_true→c',or_eq_true→yq,and_self→PB,not_eq_true'→rh,or_false→yW,false_or→D3,and_eq_false_iff→Ql,true→ah,false→J
open Go.Builtin renaming firstCells→jx,append_→sa,copy_→GW
open Go.Call renaming operands→PV
open Go.Fence renaming wide→A6
open Go.Instr renaming sureAddr→Av
open Go.Region renaming before→q2,binds→w3,ready→Hg
open Go.Result renaming andThen_ok→eM
open Go.RowKit renaming Below→Hw
open Go.RowKit.Below renaming heap_alloc→Bj
open Go.Sem renaming run_bind→ep,run_pure→e8,run→ud
open Go.Value renaming cells→s_,oneCell'→OC
open Go.World renaming cell?→q9,putObj_heap_other→Hv,size_alloc→Qs
open List renaming replicate→cH,range'→ms,length_eq_zero_iff→pq,map_cons→fC,mem_cons→mx,pairwise_cons→wz,getElem?_map→fQ,getElem?_eq_some_iff→bQ,getElem?_take→oQ,getElem?_drop→s8,getElem?_append_left→eO,getElem?_append_right→hK,getElem?_eq_getElem→eC,length_append→dK,foldl_cons→vd,all_eq_true→py,length_cons→da,append_assoc→eo,mapM_cons→OG,getElem?_set_ne→dW,set_getElem_self→Dm,getElem?_set_self→k9,append_nil→dC,set_append_right→AG,set_set→wI,nil_append→hb,getElem?_append→vi,mem_of_getElem?→jP,length_nil→dS,getElem_of_mem→GH,length_set→kl,getElem?_cons_zero→rc,size_toArray→Dq,length_take→hV,length_drop→j6,mem_append→gA,getElem?_eq_none→sd,length_pos_iff→Pt,ext_getElem?→DF,getElem?_cons_succ→kp,nodup_cons→G3,mem_filter→PL,map_congr_left→yO,getD_cons_zero→DV,pairwise_append→P8,length→DX,set_comm→oZ,set_append_left→w5,mem_map→D0,map_nil→fN,take_zero→nU,take_succ_cons→w6,mem_range→Bd,getD_eq_getElem?_getD→pN,drop_zero→i6,drop_eq_getElem_cons→jk,drop_length→mN,length_eq_one_iff→Ym
open List.cons renaming injEq→Dr
open Nat renaming lt_of_lt_of_le→wx,le_refl→cS,le_trans→s6,add_zero→fr,mul_le_mul_right→kF,add_mul→hT,zero_add→cJ,mul_comm→wD,div_add_mod→AA,add_assoc→vb,sub_self→r7,min_eq_left→Pp,not_le→fH,add_comm→rl,zero_le→iC,not_lt_zero→ti,le_max_left→y2,le_max_right→y5
open Ne renaming symm→bi
open Option renaming map_eq_some_iff→dp,bind_eq_some_iff→Dj,getD_some→jQ,map_some→eH,ext→y7,some→j,none→o
open Option.some renaming inj→q6,injEq→br
open Prod.mk renaming injEq→bM
namespace Go.VI
set_option maxRecDepth 100000
set_option maxHeartbeats 40000000
set_option linter.unusedVariables false
set_option linter.unusedSimpArgs false
set_option linter.defProp false
section
variable{E:Env}{ad:cn}{ae:cj}{H:ab}{w:World}
def am7(au:cf E ad ae H w){t t2 eG:TypeId}{z:Nat}{x y v:ay}{GV l8:Value}{aq:ab}(h:rT E H t z x y=j (v,aq))(rd:bf ad ae H x GV)(rx:bf ad ae H y l8):
  ∃u av,(GW #[t,t2] eG #[GV,l8]).run E.P w=.ok u av∧cz E ad ae H w aq av λ aQ aG=>bf aQ aG aq v u:=by
 unfold rT at h;split at h;rotate_left
 ·cases h
 rename_i h9;obtain⟨e,b,eB,he,bp,an,hzero,fG,oT,qg,AX⟩:=Kt h9;unfold An at h;split at h;rotate_left
 ·cases h
 rename_i d new H1 yJ;obtain⟨g2,off,s2,dv,_,nR,ci,gd,rfl,eY,a2,Kv,rfl,ns,kL,qn,_⟩:=Kq E.P au rx yJ;have fS:d<H.length:=(bQ.1 nR).1;have qk:∀(i:Nat) (y:er),i<new.length→dv[off+i]?=j y→nd ad ae w z d (off+i) y (eY.getD i undef):=λ i y aB bb=>qn i y (by rw[gd i aB];exact bb)
 split at h;rotate_left
 ·cases h
 rename_i c g I len;unfold C4 at h;split at h;rotate_left
 ·cases h
 rename_i ds a6 dB rows AY;split at h;rotate_left
 ·cases h
 rename_i Pl;obtain⟨rfl,rfl,fV,hlen,Po⟩:=Pl;simp only[br,bM]at h;obtain⟨rfl,rfl⟩:=h;have om:H[c]?=j (.aE z g dB rows):=by rw[dW (bi fV)]at AY;exact AY
 have cD:c<H.length:=(bQ.1 om).1;obtain⟨_,a,cap,rfl,fR⟩:=((yB rd).2.2 _ _ _ _ om).2 rfl;have A0:Nat.min new.length len=new.length:=Pp Po;by_cases a8:new.length=0
 ·have wT:new=[]:=pq.1 a8;subst wT;have ui:eY=#[]:=AQ kL;have A1:(jx 1 0 (.slice a2 0 Kv)).run E.P w=.ok #[] w:=by rw[←ui];exact ns w rfl
  refine⟨.int .i64 0,w,?_,?_⟩
  ·have hm:Nat.min 0 len=0:=Nat.zero_min _;cases a<;>simp[GW,run_underlying (iV he),(hr bp w).1,Dz w,hm,A1,storeCells,goInt]
  ·obtain⟨eI,ey,pD,hc,nS,ar,aM⟩:=Dy au nR (g1:=g2) (s1:=s2+1) (vl:=fB dv off 0) (.inr ⟨rfl,aa,by rw[tc]⟩) (by rw[tc];exact cS _) (λ i y bb=>by rw[tc]at bb;exact bb);subst ar aM;have pE:rows.take I++(([]:c0)++rows.drop (I+([]:c0).length))=rows:=aX;obtain⟨fs,eW,i1,hn,kK,bZ,dx⟩:=Dy pD AY (g1:=g) (s1:=dB+1) (vl:=rows.take I++(([]:c0)++rows.drop (I+([]:c0).length))) (.inr ⟨rfl,aa,by rw[pE]⟩) (by rw[pE];exact cS _) (λ i y bb=>by rw[pE]at bb;exact bb);subst bZ dx;exact⟨_,_,i1,hc.trans hn,nS.trans kK,.i _ _ (.v _ rfl)⟩
 ·rcases au.ch _ _ om with⟨cy,cN⟩|⟨dj,cs,elem,bs,ct,t_,hs,eQ,eN⟩
  ·subst cN;simp at hlen;omega
  ·rcases fR with⟨p,_⟩|⟨b0,m,p,ql,k',vm⟩
   ·rw[ct]at p;cases p
   rw[ct]at p;cases p;rcases vm with rfl|⟨p,_⟩;rotate_left
   ·omega
   have tb:∀v∈eY.toList,v.oneCell'=ah:=by
    intro v bo;obtain⟨ac,bc,rfl⟩:=GH bo;have l3:ac<eY.size:=by simpa using bc
    have:=(qn ac _ (eC aa)).one;simpa[dM,l3]using this
   obtain⟨av,iq,bK,bJ,cL,e4,mI,wU,DB,uj,wV⟩:=wK E.P dj I elem bs eY.toList 0 cs w t_ hs (by simp;omega) tb;refine⟨.int .i64 new.length,av,?_,?_⟩
   ·simp[GW,run_underlying (iV he),(hr bp w).1,Dz w,A0,ns w rfl,bK,goInt]
   have kj:∀ac,iq.getD ac undef=if I≤ac∧ac<I+new.length then eY.getD (ac-I) undef else cs.getD ac undef:=by
    intro ac;rw[dM,wV];simp only[fr,wG,kL];split
    ·rw[nM,dM]
    ·rw[dM]
   have fM:(rows.take I++(new++rows.drop (I+new.length))).length=rows.length:=by simp;omega
   refine Du au (c:=c) (d:=d) (I:=I) (rows:=rows) (cs:=cs) (eY:=eY) (fm:=dj) (jA:=iq) (ar:=elem) (wQ:=bs) (av:=av) (n:=new.length) (off:=off) (e3:=rows.take I++(new++rows.drop (I+new.length))) (g1:=g) (s1:=dB+1) (z:=z) (g2:=g2) (s2:=s2) (dv:=dv)
    fV nR ci aX (by simp[cD]) (by rw[dW fV];simp[fS]) (λ e p U=>by rw[dW (bi p),dW (bi U)]) (λ _=>⟨_,_,_,_,om,.inr ⟨rfl,rfl,aa,fM,by rw[uj];exact ct⟩⟩)
    bJ (by rw[uj];exact hs) (by rw[uj,fM];exact eQ) (.inl (by rw[uj];exact ct)) (λ b an aI=>cL b λ e=>aI _ (e▸ct)) (by rw[e4];exact cS _) mI wU DB qk eN (λ ac y bc=>?_) (λ aG _=>.i _ _ (.v _ rfl))
   rw[vi]at bc;have ar:(rows.take I).length=I:=by simp;omega
   rw[ar]at bc;split at bc
   next bg=>rw[oQ,if_pos bg]at bc;exact .inr ⟨aa,bc,by rw[kj,if_neg aa]⟩
   next bg=>
    rw[vi]at bc;split at bc
    next U=>refine .inl ⟨ac-I,U,aa,by rw[←gd _ U];exact bc,?_⟩;rw[kj,if_pos aa]
    next U=>rw[s8,show I+new.length+(ac-I-new.length)=ac by omega]at bc;exact .inr ⟨aa,bc,by rw[kj,if_neg aa]⟩
end
section
variable{E:Env}{ad:cn}{ae:cj}{H:ab}{w:World}
def am8(au:cf E ad ae H w){z:Nat}(bp:0<z)(a:Option Addr):cz E ad ae H w (H++[.af z 0 [] ah]) w λ aQ aG=>bf aQ aG (H++[.af z 0 [] ah]) (.ref H.length 0 0 0) (.slice a 0 0):=by
 have gd:ae H.length=o:=by
  cases h:ae H.length with
  |none=>rfl
  |some I=>have:=au.C_ (b:=I.1) (n:=I.2) h;omega
 have hm:fz ad ae H ad ae (H++[.af z 0 [] ah]):=ng (λ _ _ h=>h) aX λ c aj=>jw.same (by rw[eO aj]) (λ _=>rfl)
 refine⟨ad,ae,⟨au.ei,λ c x ap=>?_,au.inj,λ c b n h=>by have:=au.sep c b n h;exact⟨this.1,this.2.1,by simp;omega⟩,au.fv⟩,Trans.refl _ _ _,hm,?_⟩
 ·by_cases aj:c<H.length
  ·rw[eO aj]at ap;exact(au.ch c x ap).mono (λ _=>rfl) (λ _ _ h=>h) hm (λ _ _ _ _=>rfl)
  ·have:c=H.length:=by have:=(bQ.1 ap).1;simp at this;omega
   subst this;simp at ap;subst ap;exact⟨λ e=>aa,λ i r h=>by simp at h,.inl ⟨gd,rfl⟩⟩
 ·refine .ref _ _ _ _ _ aX (λ iU dv io h=>?_) (λ _ _ _ h=>by simp at h) ⟨_,_,rfl⟩ (λ _ _ _ _ h=>aa);simp at h;obtain⟨rfl,rfl,rfl⟩:=h;exact⟨aX,_,_,rfl,.inl ⟨gd,rfl⟩⟩
def am9(au:cf E ad ae H w){av:World}{cs:Array Value}{elem:TypeId}(hw:av.heap=w.heap.push (.cells cs elem))(ci:av.os=w.os)(bA:av.tape=w.tape)(hu:av.output=w.output)
  {c z g:Nat}{hS:cb}{jh:Bool}(aT:H[c]?=j (.af z g hS jh)){rows:cb}{ex:Bool}(bp:0<z)(aN:Flat z rows)(aj:k_ ad rows.flatten cs)(hle:rows.length*z≤cs.size)(ap:ex=J)
  {n cap:Nat}(aI:n≤rows.length)(j4:rows.length≤cap)(fp:cap*z≤cs.size):
  cz E ad ae H w (H.set c (.af z (g+1) rows ex)) av λ aQ aG=>bf aQ aG (H.set c (.af z (g+1) rows ex)) (.ref c (g+1) 0 n) (.slice (j ⟨w.heap.size,0,o⟩) n cap):=by
 subst ap;have cD:c<H.length:=(bQ.1 aT).1;have hold:∀b,b<w.heap.size→av.heap[b]?=w.heap[b]?:=by intro b an;rw[hw,J9,if_neg aa]
 let aG:=gv ae c w.heap.size cs.size
 have h8:∀(d:fK) b n,aG d=j (b,n)→(d=⟨c,0⟩∧b=w.heap.size∧n=cs.size)∨(d≠⟨c,0⟩∧ae d=j (b,n)):=by
  intro d b n h;simp only[aG,gv]at h;split at h
  ·cases h;exact .inl ⟨by assumption,rfl,rfl⟩
  ·exact .inr ⟨by assumption,h⟩
 have hm:fz ad ae H ad aG (H.set c (.af z (g+1) rows J)):=by
  refine ng (λ _ _ h=>h) aX λ d aP=>?_
  by_cases e9:d=c
  ·subst e9;intro y bb;rcases gb bb with⟨_,rfl⟩|⟨e,_⟩
   ·exact .inr ⟨z,g,hS,jh,aT,aa⟩
   ·exact absurd rfl e
  ·exact jw.same (by rw[dW (bi e9)]) (λ r=>by simp[aG,gv,e9])
 refine⟨ad,aG,⟨λ b al an=>?_,λ d x aP=>?_,λ d im b n dT p U=>?_,λ d b n h=>?_,au.fv⟩,⟨ci,bA,hu,by rw[hw];simp,λ b an _=>hold b an,λ _ _ h=>h,λ _ h=>.inl h,λ d b n h=>?_⟩,hm,?_⟩
 ·have:=au.ei b al an;have bg:b<w.heap.size:=(kg.1 this).1;rw[hold b bg];exact this
 ·rcases gb aP with⟨rfl,rfl⟩|⟨p,U⟩
  ·exact⟨λ e=>aa,aN,.inr ⟨w.heap.size,cs,elem,(0,0),by simp[aG,gv],yw hw,qf _,hle,(λ h=>by cases h),k_.rows aN aj⟩⟩
  ·exact(au.ch _ _ U).mono (λ r=>by simp[aG,gv,p]) (λ _ _ h=>h) hm (λ r b n h=>hold b (au.sep _ _ _ h).2.1)
 ·rcases h8 _ _ _ p with⟨rfl,rfl,rfl⟩|⟨ar,aM⟩
  ·rcases h8 _ _ _ U with⟨e,_,_⟩|⟨_,bZ⟩
   ·exact e.symm
   ·have:=(au.sep _ _ _ bZ).2.1;omega
  ·rcases h8 _ _ _ U with⟨e,rfl,_⟩|⟨_,bZ⟩
   ·have:=(au.sep _ _ _ aM).2.1;omega
   ·exact au.inj _ _ _ _ _ aM bZ
 ·rcases h8 _ _ _ h with⟨rfl,rfl,rfl⟩|⟨_,ar⟩
  ·refine⟨?_,by rw[hw];simp,by simpa using cD⟩;cases cr:ad w.heap.size with
   |none=>rfl
   |some al=>have:=au.ei _ _ cr;simp at this
  ·have:=au.sep _ _ _ ar;exact⟨this.1,by rw[hw];simp;omega,by simpa using this.2.2⟩
 ·rcases h8 _ _ _ h with⟨rfl,rfl,rfl⟩|⟨_,ar⟩
  ·exact .inl (cS _)
  ·exact .inr ⟨_,_,ar⟩
 ·refine .ref _ _ _ _ _ (by simpa using cD) (λ iU dv io h=>?_) (λ _ _ _ h=>?_) ⟨_,_,rfl⟩ (λ _ _ _ _ h=>?_)
  ·rcases gb h with⟨_,e⟩|⟨e,_⟩
   ·cases e;exact⟨aa,_,_,rfl,.inr ⟨w.heap.size,cs.size,by simp[aG,gv],aa,by simpa using fp,.inl aX⟩⟩
   ·exact absurd rfl e
  ·rcases gb h with⟨_,e⟩|⟨e,_⟩
   ·cases e
   ·exact absurd rfl e
  ·rcases gb h with⟨_,e⟩|⟨e,_⟩
   ·cases e;omega
   ·exact absurd rfl e
def Wp(au:cf E ad ae H w){c z g:Nat}{hS:cb}{jh:Bool}(aT:H[c]?=j (.af z g hS jh)){ch:Chunk}(lF:∃rows ex,ch=.af z (g+1) rows ex)
  {av:World}(ol:∀b0,(∀n,ae c≠j (b0,n))→av.heap[b0]?=w.heap[b0]?)(eQ:av.heap.size=w.heap.size)(ci:av.os=w.os)(bA:av.tape=w.tape)(hu:av.output=w.output)
  (h9:fz ad ae H ad ae (H.set c ch)→ps ad ae (H.set c ch) av c ch){Q:cn→cj→Prop}(fk:fz ad ae H ad ae (H.set c ch)→Q ad ae):cz E ad ae H w (H.set c ch) av Q:=by
 obtain⟨rows,ex,rfl⟩:=lF;have cD:c<H.length:=(bQ.1 aT).1;have hm:fz ad ae H ad ae (H.set c (.af z (g+1) rows ex)):=by
  refine ng (λ _ _ h=>h) aX λ d aP=>?_
  by_cases e9:d=c
  ·subst e9;intro y bb;rcases gb bb with⟨_,rfl⟩|⟨e,_⟩
   ·exact .inr ⟨z,g,hS,jh,aT,aa⟩
   ·exact absurd rfl e
  ·exact jw.same (by rw[dW (bi e9)]) (λ _=>rfl)
 refine⟨ad,ae,⟨λ b0 al an=>?_,λ d x aP=>?_,au.inj,λ d b0 dT aP=>?_,au.fv⟩,⟨ci,bA,hu,by rw[eQ];exact cS _,λ b0 an aI=>ol b0 (λ n=>aI c n),λ _ _ h=>h,λ _ h=>.inl h,λ _ _ _ h=>.inr ⟨_,_,h⟩⟩,hm,fk hm⟩
 ·rw[ol b0 (λ n e=>by have:=(au.sep _ _ _ e).1;rw[this]at an;cases an)];exact au.ei _ _ an
 ·rcases gb aP with⟨rfl,rfl⟩|⟨p,U⟩
  ·exact h9 hm
  ·exact(au.ch _ _ U).mono (λ _=>rfl) (λ _ _ h=>h) hm λ r b0 dT az=>ol _ λ n e=>p (congrArg fK.c (au.inj _ _ _ _ _ az e))
 ·have:=au.sep _ _ _ aP;exact⟨this.1,by rw[eQ];exact this.2.1,by simpa using this.2.2⟩
def am_{a b:cZ}{xs di:Array Value}(aF:k_ ad a xs)(an:k_ ad b di)(ao:xs.size=a.length)(rest:Array Value)(DC:di.size=b.length):k_ ad (a++b) (xs++di++rest):=by
 intro ac v bo;rw[vi]at bo;rw[dM,Array.append_assoc];split at bo
 next bc=>have:=aF ac v bo;rw[yD aa,←dM];exact this
 next bc=>have U:=(bQ.1 bo).1;have:=an _ v bo;rw[Wn aa,yD aa,ao,←dM];exact this
def Pq(au:cf E ad ae H w){t t2 eG:TypeId}{s x v:ay}{di l8:Value}{aq:ab}(h:hR E H t t2 s x=j (v,aq))(gu:bf ad ae H s di)(rx:bf ad ae H x l8):
  ∃u av,(sa #[t,t2] eG #[di,l8]).run E.P w=.ok u av∧cz E ad ae H w aq av λ aQ aG=>bf aQ aG aq v u:=by
 unfold hR at h;split at h;rotate_left
 ·cases h
 rename_i e he;split at h;rotate_left
 ·cases h
 rename_i z b eB ds new Pr bp an hzero qk;split at h;rotate_left
 ·cases h
 rename_i aj;obtain⟨ht,fF,yx,Kd,qg,AX⟩:=aj;have oT:=V0 Kd;obtain⟨l5,Pg,GR⟩:=Wd hzero qg AX;obtain⟨eY,nO,ns,kL,qn,se⟩:=ON (P:=E.P) au rx qk ht fF;have grow:∀(rows:cb) (base:Option Addr) (cap:Nat) (hx:Array Value),(∀av:World,av.heap=w.heap→(jx z rows.length (.slice base rows.length cap)).run E.P av=.ok hx av)→hx.size=rows.length*z→
   k_ ad rows.flatten hx→Flat z rows→cap<rows.length+new.length→rows.length+new.length<1073741824→∀Ps,Ps=.slice base rows.length cap→
   ∃u av jy cs,(sa #[t,t2] eG #[Ps,l8]).run E.P w=.ok u av∧u=.slice (j ⟨w.heap.size,0,o⟩) (rows.length+new.length) jy∧av.heap=w.heap.push (.cells cs e)∧av.os=w.os∧av.tape=w.tape∧av.output=w.output∧
    k_ ad (rows++new).flatten cs∧(rows++new).length*z≤cs.size∧rows.length+new.length≤jy∧jy*z≤cs.size:=by
  intro rows base cap hx p U az bh bF dN Ps GX;subst GX;obtain⟨av,jy,g1,g2,g3,g4,g5,g6⟩:=V1 (w:=w) (eG:=eG) (t2:=t2) (rows:=rows) (new:=new) he bp an Pg oT (λ av _=>nO av) bF dN yx p ns GR;refine⟨_,av,jy,_,g1,rfl,g3,g4,g5,g6,?_,?_,g2,?_⟩
  ·rw[List.flatten_append];exact am_ az qn (by rw[U,bh.length]) _ (by rw[kL,se.length])
  ·simp only[Pj,U,kL,dK,hT];omega
  ·simp only[Pj,U,kL,VZ,GR];rw[←hT,←hT];exact kF _ aa
 split at h
 next aD rows ex=>
  split at h;rotate_left
  ·cases h
  rename_i aA;obtain⟨Dl,hU,wH⟩:=aA;subst Dl;simp only[br,bM]at h;obtain⟨rfl,rfl⟩:=h;have mC:=ji gu;have GX:∃a,di=.slice a rows.length rows.length:=by
   cases mC with
   |nil aD ex a cap ap=>exact⟨a,by rw[ap rfl];rfl⟩
   |af aD rows ex b off cap cs elem bs dn cr aj ap ak p U=>exact⟨_,by rw[ap rfl]⟩
  obtain⟨a,rfl⟩:=GX;by_cases gd:new=[]
  ·subst gd;have GY:rows=[]:=hU.elim id λ q=>absurd rfl q.2
   subst GY;have ui:eY=#[]:=AQ (by rw[kL];simp);refine⟨_,w,GL he bp oT (nO w) (cS _) (by rw[←ui];exact ns w rfl),?_⟩;exact am8 au fF a
  ·have iA:0<new.length:=Pt.2 gd;have hold:∃hx:Array Value,(∀av:World,av.heap=w.heap→(jx z rows.length (.slice a rows.length rows.length)).run E.P av=.ok hx av)∧hx.size=rows.length*z∧k_ ad rows.flatten hx∧Flat z rows:=by
    rcases hU with ar|⟨rfl,_⟩
    ·subst ar;refine⟨#[],λ av _=>?_,aX,λ ac v h=>by simp at h,λ i r h=>by simp at h⟩;cases a<;>simp[jx,loadCells,loadCellsFrom]
    ·obtain⟨hx,cM,td,wW,DD,Kx⟩:=J6 (P:=E.P) au.ei fF mC;exact⟨hx,td,wW,DD,Kx⟩
   obtain⟨hx,cM,td,wW,DD⟩:=hold;obtain⟨u,av,jy,cs,g1,rfl,g3,g4,g5,g6,g7,g8,g9,g10⟩:=grow rows a rows.length hx cM td wW DD aa wH _ rfl;have hex:(rows.isEmpty &&new.isEmpty)=J:=by
    cases new with
    |nil=>exact absurd rfl gd
    |cons=>simp
   rw[hex];refine⟨_,av,g1,?_⟩;have:=AL au g3 g4 g5 g6 (ex:=false) (n:=rows.length+new.length) (cap:=jy) fF (DD.append se) g7 g8 (λ h=>by cases h) (qf _) aX (by simp;omega) g10;exact this
 next c g off len=>
  cases gu with
  |ref c g off len v cD aU aN ax aR=>
  split at h
  next aD a6 rows ex aT=>
   split at h;rotate_left
   ·cases h
   rename_i aA;obtain⟨rfl,rfl,rfl,wH⟩:=aA;simp only[br,bM]at h;obtain⟨rfl,rfl⟩:=h;obtain⟨hle,a,cap,rfl,fR⟩:=aU _ _ _ aT;obtain⟨Ky,h_,lF⟩:=au.ch _ _ aT;have Pu:0<aD:=fF;have GZ:Flat aD rows:=h_;have wX:c<H.length:=cD;have Kz:len≤rows.length:=aa;have AZ:∀(aQ:cn) (aG:cj) (e3:cb) (gK:Bool) (a:Option Addr) (cap:Nat),e3.length=len+new.length→tW aG c aD e3 0 (len+new.length) (.slice a (len+new.length) cap)→bf aQ aG (H.set c (.af aD (g+1) e3 gK)) (.ref c (g+1) 0 (len+new.length)) (.slice a (len+new.length) cap):=by
    intro aQ aG e3 gK a cap ao jO;refine .ref _ _ _ _ _ (by simpa using wX) (λ iU dv io h=>?_) (λ _ _ _ h=>?_) ⟨_,_,rfl⟩ (λ _ _ _ _ h=>?_)
    ·rcases gb h with⟨_,e⟩|⟨e,_⟩
     ·cases e;exact jO
     ·exact absurd rfl e
    ·rcases gb h with⟨_,e⟩|⟨e,_⟩
     ·cases e
     ·exact absurd rfl e
    ·rcases gb h with⟨_,e⟩|⟨e,_⟩
     ·cases e;omega
     ·exact absurd rfl e
   have Di:(rows.take len++new).length=len+new.length:=by simp;omega
   have Pv:Flat aD (rows.take len++new):=(Flat.take GZ).append se;by_cases Pn:len+new.length≤cap
   ·rcases fR with⟨ct,gL⟩|⟨dj,hW,ct,ql,k',vm⟩
    ·subst gL;have ir:len=0:=aa;have hL:new=[]:=pq.1 aa;subst ir hL;have ui:eY=#[]:=AQ (by rw[kL];simp);refine⟨_,w,GL he bp oT (nO w) (cS _) (by rw[←ui];exact ns w rfl),?_⟩;have OX:rows=[]:=by
      rcases lF with⟨_,p⟩|⟨b,_,_,_,p,_⟩
      ·exact p
      ·rw[ct]at p;cases p
     subst OX;refine Wp au aT ⟨_,_,rfl⟩ (λ _ _=>rfl) rfl rfl rfl rfl (λ hm=>?_) (λ hm=>AZ _ _ _ _ _ _ aX ⟨aX,_,_,rfl,.inl ⟨ct,rfl⟩⟩);exact⟨Ky,λ i r h=>by simp at h,.inl ⟨ct,aX⟩⟩
    ·rcases lF with⟨p,_⟩|⟨b0,cs,elem,bs,p,hw,hs,eQ,s',eN⟩
     ·rw[ct]at p;cases p
     rw[ct]at p;cases p;have Wq:∀(av:World) (iq:Array Value) (G0:Bool),av.heap[dj]?=j (.cells iq elem bs)→(∀b0,b0≠dj→av.heap[b0]?=w.heap[b0]?)→av.heap.size=w.heap.size→av.os=w.os→av.tape=w.tape→av.output=w.output→iq.size=cs.size→
       k_ ad (rows.take len++new).flatten iq→(G0=ah→cs.size=(len+new.length)*aD)→(len+new.length)*aD≤cs.size→∀a,(a=j ⟨dj,0*aD,o⟩∨(len+new.length=0∧cap=0))→
       cz E ad ae H w (H.set c (.af aD (g+1) (rows.take len++new) G0)) av λ aQ aG=>bf aQ aG (H.set c (.af aD (g+1) (rows.take len++new) G0)) (.ref c (g+1) 0 (len+new.length)) (.slice a (len+new.length) cap):=by
      intro av iq G0 cV i2 i3 i4 i5 am' KA i8 i9 ana a anb;refine Wp au aT ⟨_,_,rfl⟩ (λ b0 iZ=>i2 b0 (λ e=>iZ _ (e▸ct))) i3 i4 i5 am' (λ hm=>?_) (λ hm=>AZ _ _ _ _ _ _ Di ⟨aa,_,_,rfl,.inr ⟨dj,cs.size,ct,aa,k',anb⟩⟩);exact⟨Ky,Pv,.inr ⟨dj,iq,elem,bs,by rw[KA];exact ct,cV,by rw[KA];exact hs,by rw[KA,Di];exact ana,λ ap=>by rw[KA,Di];exact i9 ap,k_.rows Pv i8⟩⟩
     have Wr:(ex &&rows.isEmpty &&new.isEmpty)=ah→cs.size=(len+new.length)*aD:=by intro ap;simp only[c',List.isEmpty_iff]at ap;obtain⟨⟨p,rfl⟩,rfl⟩:=ap;have:=s' p;simp at this Kz⊢;subst Kz;simp[this]
     have anc:k_ ad (rows.take len).flatten cs:=by
      intro ac v bo;have Ws:Flat aD (rows.take len):=Flat.take GZ;have bc:=(bQ.1 bo).1;rw[Ws.length]at bc;obtain⟨r,a2,ar,aM,bZ⟩:=J5 Pu Ws bc;rw[bo]at bZ;cases bZ;rw[oQ]at ar;split at ar
      ·have:=eN _ _ _ _ ar aM;rwa [show ac/aD*aD+ac%aD=ac by rw[wD];exact AA _ _]at this
      ·cases ar
     have Ou:(rows.take len).flatten.length=len*aD:=by rw[(Flat.take GZ).length,hV,Pp Kz]
     rcases vm with rfl|⟨p,U⟩
     ·have Po:len*aD+eY.size≤cs.size:=by rw[kL,←hT];have:(len+new.length)*aD≤(0+cap)*aD:=kF _ aa;omega
      have tb:∀v∈eY.toList,v.oneCell'=ah:=by
       intro v bo;obtain⟨ac,bc,rfl⟩:=GH bo;have l3:ac<eY.size:=by simpa using bc
       have Pw:ac<new.flatten.length:=by rw[se.length,←kL];exact l3
       have:=GC (qn ac _ (eC Pw));simpa[dM,l3]using this
      obtain⟨av,iq,s1,s2,vn,G1,Px,Py,Pz,DE,PA⟩:=wK E.P dj (0*aD+len*aD) elem bs eY.toList 0 cs w hw hs (by simp;omega) tb;refine⟨_,av,V3 he bp oT (nO w) Pn (ns w rfl) s1,?_⟩;refine Wq av iq _ s2 vn G1 Px Py Pz DE ?_ Wr (by rw[hT];omega) _ (.inl rfl);intro ac v bo;rw[dM,PA];simp only[Nat.zero_mul,cJ,fr,wG];rw[List.flatten_append,vi,Ou]at bo;split at bo
      ·rw[if_neg aa,←dM];exact anc ac v bo
      ·have az:=(bQ.1 bo).1;rw[se.length,←kL]at az;rw[if_pos aa,nM,←dM];exact qn _ v bo
     ·subst p U;have hL:new=[]:=pq.1 aa;subst hL;have ui:eY=#[]:=AQ (by rw[kL];simp);refine⟨_,w,GL he bp oT (nO w) (cS _) (by rw[←ui];exact ns w rfl),?_⟩;exact Wq w cs _ hw (λ _ _=>rfl) rfl rfl rfl rfl rfl (by intro ac v h;simp at h) Wr aX a (.inr ⟨rfl,rfl⟩)
   ·have hold:∃hx:Array Value,(∀av:World,av.heap=w.heap→(jx aD (rows.take len).length (.slice a (rows.take len).length cap)).run E.P av=.ok hx av)∧hx.size=(rows.take len).length*aD∧k_ ad (rows.take len).flatten hx:=by
     have ao:(rows.take len).length=len:=by simp;omega
     by_cases ir:len=0
     ·subst ir;refine⟨#[],λ av _=>?_,aX,λ ac v h=>by simp at h⟩;cases a<;>simp[jx,loadCells,loadCellsFrom]
     ·rcases fR with⟨ct,gL⟩|⟨dj,hW,ct,ql,k',vm⟩
      ·exfalso;rcases lF with⟨_,p⟩|⟨b,_,_,_,p,_⟩
       ·subst p;simp at hle;omega
       ·rw[ct]at p;cases p
      ·rcases lF with⟨p,_⟩|⟨b0,cs,elem,bs,p,hw,hs,eQ,s',eN⟩
       ·rw[ct]at p;cases p
       rw[ct]at p;cases p;rcases vm with rfl|⟨p,_⟩
       ·obtain⟨c4,d1,d2,d3⟩:=VJ (P:=E.P) (ad:=ad) Pu GZ hw eQ eN 0 len aa;refine⟨c4,λ av ra=>by rw[ao];exact d1 av ra,by rw[ao];exact d2,by simpa using d3⟩
       ·omega
    obtain⟨hx,cM,td,wW⟩:=hold;have ao:(rows.take len).length=len:=by simp;omega
    obtain⟨u,av,jy,cs,g1,rfl,g3,g4,g5,g6,g7,g8,g9,g10⟩:=grow (rows.take len) a cap hx cM td wW (Flat.take GZ) (by rw[ao];omega) (by rw[ao];exact wH) (.slice a len cap) (by rw[ao]);rw[ao]at g1 g9;have ane:0<new.length:=by
     rcases fR with⟨ct,gL⟩|⟨dj,hW,ct,ql,k',vm⟩
     ·rcases lF with⟨_,p⟩|⟨b,_,_,_,p,_⟩
      ·subst p;simp at Kz;omega
      ·rw[ct]at p;cases p
     ·omega
    have hex:(ex &&rows.isEmpty &&new.isEmpty)=J:=by
     cases new with
     |nil=>simp at ane
     |cons=>simp
    rw[hex];exact⟨_,av,g1,am9 au g3 g4 g5 g6 aT (ex:=false) Pu Pv g7 g8 rfl aa aa g10⟩
  next aD a6 rows ex aT=>
   split at h;rotate_left
   ·cases h
   rename_i aA;obtain⟨rfl,rfl,rfl,rfl,rfl,anf,ang⟩:=aA;simp only[br,bM]at h;obtain⟨rfl,rfl⟩:=h;obtain⟨hle,mC⟩:=aN _ _ _ aT;have ar:(rows.drop 0).take rows.length=rows:=aX;rw[ar]at mC;simp only[cJ,decide_true,PB]at mC;have GX:∃a,di=.slice a rows.length rows.length:=by
    generalize ib:rows=b4 at mC;cases mC with
    |nil aD ex a cap ap=>exact⟨a,by rw[ap rfl];rfl⟩
    |af aD rows ex b off cap cs elem bs dn cr aj ap ak p U=>exact⟨_,by rw[ap rfl]⟩
   obtain⟨a,rfl⟩:=GX;have iA:0<new.length:=Pt.2 anf;obtain⟨hx,cM,td,wW,DD,Kx⟩:=J6 (P:=E.P) au.ei fF mC;obtain⟨u,av,jy,cs,g1,rfl,g3,g4,g5,g6,g7,g8,g9,g10⟩:=grow rows a rows.length hx td wW DD Kx aa ang _ rfl;refine⟨_,av,g1,?_⟩;have:=AL au g3 g4 g5 g6 (ex:=false) (n:=rows.length+new.length) (cap:=jy) fF (Kx.append se) g7 g8 (λ h=>by cases h) (qf _) aX (by simp;omega) g10;exact this
  ·cases h
 ·cases h
def anh(au:cf E ad ae H w){t t2 eG:TypeId}{z:Nat}{s x v:ay}{di l8:Value}{aq:ab}(h:rU E H t t2 z s x=j (v,aq))(gu:bf ad ae H s di)(rx:bf ad ae H x l8):
  ∃u av,(sa #[t,t2] eG #[di,l8]).run E.P w=.ok u av∧cz E ad ae H w aq av λ aQ aG=>bf aQ aG aq v u:=by
 unfold rU at h;split at h
 ·exact Pq au h gu rx
 ·exact am5 au h gu rx
def Wt{P:Program}(a:Addr):∀(n i:Nat) (acc cs:Array Value),(loadCellsFrom a i n acc).run P w=.ok cs w→acc.size≤cs.size∧(∀ac,ac<acc.size→cs[ac]?=acc[ac]?)∧
  ∀m,m≤n→∃c4,(loadCellsFrom a i m acc).run P w=.ok c4 w∧c4.size=acc.size+m∧∀ac,ac<acc.size+m→c4[ac]?=cs[ac]?
 |0,i,acc,cs,h=>by simp only[loadCellsFrom,e8]at h;cases h;exact⟨cS _,λ _ _=>rfl,λ m hm=>⟨acc,by rw[Nat.le_zero.1 hm];rfl,aa,λ _ _=>rfl⟩⟩
 |n+1,i,acc,cs,h=>by
  have bo:∃v,(load (a.add i)).run P w=.ok v w∧(loadCellsFrom a (i+1) n (acc.push v)).run P w=.ok cs w:=by
   simp only[loadCellsFrom,ep]at h;rw[run_load]at h⊢;split at h
   next v aj=>exact⟨v,rfl,h⟩
   next aj=>
    split at h
    next v _ aV=>exact⟨v,rfl,h⟩
    ·cases h
  obtain⟨v,p,U⟩:=bo;obtain⟨bK,bJ,cL⟩:=Wt a n (i+1) (acc.push v) cs U;simp only[Array.size_push]at bK bJ cL;have e4:∀ac,ac<acc.size→cs[ac]?=acc[ac]?:=λ ac bc=>by rw[bJ ac aa,Array.getElem?_push_lt bc,r9 bc]
  refine⟨aa,e4,λ m hm=>?_⟩;cases m with
  |zero=>exact⟨acc,rfl,rfl,λ ac bc=>(e4 ac bc).symm⟩
  |succ m=>obtain⟨c4,ar,aM,bZ⟩:=cL m aa;exact⟨c4,by simp only[loadCellsFrom,ep,p,eM];exact ar,aa,λ ac bc=>bZ ac aa⟩
def ani{P:Program}{size n N l cap:Nat}{a:Option Addr}{cs:Array Value}(h:(jx size N (.slice a l cap)).run P w=.ok cs w)(aU:cs.size=N*size)(aI:n≤N):
  ∃c4,(jx size n (.slice a l cap)).run P w=.ok c4 w∧c4.size=n*size∧∀ac,ac<n*size→c4[ac]?=cs[ac]?:=by
 have hle:n*size≤N*size:=kF _ aI;cases a with
 |none=>simp only[jx,e8]at h;cases h;simp only[Array.size_empty,Dq,dS]at aU;exact⟨#[],by simp[jx],by simp;omega,λ _ _=>rfl⟩
 |some a=>simp only[jx,loadCells]at h⊢;obtain⟨_,_,az⟩:=Wt a _ 0 #[] cs h;obtain⟨c4,ar,aM,bZ⟩:=az _ hle;exact⟨c4,ar,by simpa using aM,λ ac bc=>bZ ac (by simpa using bc)⟩
def anj{x:ay}{r:Nat×cb×Bool}(h:h6 H x=j r):kD H x=j r:=by
 unfold kD;split
 ·simp[h6]at h
 ·exact h
def ank{x:ay}{y:Value}(rx:bf ad ae H x y){r:Nat×cb×Bool}(h:h6 H x=j r):∃a l cap,y=.slice a l cap:=by
 unfold h6 at h;split at h
 ·obtain⟨a,cap,rfl⟩:=GA (ji rx);exact⟨_,_,_,rfl⟩
 ·obtain⟨a,cap,rfl⟩:=OB rx;exact⟨_,_,_,rfl⟩
 ·cases h
def anl(au:cf E ad ae H w){t t2 eG:TypeId}{d x v:ay}{GV l8:Value}{aq:ab}(h:m' E H t d x=j (v,aq))(rd:bf ad ae H d GV)(rx:bf ad ae H x l8):
  ∃u av,(GW #[t,t2] eG #[GV,l8]).run E.P w=.ok u av∧cz E ad ae H w aq av λ aQ aG=>bf aQ aG aq v u:=by
 unfold m' at h;split at h;rotate_left
 ·cases h
 rename_i e he;split at h;rotate_left
 ·cases h
 rename_i z c g off len ds new Pr bp GY;split at h;rotate_left
 ·cases h
 rename_i aj;obtain⟨ht,fF⟩:=aj;unfold Ao at h;split at h;rotate_left
 ·cases h
 rename_i aD a6 rows ex aT;split at h;rotate_left
 ·cases h
 rename_i aR;obtain⟨rfl,rfl⟩:=aR;simp only[br,bM]at h;obtain⟨rfl,rfl⟩:=h;obtain⟨aH,af,aU_,rfl⟩:=ank rx GY;obtain⟨eY,nO,ns,kL,qn,se⟩:=ON (P:=E.P) au rx (anj GY) ht fF;obtain⟨c4,A1,nq,anm⟩:=ani (n:=min new.length len) (ns w rfl) kL (Nat.min_le_left _ _);obtain⟨Ky,h_,lF⟩:=au.ch _ _ aT;have h_:Flat aD rows:=h_;cases rd with
 |ref c g off len v cD aU aN ax C'=>
  obtain⟨hle,a,cap,rfl,fR⟩:=aU _ _ _ aT;have hlen:(new.take len).length=min new.length len:=by simp[Nat.min_comm]
  have Wu:∀(i:Nat) (r:cZ),(rows.take off++(new.take len++rows.drop (off+min new.length len)))[i]?=j r→
    (off≤i∧i<off+min new.length len∧new[i-off]?=j r)∨(¬(off≤i∧i<off+min new.length len)∧rows[i]?=j r):=by
   intro i r aB;rw[vi]at aB;have ar:(rows.take off).length=off:=by simp;omega
   rw[ar]at aB;split at aB
   next bg=>rw[oQ,if_pos bg]at aB;exact .inr ⟨aa,aB⟩
   next bg=>
    rw[vi,hlen]at aB;split at aB
    next U=>
     rw[oQ]at aB;split at aB
     ·exact .inl ⟨aa,aa,aB⟩
     ·cases aB
    next U=>rw[s8]at aB;rw[show off+min new.length len+(i-off-min new.length len)=i by omega]at aB;exact .inr ⟨aa,aB⟩
  have fM:(rows.take off++(new.take len++rows.drop (off+min new.length len))).length=rows.length:=by simp only[dK,hV,j6];omega
  have Wv:Flat aD (rows.take off++(new.take len++rows.drop (off+min new.length len))):=by
   intro i r aB;rcases Wu i r aB with⟨_,_,h⟩|⟨_,h⟩
   ·exact se _ _ h
   ·exact h_ _ _ h
  by_cases hL:min new.length len=0
  ·have pE:rows.take off++(new.take len++rows.drop (off+min new.length len))=rows:=by have:new.take len=[]:=pq.1 (by rw[hlen];exact hL);rw[this,hL];simp
   rw[pE];have ki:H.set c (.af aD g rows ex)=H:=by
    apply DF;intro i;by_cases aB:i=c
    ·subst aB;rw[k9 cD,aT]
    ·rw[dW (bi aB)]
   rw[ki,hL];have mB:c4=#[]:=AQ (by rw[nq,hL];simp);subst mB;refine⟨.int .i64 0,w,?_,.refl au (.i _ _ (.v _ rfl))⟩;have hm:Nat.min new.length len=0:=hL;rw[hL]at A1;cases a<;>simp[GW,run_underlying (iV he),(hr bp w).1,nO w,hm,A1,storeCells,goInt]
  ·rcases fR with⟨ct,gL⟩|⟨dj,hW,ct,ql,k',vm⟩
   ·exfalso;rcases lF with⟨_,p⟩|⟨b,_,_,_,p,_⟩
    ·subst p;simp at hle;omega
    ·rw[ct]at p;cases p
   ·rcases lF with⟨p,_⟩|⟨b0,cs,elem,bs,p,hw,hs,eQ,s',eN⟩
    ·rw[ct]at p;cases p
    rw[ct]at p;cases p;rcases vm with rfl|⟨p,U⟩;rotate_left
    ·omega
    have Po:off*aD+c4.size≤cs.size:=by rw[nq,←hT];have:(off+min new.length len)*aD≤rows.length*aD:=kF _ aa;omega
    have Ww:∀ac,ac<min new.length len*aD→c4[ac]?=eY[ac]?:=anm;have aU':c4.size≤eY.size:=by rw[nq,kL];exact kF _ aa
    have tb:∀v∈c4.toList,v.oneCell'=ah:=by
     intro v bo;obtain⟨ac,bc,rfl⟩:=GH bo;have l3:ac<c4.size:=by simpa using bc
     have De:ac<eY.size:=aa;have Pw:ac<new.flatten.length:=by rw[se.length,←kL];exact De
     have bF:=GC (qn ac _ (eC Pw));have dN:=Ww ac (by rw[←nq];exact l3);rw[r9 l3,r9 De]at dN;have g':c4[ac]=eY[ac]:=by simpa using dN
     simp only[Array.getElem_toList,g'];simpa[dM,De]using bF
    obtain⟨av,iq,s1,s2,vn,G1,Px,Py,Pz,DE,PA⟩:=wK E.P dj (off*aD) elem bs c4.toList 0 cs w hw hs (by simp;omega) tb;refine⟨.int .i64 (min new.length len:Nat),av,?_,?_⟩
    ·have hm:Nat.min new.length len=min new.length len:=rfl;simp[GW,run_underlying (iV he),(hr bp w).1,nO w,hm,A1,s1,goInt]
    ·refine wrote au ct aT vn G1 Px Py Pz ?_ (λ hm=>?_) (λ _=>.i _ _ (.v _ rfl))
     ·intro y bb;rcases gb bb with⟨_,rfl⟩|⟨e,_⟩
      ·exact .inl ⟨rows,ex,aT,rfl,fM⟩
      ·exact absurd rfl e
     ·have kj:∀ac,iq.getD ac undef=if off*aD≤ac∧ac<off*aD+min new.length len*aD then eY.getD (ac-off*aD) undef else cs.getD ac undef:=by
       intro ac;rw[dM,PA];simp only[fr,wG,nq];split
       ·rw[nM,Ww _ aa,dM]
       ·rw[dM]
      refine⟨Ky,Wv,.inr ⟨dj,iq,elem,bs,by rw[DE];exact ct,s2,by rw[DE];exact hs,by rw[DE,fM];exact eQ,λ he=>by rw[DE,fM];exact s' he,λ i r k a aB aF=>?_⟩⟩;have aA:k<aD:=by have:=(bQ.1 aF).1;rw[Wv _ _ aB]at this;exact this
      rw[kj];rcases Wu i r aB with⟨p,U,az⟩|⟨p,az⟩
      ·have ar:off*aD≤i*aD:=kF _ p;have aM:(i+1)*aD≤(off+min new.length len)*aD:=kF _ U;rw[hT,hT]at aM;rw[if_pos aa];have bZ:i*aD+k-off*aD=(i-off)*aD+k:=by rw[Nat.sub_mul];omega
       rw[bZ];exact(k_.rows se qn) _ _ _ _ az aF
      ·rw[if_neg]
       ·exact eN _ _ _ _ az aF
       ·rintro⟨cy,cN⟩;apply p;constructor
        ·apply Decidable.byContradiction;intro fy;have:(i+1)*aD≤off*aD:=kF _ aa;rw[hT]at this;omega
        ·apply Decidable.byContradiction;intro fy;have:(off+min new.length len)*aD≤i*aD:=kF _ aa;rw[hT]at this;omega
def PC:Next→Option Value
 |.value v=>j v
 |.skip=>j undef
 |_=>o
def Wx{R:Fr}{a:Act}{al:Oper}{v:ay}{aq:ab}(h:dF E R H al.op=j (v,aq))(au:cf E ad ae H w)(aN:fq ad ae H R a.tmps):
  ∃vo x av,(execOp a.eval al).run E.P w=.ok vo av∧PC vo=j x∧cz E ad ae H w aq av λ aQ aG=>bf aQ aG aq v x:=by
 obtain⟨dst,op,eG,pos,after,guard⟩:=al;simp only at h;cases op<;>(try(first|(simp only[dF]at h;done)|(simp only[dF]at h;cases h;done)))
 case alloc e=>
  simp only[dF]at h;split at h
  next z bp=>
   split at h
   next ci=>
    split at h
    ·split at h
     next ann=>
      simp only[br,bM]at h;obtain⟨rfl,rfl⟩:=h;have JR:=bp;simp only[ls,dp]at JR;obtain⟨eB,km,_⟩:=JR;obtain⟨i,aB,uc⟩:=Dj.1 km;have yt:(zeroValue e).run E.P w=.ok eB w:=by simp[zeroValue,run_typeInfo w aB,uc]
      obtain⟨x,av,p,U⟩:=amd au (ame km ann) e;refine⟨.value x,x,av,?_,rfl,U⟩;have:(Instr.alloc e ah (.tuple #[])).run E.P w=.ok x av:=by have gw:(do pure (.pointer (j (←newVar e eB))):Sem Value).run E.P w=.ok x av:=p;simp only[Instr.alloc,ep,yt,eM];simpa using gw
      simp only[execOp,ep,this,eM,e8]
     ·cases h
    ·simp only[br,bM]at h;obtain⟨rfl,rfl⟩:=h;obtain⟨eB,yt,tY⟩:=ys bp w;have ak:bf ad ae H z eB:=by rw[tY];exact tX eB
     obtain⟨x,av,p,U⟩:=VK au ak ci e;refine⟨.value x,x,av,?_,rfl,U⟩;have:(Instr.alloc e ah (.tuple #[])).run E.P w=.ok x av:=by have gw:(do pure (.pointer (j (←newVar e eB))):Sem Value).run E.P w=.ok x av:=p;simp only[Instr.alloc,ep,yt,eM];simpa using gw
     simp only[execOp,ep,this,eM,e8]
   ·cases h
  ·cases h
 case box e x=>
  simp only[dF]at h;unfold Aq at h;split at h
  next v0 H1 bp=>
   split at h
   next ci=>simp only[br,bM]at h;obtain⟨rfl,rfl⟩:=h;obtain⟨eI,ey,pD,hc,nS,PD⟩:=VV au bp (e7 au aN x);obtain⟨y,av,p,fs,eW,i1,hn,kK,qm⟩:=VK pD PD ci e;exact⟨.value y,y,av,by simp only[execOp,ep,p,eM,e8],rfl,fs,eW,i1,hc.trans hn,nS.trans kK,qm⟩
   ·cases h
  ·cases h
 case buildSlice t n parts=>
  simp only[dF]at h;have Wy:Dk ad ae H (parts.toList.map λ I=>(I.1,bw E R I.2)) (parts.map λ I=>(I.1,a.eval I.2)).toList:=⟨aX,λ k I q ax bu=>by
   simp only[fQ,dp,O5]at ax bu;obtain⟨k7,ue,rfl⟩:=ax;obtain⟨nr,uf,rfl⟩:=bu;rw[ue]at uf;cases uf;exact⟨rfl,e7 au aN _⟩⟩
  split at h
  ·obtain⟨x,av,p,U⟩:=VM (kh:=parts.map λ I=>(I.1,a.eval I.2)) au h Wy;exact⟨.value x,x,av,by simp only[execOp,ep];rw[p];simp only[eM,e8],rfl,U⟩
  ·obtain⟨x,av,p,U⟩:=am3 (kh:=parts.map λ I=>(I.1,a.eval I.2)) au h Wy;exact⟨.value x,x,av,by simp only[execOp,ep];rw[p];simp only[eM,e8],rfl,U⟩
 case slice t x b5 aB lv=>
  cases lv with
  |none=>simp only[dF]at h;cases h
  |some m=>
   simp only[dF]at h;split at h
   next y H1 bp=>simp only[dp,bM]at h;obtain⟨v1,p,rfl,rfl⟩:=h;obtain⟨fs,eW,i1,hn,kK,qm⟩:=AH au (e7 au aN x) bp;have Ds:=aN.mono kK;obtain⟨u,bK,bJ⟩:=Vs p i1 (.i _ _ qm) (Dg i1 Ds b5) (Dg i1 Ds aB) (Dg i1 Ds (j m));exact⟨.value u,u,w,by simp only[execOp,ep];rw[bK];simp only[eM,e8],rfl,fs,eW,i1,hn,kK,bJ⟩
   ·cases h
 case store t I x=>
  simp only[dF]at h;unfold x4 at h;split at h
  next v0 H1 bp=>simp only[dp,bM]at h;obtain⟨bG,p,rfl,rfl⟩:=h;obtain⟨eI,ey,pD,hc,nS,PD⟩:=VV au bp (e7 au aN x);obtain⟨av,U,fs,eW,i1,hn,kK,_⟩:=amu pD p (nS _ _ (e7 au aN I)) PD;exact⟨.skip,undef,av,by simp only[execOp,ep,U,eM,e8],rfl,fs,eW,i1,hc.trans hn,nS.trans kK,.dead _⟩
  ·cases h
 case range t x=>
  simp only[dF]at h;split at h
  next l ap=>
   split at h
   next bA=>simp only[br,bM]at h;obtain⟨rfl,rfl⟩:=h;have r:=e7 au aN x;rw[ap]at r;obtain⟨y,av,p,U⟩:=amN (l:=l) au bA;exact⟨.value y,y,av,by simp only[execOp,ep,q8 r,p,eM,e8],rfl,U⟩
   ·cases h
  ·cases h
 case makeMap t r=>
  cases r with
  |some r=>simp only[dF]at h;cases h
  |none=>
   simp only[dF]at h;split at h
   ·simp only[br,bM]at h;obtain⟨rfl,rfl⟩:=h
    let W:World:={w with heap:=w.heap.push (.map #[] 0)}
    refine⟨.value (.map (j w.heap.size)),.map (j w.heap.size),W,by simp[execOp,Instr.makeMap,newObj,ud,W],rfl,?_⟩;refine Wc (av:=W) (al:=.map #[] 0) au rfl rfl rfl rfl _ (λ hm=>?_) (λ hm=>?_)
    ·exact⟨w.heap.size,#[],0,by simp[gv],by simp[W],nc.nil⟩
    ·exact .dV _ _ aX (λ es h=>⟨w.heap.size,0,by simp[gv],rfl⟩) (λ _ _ h=>by simp at h) (λ _ _ h=>by simp at h) rfl (λ _ _ _ _ h=>by simp at h)
   ·cases h
 case mapUpdate t m k x=>simp only[dF]at h;obtain⟨av,U,rfl,az⟩:=Wb au h (e7 au aN m) (e7 au aN k) (e7 au aN x);exact⟨.skip,undef,av,by simp only[execOp,ep,U,eM,e8],rfl,az.imp λ _ _ _ _ _=>.dead _⟩
 case insert t m k x=>simp only[dF]at h;obtain⟨av,U,rfl,az⟩:=Wb au h (e7 au aN m) (e7 au aN k) (e7 au aN x);exact⟨.skip,undef,av,by simp only[execOp,ep,U,eM,e8],rfl,az.imp λ _ _ _ _ _=>.dead _⟩
 case next it b=>
  simp only[dF]at h;split at h
  next c g r ap=>
   have b4:=e7 au aN it;rw[ap]at b4;split at h
   next s pos aT=>
    obtain⟨gM,gU⟩:=amQ au eG b4 aT;split at h
    next ax=>simp only[br,bM]at h;obtain⟨rfl,rfl⟩:=h;obtain⟨y,av,p,U⟩:=gM ax;exact⟨.value y,y,av,by simp only[execOp,ep,p,eM,e8],rfl,U⟩
    next ax=>simp only[br,bM]at h;obtain⟨rfl,rfl⟩:=h;obtain⟨y,p,U⟩:=gU ax;exact⟨.value y,y,w,by simp only[execOp,ep,p,eM,e8],rfl,cz.refl au U⟩
   ·cases h
  ·cases h
 case makeSlice t l c=>
  simp only[dF]at h;split at h
  ·obtain⟨x,av,p,U⟩:=VX au h (e7 au aN l) (e7 au aN c);exact⟨.value x,x,av,by simp only[execOp,ep,p,eM,e8],rfl,U⟩
  ·obtain⟨x,av,p,U⟩:=am1 au h (e7 au aN l) (e7 au aN c);exact⟨.value x,x,av,by simp only[execOp,ep,p,eM,e8],rfl,U⟩
 case convert s d x=>
  simp only[dF]at h;split at h
  next l ao=>
   split at h
   next aj=>obtain⟨ht,yx⟩:=aj;have r:=e7 au aN x;rw[ao]at r;obtain⟨y,av,p,U⟩:=amC au ht yx h;exact⟨.value y,y,av,by simp only[execOp,ep,q8 r,p,eM,e8],rfl,U⟩
   ·cases h
  ·cases h
 case call c=>
  obtain⟨callee,args,fx⟩:=c;cases callee with
  |value f=>simp[dF]at h
  |invoke r m=>simp[dF]at h
  |builtin b=>
   simp only[dF]at h;split at h
   next s x t t2 qp wY=>
    have qp:=J2 qp;have wY:=J2 wY;subst qp wY;split at h
    ·obtain⟨u,av,p,U⟩:=Pq (eG:=eG) au h (e7 au aN s) (e7 au aN x);exact⟨.value u,u,av,by simp[execOp,resolve,invoke,builtin,p],rfl,U⟩
    ·obtain⟨u,av,p,U⟩:=anh (eG:=eG) au h (e7 au aN s) (e7 au aN x);exact⟨.value u,u,av,by simp[execOp,resolve,invoke,builtin,p],rfl,U⟩
   next d x t t2 qp wY=>
    have qp:=J2 qp;have wY:=J2 wY;subst qp wY;split at h
    ·obtain⟨u,av,p,U⟩:=anl (eG:=eG) (t2:=t2) au h (e7 au aN d) (e7 au aN x);exact⟨.value u,u,av,by simp[execOp,resolve,invoke,builtin,p],rfl,U⟩
    ·obtain⟨u,av,p,U⟩:=am7 (eG:=eG) (t2:=t2) au h (e7 au aN d) (e7 au aN x);exact⟨.value u,u,av,by simp[execOp,resolve,invoke,builtin,p],rfl,U⟩
   ·cases h
end
def vp(aY:Nat→cu):∀l:aZ,cP aY l=l.map (cB aY)
 |[]=>by simp[cP]
 |a::l=>by simp[cP,vp aY l]
def KB(aY:Nat→cu)(ae:cj)(H:ab)(aG:cj)(aq:ab):Prop:=
 ∀c cv,aY c=j cv→cv<aq.length∧(∀r,aG ⟨cv,r⟩=ae ⟨c,r⟩)∧aq[cv]?=(H[c]?).map (Chunk.c2 aY)
def G2{aY:Nat→cu}{x:gS}{aD g:Nat}{rows:cb}{ex:Bool}(h:x.map (Chunk.c2 aY)=j (.af aD g rows ex)):x=j (.af aD g rows ex):=by
 cases x with
 |none=>simp at h
 |some y=>cases y<;>simp[Chunk.c2]at h<;>simp[h]
def Wz{aY:Nat→cu}{x:gS}{aD g:Nat}{rows:cb}{ex:Bool}(h:x.map (Chunk.c2 aY)=j (.bs aD g rows ex)):x=j (.bs aD g rows ex):=by
 cases x with
 |none=>simp at h
 |some y=>cases y<;>simp[Chunk.c2]at h<;>simp[h]
def WA(aY:Nat→cu):∀es:fa,Ar aY es=es.map λ I=>(I.1,cB aY I.2)
 |[]=>rfl
 |I::r=>by simp[Ar,WA aY r]
def ano{aY:Nat→cu}{x:gS}{es:fa}(h:x.map (Chunk.c2 aY)=j (.map es)):∃Au,x=j (.map Au)∧es=Ar aY Au:=by
 cases x with
 |none=>cases h
 |some x=>cases x<;>simp[Chunk.c2]at h;exact⟨_,rfl,h.symm⟩
def anp{aY:Nat→cu}{x:gS}{t:Nat}{cells:aZ}(h:x.map (Chunk.c2 aY)=j (.dm t cells)):∃q7,x=j (.dm t q7)∧cells=cP aY q7:=by
 cases x with
 |none=>cases h
 |some x=>cases x<;>simp[Chunk.c2]at h;obtain⟨rfl,rfl⟩:=h;exact⟨_,rfl,rfl⟩
def anq{aY:Nat→cu}{x:gS}{t:Nat}{l:bm}(h:x.map (Chunk.c2 aY)=j (.kc t l)):x=j (.kc t l):=by
 cases x with
 |none=>cases h
 |some x=>cases x<;>simp_all [Chunk.c2]
def anr{aY:Nat→cu}{x:gS}{s:bm}{I:Nat}(h:x.map (Chunk.c2 aY)=j (.iter s I)):x=j (.iter s I):=by
 cases x with
 |none=>simp at h
 |some y=>cases y<;>simp[Chunk.c2]at h<;>simp[h]
def ans{aY:Nat→cu}{x:gS}{cells:aZ}(h:x.map (Chunk.c2 aY)=j (.box cells)):∃q7,x=j (.box q7)∧cells=cP aY q7:=by
 cases x with
 |none=>simp at h
 |some y=>cases y<;>simp[Chunk.c2]at h<;>simp[h]
section
variable{E:Env}{ad:cn}{ae:cj}{H:ab}{w:World}
def KC{aY:Nat→cu}{x:gS}{z g s:Nat}{rows:c0}(h:x.map (Chunk.c2 aY)=j (.aE z g s rows)):x=j (.aE z g s rows):=by
 cases x with
 |none=>simp at h
 |some y=>cases y<;>simp[Chunk.c2]at h<;>simp[h]
def ant{aY:Nat→cu}{x:gS}{g:Nat}{rows:cb}(h:x.map (Chunk.c2 aY)=j (.fd g rows)):x=j (.fd g rows):=by
 cases x with
 |none=>simp at h
 |some y=>cases y<;>simp[Chunk.c2]at h<;>simp[h]
def anu{aY:Nat→cu}{aq:ab}{k:de}{cv:Nat}{v:Value}(h:r1 ad H k v)(az:aq[cv]?=(H[k.c]?).map (Chunk.c2 aY)):r1 ad aq (k.to cv) v:=by
 intro g c off len rows e aT;cases k with
 |d gN g0 c8 hW=>cases e;rw[az]at aT;exact h _ _ _ _ _ rfl (ant aT)
 |_=>cases e
def anv{aY:Nat→cu}{aG:cj}{aq:ab}{k:de}{cv:Nat}{v:Value}(h:lD ae H k v)(p:cv<aq.length)(U:∀r,aG ⟨cv,r⟩=ae ⟨k.c,r⟩)(az:aq[cv]?=(H[k.c]?).map (Chunk.c2 aY)):lD aG aq (k.to cv) v:=by
 cases k with
 |d c g off len=>obtain⟨cy,cN,fy⟩:=h;refine⟨p,cN,λ z a6 s rows aT=>?_⟩;rw[az]at aT;obtain⟨ar,aM⟩:=fy _ _ _ _ (KC aT);refine⟨ar,λ e=>?_⟩;have mJ:aG ⟨cv,0⟩=ae ⟨c,0⟩:=U 0;have:=aM e;unfold Gn at*;rw[mJ];exact this
 |e c g r=>obtain⟨cy,cN,fy⟩:=h;refine⟨p,cN,λ z a6 s rows aT=>?_⟩;rw[az]at aT;obtain⟨ar,aM⟩:=fy _ _ _ _ (KC aT);have mJ:aG ⟨cv,0⟩=ae ⟨c,0⟩:=U 0;exact⟨ar,λ e=>by rw[mJ];exact aM e⟩
 |h c g s r=>obtain⟨cy,cN,fy⟩:=h;refine⟨p,cN,λ z a6 s rows aT=>?_⟩;rw[az]at aT;obtain⟨ar,aM⟩:=fy _ _ _ _ (KC aT);have mJ:aG ⟨cv,r+1⟩=ae ⟨c,r+1⟩:=U (r+1);refine⟨ar,λ e lY b4 ak=>?_⟩;have:=aM e lY b4 ak;unfold ww at*;rw[mJ];exact this
 |I c g s r i k=>obtain⟨cy,cN,fy⟩:=h;refine⟨p,cN,λ z a6 s rows aT=>?_⟩;rw[az]at aT;obtain⟨ar,aM⟩:=fy _ _ _ _ (KC aT);have mJ:aG ⟨cv,r+1⟩=ae ⟨c,r+1⟩:=U (r+1);exact⟨ar,λ e lY b4 ak aB=>by rw[mJ];exact aM e lY b4 ak aB⟩
def wZ{aY:Nat→cu}{aG:cj}{aq:ab}(sf:KB aY ae H aG aq){a:ay}{v:Value}(r:bf ad ae H a v):bf ad aG aq (cB aY a) v:=by
 induction r with
 |dead v=>exact .dead v
 |i x v h=>simp only[cB];exact .i x v h
 |agg cells cs ao _ a'=>
  simp only[cB,vp];refine .agg _ _ (by simpa using ao) λ k a aF=>?_
  simp only[fQ,dp]at aF;obtain⟨b,an,rfl⟩:=aF;exact a' k b an
 |aS fn first fZ fb cs ao hm _ _ oO oP=>
  simp only[cB,vp];refine .aS _ _ _ _ _ (by simpa using ao) (by simpa using hm) (λ k a aF=>?_) (λ k a aF=>?_)
  ·simp only[fQ,dp]at aF;obtain⟨b,an,rfl⟩:=aF;exact oO k b an
  ·simp only[fQ,dp]at aF;obtain⟨b,an,rfl⟩:=aF;exact oP k b an
 |bl vs xs ao _ a'=>
  simp only[cB,vp];refine .bl _ _ (by simpa using ao) λ k a aF=>?_
  simp only[fQ,dp]at aF;obtain⟨b,an,rfl⟩:=aF;exact a' k b an
 |ref c g off len v aj aU aN ax aR=>
  simp only[cB];cases h:aY c with
  |none=>exact .dead v
  |some cv=>
   obtain⟨p,mJ,az⟩:=sf c cv h;have U:aG cv=ae c:=mJ 0;refine .ref cv g off len v p (λ aD rows ex aT=>?_) (λ aD rows ex aT=>?_) ax (λ aD a6 rows ex aT=>?_)
   ·rw[az]at aT;have:=aU _ _ _ (G2 aT);unfold tW at*;rw[U];exact this
   ·rw[az]at aT;exact aN _ _ _ (Wz aT)
   ·rw[az]at aT;exact aR _ _ _ _ (G2 aT)
 |dV c v aj hm bA hu ax bp=>
  simp only[cB];cases h:aY c with
  |none=>exact .dead v
  |some cv=>
   obtain⟨p,mJ,az⟩:=sf c cv h;have U:aG cv=ae c:=mJ 0;refine .dV cv v p (λ es aT=>?_) (λ t cells aT=>?_) (λ t l aT=>?_) ax (λ aD g rows ex aT=>by rw[az]at aT;exact bp _ _ _ _ (G2 aT))
   ·rw[az]at aT;rw[U];obtain⟨gN,gL,_⟩:=ano aT;exact hm _ gL
   ·rw[az]at aT;rw[U];obtain⟨gN,gL,_⟩:=anp aT;exact bA _ _ gL
   ·rw[az]at aT;rw[U];exact hu _ _ (anq aT)
 |ptr c g r k v aj an aU aN aB ax aR=>
  simp only[cB];cases h:aY c with
  |none=>exact .dead v
  |some cv=>
   obtain⟨p,mJ,az⟩:=sf c cv h;have U:aG cv=ae c:=mJ 0;refine .ptr cv g r k v p (λ cells aT=>?_) (λ aD rows ex aT=>?_) (λ aD rows ex row aT ak=>?_) (λ s I aT=>?_) ax (λ aD a6 rows ex aT=>?_)
   ·rw[az]at aT;obtain⟨gN,gL,_⟩:=ans aT;rw[U];exact an _ gL
   ·rw[az]at aT;rw[U];exact aU _ _ _ (G2 aT)
   ·rw[az]at aT;exact aN _ _ _ _ (Wz aT) ak
   ·rw[az]at aT;rw[U];exact aB _ _ (anr aT)
   ·rw[az]at aT;exact aR _ _ _ _ (G2 aT)
 |x k v h aN=>
  simp only[cB];cases aA:aY k.c with
  |none=>exact .dead v
  |some cv=>obtain⟨p,mJ,az⟩:=sf k.c cv aA;exact .x _ _ (anv h p mJ az) (anu aN az)
def PE{aY:Nat→cu}{aG:cj}{aq:ab}(sf:KB aY ae H aG aq){c cv:Nat}(qe:∀r,aG ⟨cv,r⟩=ae ⟨c,r⟩){x:Chunk}(h:ps ad ae H w c x):ps ad aG aq w cv (Chunk.c2 aY x):=by
 have he:aG cv=ae c:=qe 0;cases x with
 |box cells=>obtain⟨b,cs,elem,bs,p,U,az,bh,bF⟩:=h;refine⟨b,cs,elem,bs,by rw[he];exact p,U,az,by rw[vp];simpa using bh,λ k a aF=>?_⟩;rw[vp]at aF;simp only[fQ,dp]at aF;obtain⟨b,an,rfl⟩:=aF;exact wZ sf (bF k b an)
 |af aD g rows ex=>
  obtain⟨p,U,az⟩:=h;refine⟨λ e=>he.trans (p e),U,?_⟩;rcases az with⟨bh,bF⟩|⟨b,cs,elem,bs,bh,bF⟩
  ·exact .inl ⟨by rw[he];exact bh,bF⟩
  ·exact .inr ⟨b,cs,elem,bs,by rw[he];exact bh,bF⟩
 |bs aD g rows ex=>exact(he.trans h:aG cv=o)
 |iter s I=>obtain⟨b,p,U⟩:=h;exact⟨b,by rw[he];exact p,U⟩
 |map es=>obtain⟨b,h7,aO,p,U,az⟩:=h;exact⟨b,h7,aO,by rw[he];exact p,U,by rw[WA];exact az.to λ a v r=>wZ sf r⟩
 |dm t cells=>obtain⟨b,cs,p,U,bh,bF⟩:=h;refine⟨b,cs,by rw[he];exact p,U,by rw[vp];simpa using bh,λ k a aF=>?_⟩;rw[vp]at aF;simp only[fQ,dp]at aF;obtain⟨b,an,rfl⟩:=aF;exact wZ sf (bF k b an)
 |kc t l=>obtain⟨b,cs,p,U,az⟩:=h;exact⟨b,cs,by rw[he];exact p,U,az⟩
 |gone=>exact(he.trans h:aG cv=o)
 |fd=>exact(he.trans h:aG cv=o)
 |aE z g s rows=>
  rcases h with⟨p,U⟩|⟨b,cs,elem,bs,p,U,az,bh,bF⟩
  ·exact .inl ⟨by rw[he];exact p,U⟩
  ·refine .inr ⟨b,cs,elem,bs,by rw[he];exact p,U,az,bh,λ r y bb=>?_⟩;have:=bF r y bb;have e:aG ⟨cv,r+1⟩=ae ⟨c,r+1⟩:=qe (r+1);cases y with
   |own b4=>obtain⟨bK,bJ⟩:=this;refine⟨bK,?_⟩;rw[e];exact bJ
   |ek q=>exact this
   |dead=>exact this
def oV:∀{a1:cq} {c i:Nat},bD a1 c=j i→a1[i]?=j c
 |[],c,i,h=>by simp[bD]at h
 |d::a1,c,i,h=>by
  simp only[bD]at h;split at h
  next e=>cases h;simp[e]
  ·simp only[dp]at h;obtain⟨ac,bc,rfl⟩:=h;simpa using oV bc
def A2:∀{a1:cq} {c i:Nat},a1.Nodup→a1[i]?=j c→bD a1 c=j i
 |[],c,i,_,h=>by simp at h
 |d::a1,c,0,aI,h=>by simp at h;simp[bD,h]
 |d::a1,c,i+1,aI,h=>by
  simp only[kp]at h;have hm:=jP h;have gE:c≠d:=λ e=>by subst e;exact(G3.1 aI).1 hm
  simp[bD,gE,A2 (G3.1 aI).2 h]
def WB{a1:cq}{c:Nat}(h:bD a1 c=o):c∉a1:=by
 induction a1 with
 |nil=>simp
 |cons d a1 a'=>
  simp only[bD]at h;split at h
  ·cases h
  next gE=>simp only[Option.map_eq_none_iff]at h;simp[gE,a' h]
def DG(H:ab):∀(n:Nat) (l seen:cq),seen.Nodup→(∀c∈seen,c<H.length)→(reach H n l seen).Nodup∧∀c∈reach H n l seen,c<H.length
 |0,l,seen,p,U=>by simp only[reach];exact⟨p,U⟩
 |n+1,[],seen,p,U=>by simp only[reach];exact⟨p,U⟩
 |n+1,c::r,seen,p,U=>by
  simp only[reach];split
  ·exact DG H n r seen p U
  next aj=>
   simp only[not_or,fH]at aj;refine DG H n _ _ ?_ ?_
   ·rw[List.nodup_append];exact⟨p,aX,λ a aF b an=>by simp at an;subst an;exact λ e=>aj.1 (e▸aF)⟩
   ·intro d aP;simp at aP;rcases aP with aP|rfl
    ·exact U d aP
    ·exact aj.2
def yK:∀(a1:cq) (xs:List Chunk) (H:ab),(ev H a1 xs).length=H.length
 |[],xs,H=>by cases xs<;>rfl
 |c::a1,[],H=>rfl
 |c::a1,x::xs,H=>by simp only[ev];rw[yK a1 xs];simp
def PF:∀(a1:cq) (xs:List Chunk) (H:ab),a1.Nodup→xs.length=a1.length→(∀c∈a1,c<H.length)→∀c,(ev H a1 xs)[c]?=match bD a1 c with|some i=>xs[i]?|none=>H[c]?
 |[],xs,H,_,_,_,c=>by cases xs<;>simp[ev,bD]
 |d::a1,[],H,_,h,_,c=>by simp at h
 |d::a1,x::xs,H,aI,ao,bg,c=>by
  simp only[ev];rw[PF a1 xs (H.set d x) (G3.1 aI).2 (by simpa using ao) (λ c aj=>by simpa using bg c (by simp[aj])) c];simp only[bD];by_cases fV:c=d
  ·subst fV;have:bD a1 c=o:=by
    cases h:bD a1 c with
    |none=>rfl
    |some i=>exact absurd (jP (oV h)) (G3.1 aI).1
   rw[this];have G4:=bg c aX;simp[G4]
  ·simp only[fV,if_false];cases h:bD a1 c with
   |none=>simp[dW (bi fV)]
   |some i=>simp
def pF(ad:cn)(ae:cj)(H:ab)(args:aZ)(vs:Array Value):Prop:=vs.size=args.length∧∀(k:Nat) (a:ay),args[k]?=j a→bf ad ae H a (vs.getD k undef)
def oW(E:Env)(aO:dY):Prop:=∀f args H r aq,aO f args H=j (r,aq)→∀ad ae w vs,cf E ad ae H w→pF ad ae H args vs→
 Calls E.P f vs w λ e av=>∃x,e=.returned x∧cz E ad ae H w aq av λ aQ aG=>bf aQ aG aq r x
def A3(E:Env):Prop:=∀f h,E.ext f=j h→∀args H r aq,h args H=j (r,aq)→∀ad ae w vs,cf E ad ae H w→pF ad ae H args vs→
 Calls E.P f vs w λ e av=>∃x,e=.returned x∧cz E ad ae H w aq av λ aQ aG=>bf aQ aG aq r x
def anw{aO:dY}(cD:oW E aO)(uk:A3 E):oW E (fg E aO):=by
 intro f args H r aq h;unfold fg at h;split at h
 next g aR=>exact uk f g aR args H r aq h
 ·exact cD f args H r aq h
def DH:∀{ad:cn} {ae:cj} {H:ab} (au:cf E ad ae H w) {args il:aZ} {H1:ab} (f:Nat→Value),dP H args=j (il,H1)→(∀(k:Nat) (a:ay),args[k]?=j a→bf ad ae H a (f k))→
  cz E ad ae H w H1 w λ aQ aG=>il.length=args.length∧∀(k:Nat) (a:ay),il[k]?=j a→bf aQ aG H1 a (f k)
 |ad,ae,H,au,[],il,H1,f,h,r=>by simp only[dP,br,bM]at h;obtain⟨rfl,rfl⟩:=h;exact cz.refl au ⟨rfl,λ k a h=>by simp at h⟩
 |ad,ae,H,au,a::l,il,H1,f,h,r=>by
  have rest:∀{bW:aZ} {bG:ab},dP H l=j (bW,bG)→cz E ad ae H w bG w λ aQ aG=>bW.length=l.length∧∀(k:Nat) (b:ay),bW[k]?=j b→bf aQ aG bG b (f (k+1)):=
   λ h=>DH au (λ k=>f (k+1)) h (λ k b an=>r (k+1) b (by simpa using an))
  have other:∀{bW:aZ} {bG:ab},dP H l=j (bW,bG)→il=a::bW→H1=bG→cz E ad ae H w H1 w λ aQ aG=>il.length=(a::l).length∧∀(k:Nat) (b:ay),il[k]?=j b→bf aQ aG H1 b (f k):=by
   intro bW bG h ar aM;subst ar aM;refine(rest h).imp λ aQ aG _ hm bu=>⟨by simp[bu.1],λ k b an=>?_⟩
   cases k with
   |zero=>simp at an;subst an;exact hm _ _ (r 0 a rfl)
   |succ k=>exact bu.2 k b (by simpa using an)
  cases a with
  |ref c g off len=>
   simp only[dP]at h;split at h
   next x bG p=>
    split at h
    next bW pG U=>
     simp only[br,bM]at h;obtain⟨rfl,rfl⟩:=h;refine(AH au (r 0 _ rfl) p).trans λ eI ey dR _ hm ap=>?_
     refine(DH dR (λ k=>f (k+1)) U (λ k b an=>hm _ _ (r (k+1) b (by simpa using an)))).imp λ fs eW cr hk bu=>⟨by simp[bu.1],λ k b an=>?_⟩
     cases k with
     |zero=>simp at an;subst an;exact .i _ _ (ap.mono cr)
     |succ k=>exact bu.2 k b (by simpa using an)
    ·cases h
   ·cases h
  |x q=>
   simp only[dP]at h;split at h
   next x bG p=>
    split at h
    next bW pG U=>
     simp only[br,bM]at h;obtain⟨rfl,rfl⟩:=h;refine(AH au (r 0 _ rfl) p).trans λ eI ey dR _ hm ap=>?_
     refine(DH dR (λ k=>f (k+1)) U (λ k b an=>hm _ _ (r (k+1) b (by simpa using an)))).imp λ fs eW cr hk bu=>⟨by simp[bu.1],λ k b an=>?_⟩
     cases k with
     |zero=>simp at an;subst an;exact .i _ _ (ap.mono cr)
     |succ k=>exact bu.2 k b (by simpa using an)
    ·cases h
   ·cases h
  |agg cells=>
   simp only[dP]at h;split at h
   next xs bG p=>
    split at h
    next bW pG U=>
     simp only[br,bM]at h;obtain⟨rfl,rfl⟩:=h;have iB:=r 0 _ rfl;have bo:∃cs:Array Value,f 0=.agg cs∧cs.size=cells.length∧∀(k:Nat) (a:ay),cells[k]?=j a→bf ad ae H a (cs.getD k undef):=by
      generalize f 0=v at iB;cases iB with
      |agg _ cs ao h=>exact⟨cs,rfl,ao,h⟩
     obtain⟨cs,G5,ao,fp⟩:=bo;refine(J_ au (λ k=>cs.getD k undef) fp p).trans λ eI ey dR _ hm ap=>?_
     refine(DH dR (λ k=>f (k+1)) U (λ k b an=>hm _ _ (r (k+1) b (by simpa using an)))).imp λ fs eW cr hk bu=>⟨by simp[bu.1],λ k b an=>?_⟩
     cases k with
     |zero=>
      simp at an;subst an;rw[G5];refine .agg _ _ (by simp[lu,ap.1,ao]) λ k a aF=>?_
      simp only[lu,fQ,dp]at aF;obtain⟨x,mz,rfl⟩:=aF;exact .i _ _ ((ap.2 k x mz).mono cr)
     |succ k=>exact bu.2 k b (by simpa using an)
    ·cases h
   ·split at h
    next bW bG p=>simp only[br,bM]at h;exact other p h.1.symm h.2.symm
    ·cases h
  |dead|i|ptr|dV|aS|bl=>
   simp only[dP]at h;split at h
   next bW bG p=>simp only[br,bM]at h;exact other p h.1.symm h.2.symm
   ·cases h
def WC:∀(bB:dI) (l:aZ),(ke bB l).length=l.length
 |[],l=>rfl
 |k::bB,[]=>rfl
 |k::bB,a::l=>by cases a<;>simp[ke,WC bB l]
def WD:∀(bB:dI) (l:aZ) (i:Nat) (y:ay),(ke bB l)[i]?=j y→∃x,l[i]?=j x∧(y=x∨∃k z,x=.i z∧y=.i (iS k z))
 |[],l,i,y,h=>⟨y,h,.inl rfl⟩
 |k::bB,[],i,y,h=>by simp[ke]at h
 |k::bB,a::l,0,y,h=>by
  cases a<;>simp[ke]at h<;>subst h
  case i z=>exact⟨_,rfl,.inr ⟨k,z,rfl,rfl⟩⟩
  all_goals exact⟨_,rfl,.inl rfl⟩
 |k::bB,a::l,i+1,y,h=>by
  have:(ke bB l)[i]?=j y:=by cases a<;>simpa[ke]using h
  simpa using WD bB l i y this
def anx{bB:dI}{a:ay}{v:Value}(r:bf ad ae H a v):bf ad ae H (sV bB a) v:=by
 cases r with
 |i x v h=>exact .i _ _ (AM h)
 |agg cells cs ao h=>
  refine .agg _ _ (by rw[WC];exact ao) λ k a aF=>?_
  obtain⟨x,ap,rfl|⟨dr,z,rfl,rfl⟩⟩:=WD _ _ _ _ aF
  ·exact h k _ ap
  ·exact .i _ _ (AM (ji (h k _ ap)))
 |dead v=>exact .dead v
 |ref c g al n v p U az bh bF=>exact .ref c g al n v p U az bh bF
 |ptr c g r k v p U az bh bF dN g'=>exact .ptr c g r k v p U az bh bF dN g'
 |dV c v p U az bh bF dN=>exact .dV c v p U az bh bF dN
 |x k v h aN=>exact .x k v h aN
 |aS fn a b fb cs p U az bh=>exact .aS fn a b fb cs p U az bh
 |bl vs xs ao h=>exact .bl vs xs ao h
def PG:∀(bB:List dI) (l:aZ),(oJ bB l).length=l.length
 |[],l=>rfl
 |k::bB,[]=>rfl
 |k::bB,a::l=>by simp[oJ,PG bB l]
def PH:∀(bB:List dI) (l:aZ) (f:Nat→Value),(∀(k:Nat) (a:ay),l[k]?=j a→bf ad ae H a (f k))→∀(k:Nat) (a:ay),(oJ bB l)[k]?=j a→bf ad ae H a (f k)
 |[],l,f,h=>h
 |k::bB,[],f,h=>h
 |yL::bB,b::l,f,h=>λ k a aF=>by
  cases k with
  |zero=>simp[oJ]at aF;subst aF;exact anx (h 0 b rfl)
  |succ k=>exact PH bB l (λ k=>f (k+1)) (λ k a iy=>h (k+1) a (by simpa using iy)) k a (by simpa[oJ]using aF)
def anz(au:cf E ad ae H w)(x:Chunk):fz ad ae H ad ae (H++[x]):=by
 refine ng (λ _ _ h=>h) aX λ c aj=>?_
 exact jw.same (by rw[eO aj]) (λ _=>rfl)
def PI(au:cf E ad ae H w){a:ay}{v:Value}(z:Nat)(r:bf ad ae H a v):cz E ad ae H w (jL z H a).2 w λ aQ aG=>bf aQ aG (jL z H a).2 (jL z H a).1 v:=by
 unfold jL;split
 next aD=>
  cases aP:decide (z<1000)
  ·have bo:∃a,v=.slice a 0 0:=by
    have:=ji r;cases this with
    |nil _ _ a cap h=>exact⟨a,by rw[h rfl]⟩
    |af _ _ _ b off cap cs elem bs dn cr aj ap ak p U=>exact⟨_,by rw[ap rfl];rfl⟩
   obtain⟨a,rfl⟩:=bo;exact Pf au (z-1000) a
  simp only[Al];have hm:=anz au (.af z 0 [] J);have ct:ae H.length=o:=by
   cases h:ae H.length with
   |none=>rfl
   |some I=>have:=au.C_ (b:=I.1) (n:=I.2) h;omega
  have bo:∃a,v=.slice a 0 0:=by
   have:=ji r;cases this with
   |nil _ _ a cap h=>exact⟨a,by rw[h rfl]⟩
   |af _ _ _ b off cap cs elem bs dn cr aj ap ak p U=>exact⟨_,by rw[ap rfl];rfl⟩
  obtain⟨a,rfl⟩:=bo;refine⟨ad,ae,⟨au.ei,λ c x ap=>?_,au.inj,λ c b n h=>?_,au.fv⟩,Trans.refl _ _ _,hm,?_⟩
  ·by_cases aj:c<H.length
   ·rw[eO aj]at ap;exact(au.ch c x ap).mono (λ _=>rfl) (λ _ _ h=>h) hm (λ _ _ _ _=>rfl)
   ·have:c=H.length:=by have:=(bQ.1 ap).1;simp at this;omega
    subst this;simp at ap;subst ap;exact⟨λ _=>ct,λ i r h=>by simp at h,.inl ⟨ct,rfl⟩⟩
  ·have:=au.sep c b n h;exact⟨this.1,this.2.1,by simp;omega⟩
  ·refine .ref _ _ _ _ _ aX (λ iU dv io h=>?_) (λ _ _ _ h=>by simp at h) ⟨_,_,rfl⟩ (λ _ _ _ _ h=>aa);simp at h;obtain⟨rfl,rfl,rfl⟩:=h;exact⟨aX,a,0,rfl,.inl ⟨ct,rfl⟩⟩
 ·exact cz.refl au r
def anA(au:cf E ad ae H w){a:ay}{v:Value}(k:dI)(r:bf ad ae H a v):cz E ad ae H w (lW k H a).2 w λ aQ aG=>bf aQ aG (lW k H a).2 (lW k H a).1 v:=by
 unfold lW;split
 ·exact PI au _ r
 ·exact cz.refl au r
def PJ:∀{ad:cn} {ae:cj} (bB:List dI) (l:aZ) {H:ab} (au:cf E ad ae H w) (f:Nat→Value),(∀(k:Nat) (a:ay),l[k]?=j a→bf ad ae H a (f k))→
  cz E ad ae H w (e6 bB l H).2 w λ aQ aG=>(e6 bB l H).1.length=l.length∧∀(k:Nat) (a:ay),(e6 bB l H).1[k]?=j a→bf aQ aG (e6 bB l H).2 a (f k)
 |ad,ae,[],l,H,au,f,h=>by simp only[e6,true_and];exact cz.refl au h
 |ad,ae,yL::bB,[],H,au,f,h=>by simp only[e6,true_and];exact cz.refl au h
 |ad,ae,yL::bB,b::l,H,au,f,h=>by
  simp only[e6];refine(anA au yL (h 0 b rfl)).trans λ eI ey dR _ hm ap=>?_
  refine(PJ bB l dR (λ k=>f (k+1)) (λ k a iy=>hm _ _ (h (k+1) a (by simpa using iy)))).imp λ aQ aG _ hk bu=>⟨by simp[bu.1],λ k a aF=>?_⟩
  cases k with
  |zero=>simp at aF;subst aF;exact hk _ _ ap
  |succ k=>exact bu.2 k a (by simpa using aF)
def anB(au:cf E ad ae H w){g:FuncId}{args il:aZ}{H1:ab}(f:Nat→Value)(h:js E g H args=j (il,H1))(r:∀(k:Nat) (a:ay),args[k]?=j a→bf ad ae H a (f k)):
  cz E ad ae H w H1 w λ aQ aG=>il.length=args.length∧∀(k:Nat) (a:ay),il[k]?=j a→bf aQ aG H1 a (f k):=by
 unfold js at h;split at h
 ·simp only[br]at h;have:=PJ (E.gH g) args au f r;rw[h]at this;exact this
 ·split at h
  next bW bG ax=>simp only[br,bM]at h;obtain⟨rfl,rfl⟩:=h;exact(DH au f ax r).imp λ aQ aG _ _ bu=>⟨by rw[PG];exact bu.1,PH _ _ f bu.2⟩
  ·cases h
end
section
variable{E:Env}{ad:cn}{ae:cj}{H:ab}{w:World}
def w0(H:ab)(a1:cq):ab:=a1.map λ c=>((H[c]?).map (Chunk.c2 (bD a1))).getD (.iter [] 0)
def oX(ae:cj)(a1:cq):cj:=λ i=>match a1[i.c]? with|some c=>ae ⟨c,i.r⟩|none=>o
def fK.ext'{i ac:fK}(p:i.c=ac.c)(U:i.r=ac.r):i=ac:=by cases i;cases ac;simp_all
def WE{a1:cq}(bg:∀c∈a1,c<H.length){i c:Nat}(h:a1[i]?=j c):(w0 H a1)[i]?=(H[c]?).map (Chunk.c2 (bD a1)):=by have aj:=bg c (jP h);simp[w0,h,aj]
def G6{a1:cq}(aI:a1.Nodup)(bg:∀c∈a1,c<H.length):KB (bD a1) ae H (oX ae a1) (w0 H a1):=by intro c i h;have aB:=oV h;refine⟨by simp[w0];exact(bQ.1 aB).1,λ r=>by simp[oX,aB],WE bg aB⟩
def WG(au:cf E ad ae H w){a1:cq}(aI:a1.Nodup)(bg:∀c∈a1,c<H.length):cf E ad (oX ae a1) (w0 H a1) w:=by
 refine⟨au.ei,λ i x ap=>?_,λ i ac b n dT p U=>?_,λ i b n h=>?_,au.fv⟩
 ·have yC:i<a1.length:=by have:=(bQ.1 ap).1;simpa[w0]using this
  have aB:=eC yC;rw[WE bg aB]at ap;simp only[dp]at ap;obtain⟨y,bb,rfl⟩:=ap;exact PE (G6 aI bg) (λ r=>by simp[oX,aB]) (au.ch _ _ bb)
 ·unfold oX at p U;split at p
  next c aj=>
   split at U
   next d aP=>have:=au.inj _ _ _ _ _ p U;simp only[fK.mk.injEq]at this;obtain⟨rfl,ak⟩:=this;have ar:=A2 aI aj;have aM:=A2 aI aP;rw[ar]at aM;exact fK.ext' (q6 aM) ak
   ·cases U
  ·cases p
 ·unfold oX at h;split at h
  next c aj=>have:=au.sep _ _ _ h;exact⟨this.1,this.2.1,by simp[w0];exact(bQ.1 aj).1⟩
  ·cases h
def anC(au:cf E ad ae H w){a1:cq}(aI:a1.Nodup)(bg:∀c∈a1,c<H.length){L:ab}{av:World}{aQ:cn}{aG:cj}(DI:cf E aQ aG L av)(dO:Trans ad (oX ae a1) w aQ aG av)
  (hm:fz ad (oX ae a1) (w0 H a1) aQ aG L)(fl:a1.length≤L.length){K:cq}(j7:K.Nodup)(KD:∀i∈K,a1.length≤i)(G7:∀i∈K,i<L.length){sg:ab}
  (hE:sg=ev H a1 ((L.take a1.length).map (Chunk.c2 (dG a1 H.length K)))++K.map λ i=>((L[i]?).map (Chunk.c2 (dG a1 H.length K))).getD (.iter [] 0)):
  ∃kq,cf E aQ kq sg av∧Trans ad ae w aQ kq av∧fz ad ae H aQ kq sg∧∀r x,bf aQ aG L r x→bf aQ kq sg (cB (dG a1 H.length K) r) x:=by
 let aY:=dG a1 H.length K
 let kq:cj:=λ c=>match bD a1 c.c with
  |some i=>aG ⟨i,c.r⟩
  |none=>if c.c<H.length then ae c else match K[c.c-H.length]? with
   |some i=>aG ⟨i,c.r⟩
   |none=>o
 have w1:((L.take a1.length).map (Chunk.c2 aY)).length=a1.length:=by simp;omega
 have oo:∀c,sg[c]?=match bD a1 c with
   |some i=>(L[i]?).map (Chunk.c2 aY)
   |none=>if c<H.length then H[c]? else match K[c-H.length]? with
    |some i=>(L[i]?).map (Chunk.c2 aY)
    |none=>o:=by
  intro c;rw[hE];by_cases aj:c<H.length
  ·rw[eO (by rw[yK];exact aj),PF _ _ _ aI w1 bg];cases ax:bD a1 c with
   |none=>simp[aj]
   |some i=>have aB:=(bQ.1 (oV ax)).1;simp[oQ,aB,aY]
  ·rw[hK (by rw[yK];omega),yK];have ax:bD a1 c=o:=by
    cases h:bD a1 c with
    |none=>rfl
    |some i=>exact absurd (bg c (jP (oV h))) aj
   rw[ax];simp only[aj,if_false,fQ];cases aA:K[c-H.length]? with
   |none=>rfl
   |some i=>have:=G7 i (jP aA);simp[this,aY]
 have aVa:sg.length=H.length+K.length:=by rw[hE];simp[yK]
 have sf:KB aY aG L kq sg:=by
  intro i c h;have aV:(a1[i]?=j c)∨(a1[i]?=o∧∃ac,bD K i=j ac∧c=ac+H.length):=by
   simp only[aY,dG]at h;split at h
   next d aP=>cases h;exact .inl aP
   next aP=>simp only[dp]at h;obtain⟨ac,bc,rfl⟩:=h;exact .inr ⟨aP,ac,bc,rfl⟩
  rcases aV with dA|⟨_,ac,bc,rfl⟩
  ·have ax:=A2 aI dA;have aj:=bg c (jP dA);exact⟨aa,λ r=>by simp[kq,ax],by rw[oo,ax]⟩
  ·have DJ:=oV bc;have kM:=(bQ.1 DJ).1;have ax:bD a1 (ac+H.length)=o:=by
    cases h:bD a1 (ac+H.length)with
    |none=>rfl
    |some i=>have:=bg _ (jP (oV h));omega
   have e:¬(ac+H.length<H.length):=aa;refine⟨aa,λ r=>by simp[kq,ax,DJ];intro h;omega,by rw[oo,ax];simp[DJ];intro h;omega⟩
 have own:∀(i:fK) b n,aG i=j (b,n)→w.heap.size≤b∨∃(c:fK) (m:Nat),c.c∈a1∧ae c=j (b,m):=by
  intro i b n h;rcases dO.own i b n h with p|⟨ac,m,p⟩
  ·exact .inl p
  ·unfold oX at p;split at p
   next c aj=>exact .inr ⟨⟨c,_⟩,m,jP aj,p⟩
   ·cases p
 have frame:∀(c:fK),c.c∉a1→∀b n,ae c=j (b,n)→av.heap[b]?=w.heap[b]?:=by
  intro c anD b n h;refine dO.frame b (au.sep _ _ _ h).2.1 λ i m aB=>?_
  unfold oX at aB;split at aB
  next d aP=>have:=au.inj _ _ _ _ _ h aB;subst this;exact anD (jP aP)
  ·cases aB
 have G8:∀(c:fK) b n,kq c=j (b,n)→(∃i,aG ⟨i,c.r⟩=j (b,n)∧((bD a1 c.c=j i)∨(bD a1 c.c=o∧H.length≤c.c∧K[c.c-H.length]?=j i)))∨(c.c∉a1∧bD a1 c.c=o∧c.c<H.length∧ae c=j (b,n)):=by
  intro c b n h;simp only[kq]at h;split at h
  next i aB=>exact .inl ⟨i,h,.inl aB⟩
  next ax=>
   split at h
   next aj=>exact .inr ⟨WB ax,ax,aj,h⟩
   next aj=>
    split at h
    next i aB=>exact .inl ⟨i,h,.inr ⟨ax,aa,aB⟩⟩
    ·cases h
 have WH:∀(i:fK) b n (c:fK) m,aG i=j (b,n)→c.c∉a1→ae c=j (b,m)→False:=by
  intro i b n c m p aj U;rcases own i b n p with az|⟨d,b6,aP,az⟩
  ·have:=(au.sep _ _ _ U).2.1;omega
  ·have:=au.inj _ _ _ _ _ U az;subst this;exact aj aP
 have WI:fz ad ae H aQ kq sg:=by
  intro a v r;have KE:=λ a v (r:bf ad ae H a v)=>wZ (aq:=sg) (aG:=kq) sf (hm _ _ (wZ (G6 aI bg) r))
  induction r with
  |dead v=>exact .dead v
  |i x v h=>exact .i x v (h.mono dO.ei)
  |agg cells cs ao _ a'=>exact .agg cells cs ao a'
  |aS fn first fZ fb cs ao hm _ _ oO oP=>exact .aS fn first fZ fb cs ao hm oO oP
  |bl vs xs ao _ a'=>exact .bl vs xs ao a'
  |ref c g off len v aj aU aN ax aR=>
   cases iA:bD a1 c with
   |some i=>
    have:=KE _ _ (.ref c g off len v aj aU aN ax aR);have an:aY i=j c:=by simp[aY,dG,oV iA]
    simp only[cB,iA]at this;rw[an]at this;exact this
   |none=>
    have aT:sg[c]?=H[c]?:=by rw[oo,iA];simp[aj]
    have ct:kq c=ae c:=by simp[kq,iA,aj]
    refine .ref c g off len v aa (λ aD rows ex h=>?_) (λ aD rows ex h=>?_) ax (λ aD a6 rows ex h=>?_)
    ·rw[aT]at h;have:=aU _ _ _ h;unfold tW at*;rw[ct];exact this
    ·rw[aT]at h;exact⟨(aN _ _ _ h).1,(aN _ _ _ h).2.mono dO.ei⟩
    ·rw[aT]at h;exact aR _ _ _ _ h
  |dV c v aj hm bA hu ax bp=>
   cases iA:bD a1 c with
   |some i=>
    have:=KE _ _ (.dV c v aj hm bA hu ax bp);have an:aY i=j c:=by simp[aY,dG,oV iA]
    simp only[cB,iA]at this;rw[an]at this;exact this
   |none=>
    have aT:sg[c]?=H[c]?:=by rw[oo,iA];simp[aj]
    have ct:kq c=ae c:=by simp[kq,iA,aj]
    refine .dV c v aa (λ es h=>?_) (λ t cells h=>?_) (λ t l h=>?_) ax (λ aD g rows ex h=>by rw[aT]at h;exact bp _ _ _ _ h)
    ·rw[aT]at h;rw[ct];exact hm _ h
    ·rw[aT]at h;rw[ct];exact bA _ _ h
    ·rw[aT]at h;rw[ct];exact hu _ _ h
  |x k v h aN=>
   cases iA:bD a1 k.c with
   |some i=>
    have:=KE _ _ (.x k v h aN);have an:aY i=j k.c:=by simp[aY,dG,oV iA]
    simp only[cB,iA]at this;have qq:(k.to i).c=i:=by cases k<;>rfl
    have wN:(k.to i).to k.c=k:=by cases k<;>rfl
    rw[qq,an]at this;simp only[wN]at this;exact this
   |none=>
    have aj:=h.lt;have aT:sg[k.c]?=H[k.c]?:=by rw[oo,iA];simp[aj]
    refine .x _ _ (h.step aa ?_) (aN.to dO.ei λ g rows e=>by rw[←aT];exact e);intro z g s rows l2;rw[aT]at l2;exact .inl ⟨s,rows,l2,by simp[kq,iA,aj],rfl,.inr ⟨rfl,λ r b4 ak=>⟨b4,ak,rfl,by simp[kq,iA,aj]⟩⟩⟩
  |ptr c g r k v aj an aU aN aB ax aR=>
   cases iA:bD a1 c with
   |some i=>
    have:=KE _ _ (.ptr c g r k v aj an aU aN aB ax aR);have an:aY i=j c:=by simp[aY,dG,oV iA]
    simp only[cB,iA]at this;rw[an]at this;exact this
   |none=>
    have aT:sg[c]?=H[c]?:=by rw[oo,iA];simp[aj]
    have ct:kq c=ae c:=by simp[kq,iA,aj]
    refine .ptr c g r k v aa (λ cells h=>?_) (λ aD rows ex h=>?_) (λ aD rows ex row h ak=>?_) (λ s I h=>?_) ax (λ aD a6 rows ex h=>?_)
    ·rw[aT]at h;rw[ct];exact an _ h
    ·rw[aT]at h;rw[ct];exact aU _ _ _ h
    ·rw[aT]at h;exact(aN _ _ _ _ h ak).mono dO.ei
    ·rw[aT]at h;rw[ct];exact aB _ _ h
    ·rw[aT]at h;exact aR _ _ _ _ h
 refine⟨kq,⟨DI.ei,λ c x ap=>?_,λ c cv b n dT p U=>?_,λ c b n h=>?_,DI.fv⟩,⟨dO.os,dO.tape,dO.output,dO.size,λ b an DK=>?_,dO.ei,λ b an=>?_,λ c b n h=>?_⟩,WI,λ r x ak=>wZ sf ak⟩
 ·rw[oo]at ap;split at ap
  next i aB=>simp only[dp]at ap;obtain⟨y,bb,rfl⟩:=ap;exact PE sf (λ r=>by simp[kq,aB]) (DI.ch _ _ bb)
  next ax=>
   split at ap
   next aj=>exact(au.ch _ _ ap).mono (λ r=>by simp[kq,ax,aj]) dO.ei WI (λ r b n h=>frame ⟨c,r⟩ (WB ax) b n h)
   next aj=>
    split at ap
    next i aB=>simp only[dp]at ap;obtain⟨y,bb,rfl⟩:=ap;exact PE sf (λ r=>by simp[kq,ax,aj,aB]) (DI.ch _ _ bb)
    ·cases ap
 ·rcases G8 _ _ _ p with⟨i,ar,d1⟩|⟨gM,nT,dt,ar⟩
  ·rcases G8 _ _ _ U with⟨ac,aM,d2⟩|⟨gU,sh,fh,aM⟩
   ·have WJ:=DI.inj _ _ _ _ _ ar aM;simp only[fK.mk.injEq]at WJ;obtain⟨rfl,ib⟩:=WJ;refine fK.ext' ?_ ib;rcases d1 with d1|⟨_,dt,d1⟩
    ·rcases d2 with d2|⟨_,fh,d2⟩
     ·have hD:=oV d1;have a2:=oV d2;rw[hD]at a2;exact q6 a2
     ·have hD:=(bQ.1 (oV d1)).1;have a2:=KD i (jP d2);omega
    ·rcases d2 with d2|⟨_,fh,d2⟩
     ·have hD:=(bQ.1 (oV d2)).1;have a2:=KD i (jP d1);omega
     ·have hD:=A2 j7 d1;have a2:=A2 j7 d2;rw[hD]at a2;have:=q6 a2;omega
   ·exact(WH _ _ _ _ _ ar gU aM).elim
  ·rcases G8 _ _ _ U with⟨ac,aM,d2⟩|⟨gU,sh,fh,aM⟩
   ·exact(WH _ _ _ _ _ aM gM ar).elim
   ·exact au.inj _ _ _ _ _ ar aM
 ·rcases G8 _ _ _ h with⟨i,ar,d1⟩|⟨gM,nT,dt,ar⟩
  ·have:=DI.sep _ _ _ ar;refine⟨this.1,this.2.1,?_⟩;rcases d1 with d1|⟨_,dt,d1⟩
   ·have:=bg c.c (jP (oV d1));omega
   ·have:=(bQ.1 d1).1;omega
  ·have aU:=au.sep _ _ _ ar;refine⟨?_,by have:=dO.size;omega,aa⟩;cases cr:aQ b with
   |none=>rfl
   |some al=>
    exfalso;rcases dO.r2 b (by rw[cr];simp)with p|p|⟨i,m,p⟩
    ·rw[aU.1]at p;exact p rfl
    ·omega
    ·unfold oX at p;split at p
     next d aP=>have:=au.inj _ _ _ _ _ ar p;subst this;exact gM (jP aP)
     ·cases p
 ·refine dO.frame b an λ i m aB=>?_
  unfold oX at aB;split at aB
  ·exact DK _ _ aB
  ·cases aB
 ·rcases dO.r2 b an with p|p|⟨i,m,p⟩
  ·exact .inl p
  ·exact .inr (.inl p)
  ·unfold oX at p;split at p
   ·exact .inr (.inr ⟨_,_,p⟩)
   ·cases p
 ·rcases G8 _ _ _ h with⟨i,ar,d1⟩|⟨gM,nT,dt,ar⟩
  ·rcases own _ _ _ ar with p|⟨d,m,_,p⟩
   ·exact .inl p
   ·exact .inr ⟨_,_,p⟩
  ·exact .inr ⟨_,_,ar⟩
def anE{aO:dY}(cD:oW E aO)(uk:A3 E):oW E (lX E aO):=by
 intro f args H r aq h ad ae w vs au b9;unfold lX at h;have anF:∀il H1,js E f H args=j (il,H1)→cz E ad ae H w H1 w λ aQ aG=>pF aQ aG H1 il vs:=by
  intro il H1 ax;exact(anB au _ ax b9.2).imp λ aQ aG _ _ bu=>⟨by rw[bu.1];exact b9.1,bu.2⟩
 split at h
 ·cases h
 next il H1 ax=>
  obtain⟨eI,ey,dR,mD,hM,KF⟩:=anF il H1 ax;simp only at h;split at h
  ·cases h
  next iB L fl=>
   split at h
   ·cases h
   next hlen=>
    simp only[br,bM]at h;obtain⟨rfl,rfl⟩:=h;obtain⟨G9,yM⟩:=DG H1 64 (bI il) [] aX aX;generalize dA:reach H1 64 (bI il) []=a1 at*;have PK:pF eI (oX ey a1) (w0 H1 a1) (cP (bD a1) il) vs:=by refine⟨by rw[vp];simpa using KF.1,λ k a aF=>?_⟩;rw[vp]at aF;simp only[fQ,dp]at aF;obtain⟨b,an,rfl⟩:=aF;exact wZ (G6 G9 yM) (KF.2 k b an)
    refine(anw cD uk f _ _ _ _ fl eI (oX ey a1) w vs (WG dR G9 yM) PK).mono λ e av he=>?_
    obtain⟨x,ap,fs,eW,bK,bJ,cL,e4⟩:=he;obtain⟨qs,anG⟩:=DG L 64 (bj iB++(L.take a1.length).flatMap Chunk.refs) [] aX aX;obtain⟨kq,fm,dZ,KG,DL⟩:=anC dR G9 yM bK bJ cL aa (K:=(reach L 64 (bj iB++(L.take a1.length).flatMap Chunk.refs) []).filter λ i=>decide (a1.length≤i))
     (qs.filter _) (λ i aB=>by simpa using(PL.1 aB).2) (λ i aB=>anG i (PL.1 aB).1) rfl
    exact⟨x,ap,fs,kq,fm,mD.trans dZ,hM.trans KG,DL _ _ e4⟩
end
section
variable{E:Env}{ad:cn}{ae:cj}{H:ab}{w:World}
def WK{l m:aZ}{xs di:Array Value}(h:pF ad ae H l xs)(k:pF ad ae H m di):pF ad ae H (l++m) (xs++di):=by
 refine⟨by simp[h.1,k.1],λ ac a aF=>?_⟩;rw[vi]at aF;rw[dM];split at aF
 next bc=>have:=h.2 _ _ aF;rw[yD (by rw[h.1];exact bc),←dM];exact this
 next bc=>have:=k.2 _ _ aF;rw[Wn (by rw[h.1];omega),h.1,←dM];exact this
def anH{R:Fr}{a:Act}(au:cf E ad ae H w)(aN:fq ad ae H R a.tmps)(l:Array Operand):pF ad ae H (l.toList.map (bw E R)) (l.map a.eval):=by refine⟨aX,λ k b an=>?_⟩;simp only[fQ,dp,nM]at an;obtain⟨x,ap,rfl⟩:=an;have bg:=(kg.1 ap).1;rw[getD_map _ _ _ bg,(kg.1 ap).2];exact e7 au aN x
def A4(E:Env):Prop:=∀g fn,E.pj g=j fn→∀(v:Value) (w:World),v.oneCell'=ah→Calls E.P g #[v] w λ e av=>e=.returned (.func (.func fn) #[] #[.pointer (j ⟨w.heap.size,0,o⟩)])∧∃t,av=w.alloc (.cells #[v] t)
def anI(h:∀f,E.pj f=o):A4 E:=λ g fn aR=>by rw[h]at aR;cases aR
def anJ{a:ay}{v:Value}(r:bf ad ae H a v)(h:one a=ah):v.oneCell'=ah∧cU a=[a]∧v.cells=#[v]:=by
 have p:cU a=[a]:=by cases a<;>simp[one]at h<;>rfl
 have U:(cU a).all one=ah:=by rw[p];simp[h]
 obtain⟨ar,aM,bZ⟩:=ve r U;have ci:v.oneCell'=ah:=by
  cases r with
  |i x v ap=>exact GC ap
  |ref c g off len v aj aU aN ax aR=>obtain⟨a,m,rfl⟩:=ax;rfl
  |ptr c g r k v aj an aU aN aB ax aR=>obtain⟨a,rfl⟩:=ax;rfl
  |dV c v aj hm bA hu ax bp=>exact ax
  |x k v ap aN=>exact ap.one
  |aS=>rfl
  |_=>simp[one]at h
 exact⟨ci,p,by cases v<;>simp_all [s_,OC]⟩
def anK{x y:Value}(h:Gf x y=ah):x=y:=by
 unfold Gf at h;split at h
 ·split at h
  ·simp only[c',decide_eq_true_eq]at h;rw[h.1,h.2]
  ·cases h
 ·split at h
  ·rw[eq_of_beq h]
  ·cases h
 ·split at h
  ·rfl
  ·cases h
 ·split at h
  ·rfl
  ·cases h
 ·split at h
  ·rfl
  ·cases h
 ·exact @of_decide_eq_true _ (Classical.propDecidable _) h
def anL(x:Value):Gf x x=ah:=by unfold Gf;split<;>simp
mutual
theorem KH:∀{x y:bx},mr x y=ah→x=y
 |.v x,y,h=>by
  cases y with
  |v y=>simp only[mr]at h;rw[anK h]
  |_=>simp[mr]at h
 |.str a,y,h=>by
  cases y with
  |str b=>simp only[mr]at h;rw[eq_of_beq h]
  |_=>simp[mr]at h
 |.af z r e,y,h=>by
  cases y with
  |af ds hq lY=>simp only[mr,c']at h;rw[eq_of_beq h.1,DM h.2.1,eq_of_beq h.2.2]
  |_=>simp[mr]at h
 |.gR c al,y,h=>by
  cases y with
  |gR cv pn=>simp only[mr,c']at h;rw[PM h.1,eq_of_beq h.2]
  |_=>simp[mr]at h
 |.mp a,y,h=>by
  cases y with
  |mp b=>simp only[mr,decide_eq_true_eq]at h;rw[h]
  |_=>simp[mr]at h
theorem PM:∀{x y:List bx},wv x y=ah→x=y
 |[],y,h=>by
  cases y with
  |nil=>rfl
  |cons=>simp[wv]at h
 |a::r,y,h=>by
  cases y with
  |nil=>simp[wv]at h
  |cons b t=>simp only[wv,c']at h;rw[KH h.1,PM h.2]
theorem DM:∀{x y:List (List bx)},sZ x y=ah→x=y
 |[],y,h=>by
  cases y with
  |nil=>rfl
  |cons=>simp[sZ]at h
 |a::r,y,h=>by
  cases y with
  |nil=>simp[sZ]at h
  |cons b t=>simp only[sZ,c']at h;rw[PM h.1,DM h.2]
end
mutual
theorem KI:∀x:bx,mr x x=ah
 |.v x=>by simp[mr,anL]
 |.str a=>by simp[mr]
 |.af z r e=>by simp[mr,KJ r]
 |.gR c al=>by simp[mr,PN c]
 |.mp a=>by simp[mr]
theorem PN:∀x:List bx,wv x x=ah
 |[]=>rfl
 |a::r=>by simp[wv,KI a,PN r]
theorem KJ:∀x:List (List bx),sZ x x=ah
 |[]=>rfl
 |a::r=>by simp[sZ,PN a,KJ r]
end
def anM{x y:Fn}(h:JD x y=ah):x=y:=of_decide_eq_true h
def anN(x:Fn):JD x x=ah:=by simp[JD]
mutual
theorem WL:∀{x y:ay},jt x y=ah→x=y
 |.dead,y,h=>by
  cases y with
  |dead=>rfl
  |_=>simp[jt]at h
 |.i x,y,h=>by
  cases y with
  |i y=>simp only[jt]at h;rw[KH h]
  |_=>simp[jt]at h
 |.agg a,y,h=>by
  cases y with
  |agg b=>simp only[jt]at h;rw[A5 h]
  |_=>simp[jt]at h
 |.ref a b c d,y,h=>by
  cases y with
  |ref b_ b0 cv im=>simp only[jt,c',beq_iff_eq]at h;obtain⟨rfl,rfl,rfl,rfl⟩:=h;rfl
  |_=>simp[jt]at h
 |.ptr a b c d,y,h=>by
  cases y with
  |ptr b_ b0 cv im=>simp only[jt,c',beq_iff_eq]at h;obtain⟨rfl,rfl,rfl,rfl⟩:=h;rfl
  |_=>simp[jt]at h
 |.dV a,y,h=>by
  cases y with
  |dV b=>simp only[jt]at h;rw[eq_of_beq h]
  |_=>simp[jt]at h
 |.x a,y,h=>by
  cases y with
  |x b=>simp only[jt,decide_eq_true_eq]at h;rw[h]
  |_=>simp[jt]at h
 |.aS f a b,y,h=>by
  cases y with
  |aS JE b_ b0=>simp only[jt,c']at h;rw[anM h.1,A5 h.2.1,A5 h.2.2]
  |_=>simp[jt]at h
 |.bl a,y,h=>by
  cases y with
  |bl b=>simp only[jt]at h;rw[A5 h]
  |_=>simp[jt]at h
theorem A5:∀{x y:List ay},rX x y=ah→x=y
 |[],y,h=>by
  cases y with
  |nil=>rfl
  |cons=>simp[rX]at h
 |a::r,y,h=>by
  cases y with
  |nil=>simp[rX]at h
  |cons b t=>simp only[rX,c']at h;rw[WL h.1,A5 h.2]
end
mutual
theorem WM:∀x:ay,jt x x=ah
 |.dead=>rfl
 |.i x=>by simp[jt,KI]
 |.agg a=>by simp[jt,DN a]
 |.ref a b c d=>by simp[jt]
 |.ptr a b c d=>by simp[jt]
 |.dV a=>by simp[jt]
 |.x a=>by simp[jt]
 |.aS f a b=>by simp[jt,anN,DN a,DN b]
 |.bl a=>by simp[jt,DN a]
theorem DN:∀x:List ay,rX x x=ah
 |[]=>rfl
 |a::r=>by simp[rX,WM a,DN r]
end
def WN:∀{x y:fa},x8 x y=ah→x=y
 |[],[],_=>rfl
 |[],_::_,h=>by simp[x8]at h
 |_::_,[],h=>by simp[x8]at h
 |(a,b_)::r,(b,b0)::t,h=>by simp only[x8,c']at h;rw[KH h.1.1,WL h.1.2,WN h.2]
def WO:∀x:fa,x8 x x=ah
 |[]=>rfl
 |a::r=>by simp[x8,KI,WM,WO r]
def anO{x y:er}(h:Gg x y=ah):x=y:=by
 unfold Gg at h;split at h
 ·rw[DM h]
 ·rw[KH h]
 ·rfl
 ·cases h
def anP(x:er):Gg x x=ah:=by cases x<;>simp[Gg,KJ,KI]
def WQ:∀{x y:c0},x7 x y=ah→x=y
 |[],[],_=>rfl
 |[],_::_,h=>by simp[x7]at h
 |_::_,[],h=>by simp[x7]at h
 |a::r,b::t,h=>by simp only[x7,c']at h;rw[anO h.1,WQ h.2]
def WR:∀x:c0,x7 x x=ah
 |[]=>rfl
 |a::r=>by simp[x7,anP,WR r]
def anQ{x y:Chunk}(h:Gh x y=ah):x=y:=by
 unfold Gh at h;split at h
 ·rw[A5 h]
 ·simp only[c',beq_iff_eq]at h;obtain⟨rfl,rfl,az,rfl⟩:=h;rw[DM az]
 ·simp only[c',beq_iff_eq]at h;obtain⟨rfl,rfl,az,rfl⟩:=h;rw[DM az]
 ·simp only[c',beq_iff_eq]at h;obtain⟨rfl,rfl⟩:=h;rfl
 ·rw[WN h]
 ·simp only[c',beq_iff_eq]at h;obtain⟨rfl,U⟩:=h;rw[A5 U]
 ·simp only[c',beq_iff_eq]at h;obtain⟨rfl,rfl⟩:=h;rfl
 ·rfl
 ·simp only[c',beq_iff_eq]at h;obtain⟨rfl,U⟩:=h;rw[DM U]
 ·simp only[c',beq_iff_eq]at h;obtain⟨rfl,rfl,rfl,bh⟩:=h;rw[WQ bh]
 ·cases h
def anR(x:Chunk):Gh x x=ah:=by cases x<;>simp[Gh,DN,KJ,WO,WR]
def WS:∀{x y:ab},x9 x y=ah→x=y
 |[],[],_=>rfl
 |[],_::_,h=>by simp[x9]at h
 |_::_,[],h=>by simp[x9]at h
 |a::r,b::t,h=>by simp only[x9,c']at h;rw[anQ h.1,WS h.2]
def WT:∀x:ab,x9 x x=ah
 |[]=>rfl
 |a::r=>by simp[x9,anR,WT r]
def KK(v:ay):x_ H (j (v,H))=j (v,H):=by simp only[x_,WT,if_true]
def G_{q:dE}{v:ay}{aq:ab}(h:x_ H q=j (v,aq)):aq=H∧q=j (v,H):=by
 unfold x_ at h;split at h
 ·split at h
  next he=>cases h;exact⟨rfl,by rw[←WS he]⟩
  ·cases h
 ·cases h
def anS{aO:dY}(hmk:A4 E)(cD:oW E (lX E aO)):oW E (gI E aO):=by
 intro f args H r aq h ad ae w vs au b9;unfold gI at h;split at h
 next fn rf=>
  unfold x' at h;split at h
  next a=>
   split at h
   next ci=>
    cases h;have ak:=b9.2 0 a rfl;have WU:vs=#[vs.getD 0 undef]:=by
     have p:=b9.1;obtain⟨l⟩:=vs
     match l,p with
     |[x],_=>rfl
    generalize vs.getD 0 undef=v at ak WU;subst WU;obtain⟨bK,bJ,cL⟩:=anJ ak ci;refine(hmk f fn rf v w bK).mono λ e av ⟨ar,t,aM⟩=>?_
    have hw:av.heap=w.heap.push (.cells #[v] t):=by rw[aM];rfl
    refine⟨_,ar,J8 (av:=av) au hw (by rw[aM];rfl) (by rw[aM];rfl) (by rw[aM];rfl) (.box [a]) (λ hm=>?_) (λ hm=>?_)⟩
    ·exact⟨w.heap.size,#[v],t,(0,0),by simp[gv],yw hw,qf _,rfl,λ k c aj=>by
      cases k with
      |zero=>simp at aj;subst aj;exact hm _ _ ak
      |succ k=>simp at aj⟩
    ·refine .aS _ _ _ _ _ rfl rfl (λ k a h=>by simp at h) (λ k b h=>?_);cases k with
     |zero=>simp at h;subst h;exact .ptr _ _ _ _ _ aX (λ cells h=>⟨w.heap.size,1,by simp[gv],rfl⟩) (λ _ _ _ h=>by simp at h) (λ _ _ _ _ h=>by simp at h) (λ _ _ h=>by simp at h) ⟨_,rfl⟩ (λ _ _ _ _ h=>by simp at h)
     |succ k=>simp at h
   ·cases h
  ·cases h
 ·split at h
  ·obtain⟨rfl,U⟩:=G_ h;exact cD f args _ r _ U ad ae w vs au b9
  ·exact cD f args H r aq h ad ae w vs au b9
def PO{aO:dY}(cD:oW E (gI E aO)){R:Fr}{a:Act}{al:Oper}{v:ay}{aq:ab}(h:cw E aO al.op R H=j (v,aq))(au:cf E ad ae H w)(aN:fq ad ae H R a.tmps)
  {K:Act→World→Prop}{Q:Exit→Act→World→Prop}(j7:∀x av,cz E ad ae H w aq av (λ aQ aG=>bf aQ aG aq v x)→K (a.put al.dst x) av):al.wp E.P a w K Q:=by
 have other:(∀f args fx,al.op≠.call ⟨.value f,args,fx⟩)→(if e1 E al.op then dF E R H al.op else(eV E R H al.op).map λ v=>(v,H))=j (v,aq)→al.wp E.P a w K Q:=by
  intro _ h;split at h
  ·obtain⟨vo,x,av,p,U,az⟩:=Wx h au aN;unfold Oper.wp;rw[p];cases vo<;>simp only[PC]at U<;>first|(cases U;done)|skip
   ·cases U;exact j7 _ _ az
   ·cases U;exact j7 _ _ az
  ·simp only[dp,bM]at h;obtain⟨gJ,p,rfl,rfl⟩:=h;obtain⟨x,U,az⟩:=amM p au aN;unfold Oper.wp;rw[U];exact j7 _ _ (cz.refl au az)
 by_cases DO:∃f args fx,al.op=.call ⟨.value f,args,fx⟩
 ·obtain⟨f,args,fx,ci⟩:=DO;rw[ci]at h;simp only[cw]at h;split at h
  next g bW aR=>
   split at h
   next qt=>
    unfold ya at aR;split at aR
    ·rename_i a6 first fZ G5
     simp only[br,bM]at aR;obtain⟨rfl,rfl⟩:=aR;have PP:=e7 au aN f;rw[G5]at PP;generalize bb:a.eval f=y at PP;cases PP with
     |aS fn fb cs xs di ao hm p U=>
      have b9:pF ad ae H (first++args.toList.map (bw E R)++fZ) (xs++args.map a.eval++di):=WK (WK ⟨ao,p⟩ (anH au aN args)) ⟨hm,U⟩;have PQ:∃fn,E.P.funcs[a6]?=j fn∧fn.body.isSome=ah∧(fn.name== "runtime.NumGoroutine")=J:=by
       unfold lB at qt;split at qt
       next fn rf=>simp only[c',rh]at qt;exact⟨fn,rf,qt.1,qt.2⟩
       ·cases qt
      obtain⟨fn,rf,an,aI⟩:=PQ;have my:(execOp a.eval al).run E.P w=.ok (.enter a6 (xs++args.map a.eval++di)) w:=by
       have iZ:¬fn.body=o:=by cases fG:fn.body<;>simp_all
       have DP:¬fn.name= "runtime.NumGoroutine":=by simpa using aI
       simp[execOp,ci,resolve,bb,Deferred.ofValue,invoke,callFunc,rf,DP,iZ]
      unfold Oper.wp;rw[my,Oper.upon_enter];refine(cD _ _ _ _ _ h ad ae w _ au b9).mono λ e av he=>?_
      obtain⟨x,rfl,ap⟩:=he;exact j7 _ _ ap
    ·cases aR
   ·cases h
  ·cases h
 ·have gE:∀f args fx,al.op≠.call ⟨.value f,args,fx⟩:=λ f args fx e=>DO ⟨f,args,fx,e⟩
  refine other gE ?_;unfold cw at h;split at h
  next f args fx he=>exact absurd he (gE _ _ _)
  ·exact h
def qu(ro:cu):Fence:={A6 with round:=ro}
def anT{ro:cu}{n:Nat}{P:Program}{f:FuncId}{args:Array Value}{w:World}{a1:Ending→World→Prop}(h:Calls P f args w a1):CallsIn (qu ro) n P f args w a1:=(callsIn_wide (n:=n)).2 h
def anU{ro:cu}{n:Nat}{P:Program}{row:String}{args:Array Value}{w:World}{a1:Value→World→Prop}(h:Rows P row args w a1):RowsIn (qu ro) n P row args w a1:=
 λ c cs _=>let ⟨v,av,r,s⟩:=h c cs;⟨v,av,r,stepsIn_wide.2 s⟩
def PR{ro:cu}{n:Nat}{P:Program}{al:Oper}{a:Act}{w:World}{K:Act→World→Prop}{Q:Exit→Act→World→Prop}(aP:∀c,al.op≠.defer c)(h:al.wp P a w K Q):al.wpIn (qu ro) n P a w K Q:=by
 refine⟨λ _ _=>trivial,?_⟩;have aU:al.semAt (qu ro).round a.eval=execOp a.eval al:=by
  cases ro with
  |none=>rfl
  |some l=>exact Oper.semAt_some l _ _ aP
 rw[aU];unfold Oper.wp at h;generalize (execOp a.eval al).run P w=r at*;cases r with
 |ok x av=>
  cases x<;>simp only[Oper.upon,Oper.uponIn]at h⊢<;>
   first
    |exact h
    |exact⟨λ h=>(by cases h),anT h⟩
    |exact⟨λ h=>(by cases h),anU h⟩
    |exact h.elim
 |halt x av=>cases x<;>simp only[Oper.upon,Oper.uponIn]at h⊢<;>exact h
def WV{E:Env}{aO:dY}{al:Op}{R:Fr}{H:ab}{r:ay×ab}(h:cw E aO al R H=j r):∀c,al≠.defer c:=by rintro c rfl;simp[cw,e1,eV]at h
def DQ{R:Fr}{tmps:Array Value}(aN:fq ad ae H R tmps){ops:Array Oper}{al:Oper}{b:Bool}(h:gZ ops.toList R al=j b):Region.wanted al (yielded ops tmps)=b:=by
 unfold gZ at h;unfold Region.wanted;split at h
 next aR=>cases h;rw[aR]
 next ac want aR=>
  rw[aR];simp only[nM]at h;split at h
  next d aP=>
   have r:=aN d;split at h
   next c aj=>
    cases h;rw[aj]at r;have bo:=ga r;have:tmps[d]?=j (.bool c):=by
     rw[dM]at bo;cases h:tmps[d]? with
     |none=>rw[h]at bo;simp[undef]at bo
     |some x=>rw[h]at bo;simp at bo;rw[bo]
    simp[yielded,aP,this]
   next aj=>
    cases h;rw[aj]at r;obtain⟨cs,fp,bp,_⟩:=U' r;have:∀c,tmps[d]?≠j (.bool c):=by intro c fA;simp[dM,fA]at fp
    have bb:yielded ops tmps ac=o:=by
     unfold yielded;rw[aP];show(match tmps[d]? with|some (.bool b)=>j b|_=>o)=o;split
     next c fA=>exact absurd fA (this c)
     ·rfl
    show(yielded ops tmps ac==j want)=J;rw[bb];rfl
   ·cases h
  ·cases h
def DR(n:Nat)(l:eh):Prop:=∀al∈l,∀d,al.dst=j d→d<n
def yN(a:Act)(d:cu)(x:Value):(a.put d x).tmps.size=a.tmps.size:=by cases d<;>simp[Act.put]
def put_defers(a:Act)(d:cu)(x:Value):(a.put d x).defers=a.defers:=by cases d<;>simp[Act.put]
def PS{aO:dY}{ro:cu}{n:Nat}(cD:oW E (gI E aO)){ops:Array Oper}{Q:Exit→Act→World→Prop}:∀(l:eh) {R bY:Fr} {H aq:ab} {ad:cn} {ae:cj} {a:Act} {w:World},jg E aO ops.toList l R H=j (bY,aq)→
  cf E ad ae H w→fq ad ae H R a.tmps→DR a.tmps.size l→
  (∀b_ av,b_.defers=a.defers→b_.tmps.size=a.tmps.size→cz E ad ae H w aq av (λ aQ aG=>fq aQ aG aq bY b_.tmps)→Q .normal b_ av)→wpListIn (qu ro) n E.P ops Q l a w
 |[],R,bY,H,aq,ad,ae,a,w,h,au,aN,_,fk=>by simp only[jg,br,bM]at h;obtain⟨rfl,rfl⟩:=h;exact fk a w rfl rfl (cz.refl au aN)
 |al::l,R,bY,H,aq,ad,ae,a,w,h,au,aN,aP,fk=>by
  simp only[jg]at h;unfold wpListIn;split at h
  next aR=>
   rw[DQ aN aR];simp only[if_true];split at h
   next v H1 bo=>
    refine PR (WV bo) (PO cD bo au aN λ x gf ap=>?_);obtain⟨eI,ey,dR,mD,hM,pw⟩:=ap;refine PS cD l h dR ((aN.mono hM).put pw al.dst λ k aA=>aP al aX k aA) (by rw[yN];exact λ al ci d PT=>aP al (by simp[ci]) d PT) λ b_ av kN eQ b9=>?_
    rw[put_defers]at kN;rw[yN]at eQ;obtain⟨fs,eW,bK,bJ,cL,e4⟩:=b9;exact fk b_ av kN eQ ⟨fs,eW,bK,mD.trans bJ,hM.trans cL,e4⟩
   ·cases h
  next aR=>
   rw[DQ aN aR];simp only[gk,if_false];refine⟨λ _ _=>trivial,?_⟩;refine PS cD l h au (aN.put (Oj _ _ _) al.dst λ k aA=>aP al aX k aA) (by rw[yN];exact λ al ci d PT=>aP al (by simp[ci]) d PT) λ b_ av kN eQ b9=>?_
   rw[put_defers]at kN;rw[yN]at eQ;exact fk b_ av kN eQ b9
  ·cases h
end
section
variable{E:Env}{aO:dY}{ops:eh}
def ri(E:Env)(R bY:Fr)(op:Op):Prop:=∀x∈op.operands,bw E R x=bw E bY x
def DS{R bY:Fr}{l:Array Operand}(h:∀x∈l,bw E R x=bw E bY x):l.toList.map (bw E R)=l.toList.map (bw E bY):=
 yO λ x ap=>h x (by simpa using ap)
def PU{R bY:Fr}{l:Array (Nat×Operand)}(h:∀x∈(l.toList.map (·.2)).toArray,bw E R x=bw E bY x):(l.toList.map λ I=>(I.1,bw E R I.2))=l.toList.map λ I=>(I.1,bw E bY I.2):=
 yO λ I ax=>by rw[h I.2 (by simp;exact⟨I.1,by simpa using ax⟩)]
def G'{R bY:Fr}{al:Option Operand}(h:∀x∈al.toArray,bw E R x=bw E bY x):al.map (bw E R)=al.map (bw E bY):=by
 cases al with
 |none=>rfl
 |some x=>simp[h x aX]
def anV{R bY:Fr}{H:ab}{op:Op}(h:ri E R bY op):eV E R H op=eV E bY H op:=by
 unfold ri at h;cases op<;>simp only[Op.operands]at h<;>simp only[eV]
 case move x=>rw[h x aX]
 case assign x=>rw[h x aX]
 case pick c a b=>rw[h c aX,h a aX,h b aX]
 case build t bn=>rw[PU h]
 case load t x=>rw[h x aX]
 case nilCheck x=>rw[h x aX]
 case binOp op t x y t2=>rw[h x aX,h y aX]
 case unOp op t x=>rw[h x aX]
 case convert s d x=>rw[h x aX]
 case makeFunc fn a b=>rw[DS (l:=a) λ x ap=>h x (by simp[ap]),DS (l:=b) λ x ap=>h x (by simp[ap])]
 case slice t x l aV m=>rw[h x aX,G' (al:=l) λ x ap=>h x (by simp[ap]),G' (al:=aV) λ x ap=>h x (by simp[ap]),G' (al:=m) λ x ap=>h x (by simp[ap])]
 case fieldAddr t x f=>rw[h x aX]
 case field t x f=>rw[h x aX]
 case indexAddr t x i=>rw[h x aX,h i aX]
 case index t x i=>rw[h x aX,h i aX]
 case extract x n=>rw[h x aX]
 case lookup t x k ok=>rw[h x aX,h k aX]
 case call c=>
  obtain⟨callee,args,fx⟩:=c;cases callee with
  |value f=>rfl
  |invoke r m=>rfl
  |builtin b=>
   simp only[PV]at h;have hm:=DS (E:=E) (R:=R) (bY:=bY) (l:=args) λ x ap=>h x (by simpa using ap)
   simp only;split
   next x t ap bA=>have:=hm;rw[ap]at this;simp at this;rw[this]
   next ap bA=>rw[hm]
   next ap bA=>rw[hm]
   ·rfl
def WW{R bY:Fr}{H:ab}{op:Op}(h:ri E R bY op):dF E R H op=dF E bY H op:=by
 unfold ri at h;cases op<;>simp only[Op.operands]at h<;>simp only[dF]
 case box t x=>rw[h x aX]
 case buildSlice t n bn=>rw[PU h]
 case store t a x=>rw[h a aX,h x aX]
 case slice t x l aV m=>
  cases m with
  |none=>rfl
  |some m=>simp only;rw[h x aX,h m aX,G' (al:=l) λ x ap=>h x (by simp[ap]),G' (al:=aV) λ x ap=>h x (by simp[ap])]
 case makeSlice t l c=>rw[h l aX,h c aX]
 case convert s d x=>rw[h x aX]
 case range t x=>rw[h x aX]
 case next it b=>rw[h it aX]
 case makeMap t r=>cases r<;>rfl
 case mapUpdate t m k x=>rw[h m aX,h k aX,h x aX]
 case insert t m k x=>rw[h m aX,h k aX,h x aX]
 case call c=>
  obtain⟨callee,args,fx⟩:=c;cases callee with
  |value f=>rfl
  |invoke r m=>rfl
  |builtin b=>
   simp only[PV]at h;have hm:=DS (E:=E) (R:=R) (bY:=bY) (l:=args) λ x ap=>h x (by simpa using ap)
   simp only;split
   next s x t t2 ap bA=>have:=hm;rw[ap]at this;simp at this;rw[this.1,this.2]
   next s x t t2 ap bA=>have:=hm;rw[ap]at this;simp at this;rw[this.1,this.2]
   ·rfl
def WX{R bY:Fr}{f:Operand}{args:Array Operand}{fx:Array TypeId}(h:ri E R bY (.call ⟨.value f,args,fx⟩)):ya E R f args.toList=ya E bY f args.toList:=by simp only[ri,Op.operands,PV]at h;unfold ya;rw[h f aX,DS (l:=args) λ x ap=>h x (by simp[ap])]
def PW{R bY:Fr}{H:ab}{op:Op}(h:ri E R bY op):cw E aO op R H=cw E aO op bY H:=by
 unfold cw;split
 ·rw[WX h]
 ·rw[WW h,anV h]
def PX{R bY:Fr}{H:ab}{op:Op}(h:ri E R bY op):df E R H op=df E bY H op:=by
 have a8:=h;unfold ri at h;cases op<;>simp only[Op.operands]at h<;>simp only[df]
 case load t x=>rw[h x aX]
 case store t a x=>rw[h a aX,h x aX]
 case box t x=>rw[h x aX]
 case slice t x l aV m=>rw[h x aX]
 case indexAddr t x i=>rw[h x aX]
 case buildSlice t n bn=>rw[PU h]
 case convert s d x=>rw[h x aX]
 case next it b=>rw[h it aX]
 case mapUpdate t m k x=>rw[h m aX]
 case insert t m k x=>rw[h m aX]
 case lookup t x k ok=>rw[h x aX]
 case call c=>
  obtain⟨callee,args,fx⟩:=c;cases callee with
  |value f=>simp only;rw[WX a8]
  |invoke r m=>rfl
  |builtin b=>simp only[PV]at h;simp only;rw[DS (l:=args) λ x ap=>h x (by simpa using ap)]
def anW{H aq:ab}{k:de}(h:aq[k.c]?=H[k.c]?):wh aq k=wh H k:=by cases k<;>simp only[de.c]at h<;>simp only[wh,h]
def anX{H aq:ab}{z:Nat}{n:Int}{k:de}(h:aq[k.c]?=H[k.c]?):wi aq z n k=wi H z n k:=by cases k<;>simp only[de.c]at h<;>simp only[wi,h]
def anY{H aq:ab}{I:ay}(h:∀c∈bj I,aq[c]?=H[c]?):behind aq I=behind H I:=by
 unfold behind;split
 ·rfl
 ·rw[h _ (by simp[bj])]
 ·exact anW (h _ (by simp[bj]))
 ·rfl
def anZ{R:Fr}{H aq:ab}{op:Op}(h:lC op=ah→∀c∈df E R H op,aq[c]?=H[c]?):eV E R aq op=eV E R H op:=by
 cases op<;>simp only[eV]
 case load t x=>simp only[lC,df,true_implies]at h;unfold u1;rw[anY h]
 case indexAddr t x i=>
  simp only[lC,df,true_implies]at h;unfold CU;split
  ·split
   ·rfl
   ·split
    ·rfl
    next c g off len _ ap=>rw[ap]at h;rw[h c (by simp[bj])]
    next k _ ap=>rw[ap]at h;exact anX (h k.c (by simp[bj]))
    ·rfl
   ·rfl
  ·rfl
 case slice t x l aV m=>
  simp only[lC,df,true_implies]at h;unfold j1;split
  ·rfl
  ·split
   ·split
    ·split
     ·rfl
     ·rfl
     next c g off len ap=>rw[ap]at h;rw[h c (by simp[bj])]
     next c g off len ap=>rw[ap]at h;rw[h c (by simp[bj,de.c])]
     ·rfl
    ·rfl
   ·rfl
 case convert s d x=>
  simp only[lC,df,true_implies]at h;split
  ·unfold CW h6;cases ap:bw E R x with
   |ref c g off len=>rw[ap]at h;simp only;rw[h c (by simp[bj])]
   |i z=>cases z<;>rfl
   |_=>rfl
  ·rfl
 case lookup t x k ok=>
  simp only[lC,df,true_implies]at h;unfold Ak;cases ap:bw E R x with
  |dV c=>rw[ap]at h;simp only;rw[h c (by simp[bj])]
  |_=>rfl
 case call c=>obtain⟨callee,args,fx⟩:=c;cases callee<;>rfl
def Leaves(H aq:ab)(T:cq):Prop:=H.length≤aq.length∧∀c,c<H.length→c∉T→aq[c]?=H[c]?
def Leaves.refl(H:ab)(T:cq):Leaves H H T:=⟨cS _,λ _ _ _=>rfl⟩
def Leaves.jR(H:ab)(x:ab)(T:cq):Leaves H (H++x) T:=⟨aX,λ c aj _=>eO aj⟩
def Leaves.trans{H aq oh:ab}{T:cq}(h:Leaves H aq T)(k:Leaves aq oh T):Leaves H oh T:=
 ⟨s6 h.1 k.1,λ c aj dO=>by rw[k.2 c (by have:=h.1;omega) dO,h.2 c aj dO]⟩
def Leaves.set{H:ab}{c:Nat}{x:Chunk}{T:cq}(h:c∈T):Leaves H (H.set c x) T:=
 ⟨aX,λ d aP dO=>by rw[dW (λ e:c=d=>dO (e▸h))]⟩
def Leaves.mono{H aq:ab}{T dk:cq}(h:Leaves H aq T)(aU:∀c∈T,c∈dk):Leaves H aq dk:=⟨h.1,λ c aj dO=>h.2 c aj λ aj=>dO (aU c aj)⟩
def an0{H aq:ab}{k:de}{x:bx}(h:pk H k=j (x,aq)):Leaves H aq [k.c]:=by
 cases k with
 |e=>cases h
 |I=>cases h
 |d c g off len=>
  simp only[pk]at h;unfold wk CZ at h
  repeat' split at h
  all_goals first|(simp only[br,bM]at h;obtain⟨_,rfl⟩:=h;first|exact .set (by simp[de.c])|exact .refl _ _)|cases h
 |h c g s r=>
  simp only[pk]at h;unfold wl at h
  repeat' split at h
  all_goals first|(simp only[br,bM]at h;obtain⟨_,rfl⟩:=h;exact .set (by simp[de.c]))|cases h
def DT{H aq:ab}{a:ay}{x:bx}(h:freeze H a=j (x,aq)):Leaves H aq (bj a):=by
 unfold freeze at h;split at h
 ·cases h;exact .refl _ _
 ·split at h
  ·split at h
   ·simp only[br,bM]at h;obtain⟨_,rfl⟩:=h;exact .set (by simp[bj])
   ·cases h
  ·split at h
   ·simp only[br,bM]at h;obtain⟨_,rfl⟩:=h;exact .refl _ _
   ·cases h
  ·cases h
 ·exact an0 h
 ·cases h
def WY{H H1:ab}{z:Nat}{v:ay}{y:er}(h:u3 z (freeze H v)=j (y,H1)):Leaves H H1 (bj v):=by
 unfold u3 at h;split at h
 next q bG aN=>simp only[br,bM]at h;obtain⟨_,rfl⟩:=h;exact DT aN
 ·cases h
def WZ{H H1:ab}{z:Nat}{v:ay}{y:er}(h:qY H z v=j (y,H1)):Leaves H H1 (bj v):=by
 unfold qY at h;split at h
 ·unfold C1 at h;split at h
  ·split at h
   ·simp only[br,bM]at h;obtain⟨_,rfl⟩:=h;exact .set (by simp[bj])
   ·cases h
  ·exact WY h
 ·exact WY h
def an1{t:TypeId}{n:Nat}{v:ay}{k:de}{H aq:ab}(h:qZ E H t n v k=j aq):Leaves H aq (k.c::bj v):=by
 cases k with
 |d=>cases h
 |h=>cases h
 |e c g r=>
  simp only[qZ]at h;split at h
  ·unfold x1 at h;split at h
   ·unfold x0 at h;split at h
    next y H1 ak=>
     split at h
     ·split at h
      ·simp only[br]at h;subst h;exact((WZ ak).mono λ c aj=>by simp[aj]).trans (.set (by simp[de.c]))
      ·cases h
     ·cases h
    ·cases h
   ·cases h
  ·cases h
 |I c g s r i k=>
  simp only[qZ]at h;unfold x2 at h
  repeat' split at h
  all_goals first|(simp only[br]at h;subst h;exact .set (by simp[de.c]))|cases h
def W0{z d:Nat}{x:ay}{new:c0}{H H1:ab}(h:mo z H x=j (d,new,H1)):Leaves H H1 (bj x):=by
 unfold mo at h;split at h
 ·unfold wq at h;split at h
  ·split at h
   ·simp only[br,bM]at h;obtain⟨_,_,rfl⟩:=h;exact .set (by simp[bj,de.c])
   ·cases h
  ·cases h
 ·cases h
def an2{t t2:TypeId}{z:Nat}{s x v:ay}{H aq:ab}(h:u5 E H t t2 z s x=j (v,aq)):Leaves H aq (bj s++bj x):=by
 unfold u5 at h;split at h
 ·unfold wt at h;split at h
  next d new H1 aU=>
   refine((W0 aU).mono λ c aj=>by simp[aj]).trans ?_;split at h
   ·split at h
    ·simp only[br,bM]at h;obtain⟨_,rfl⟩:=h;exact .jR _ _ _
    ·cases h
   ·unfold C3 at h;split at h
    ·split at h
     ·simp only[br,bM]at h;obtain⟨_,rfl⟩:=h;exact .set (by simp[bj,de.c])
     ·cases h
    ·cases h
   ·cases h
  ·cases h
 ·cases h
def W1{t t2:TypeId}{s x v:ay}{H aq:ab}(h:hR E H t t2 s x=j (v,aq)):Leaves H aq (bj s++bj x):=by
 unfold hR at h;split at h
 ·split at h
  ·split at h
   ·split at h
    ·split at h
     ·simp only[br,bM]at h;obtain⟨_,rfl⟩:=h;exact .jR _ _ _
     ·cases h
    next c g off len=>
     split at h
     ·split at h
      ·simp only[br,bM]at h;obtain⟨_,rfl⟩:=h;exact .set (by simp[bj])
      ·cases h
     ·split at h
      ·simp only[br,bM]at h;obtain⟨_,rfl⟩:=h;exact .jR _ _ _
      ·cases h
     ·cases h
    ·cases h
   ·cases h
  ·cases h
 ·cases h
def an3{t t2:TypeId}{z:Nat}{s x v:ay}{H aq:ab}(h:rU E H t t2 z s x=j (v,aq)):Leaves H aq (bj s++bj x):=by
 unfold rU at h;split at h
 ·exact W1 h
 ·exact an2 h
def an4{t:TypeId}{z:Nat}{x y v:ay}{H aq:ab}(h:rT E H t z x y=j (v,aq)):Leaves H aq (bj x++bj y):=by
 unfold rT at h;split at h
 ·unfold An at h;split at h
  next d new H1 aU=>
   refine((W0 aU).mono λ c aj=>by simp[aj]).trans ?_;split at h
   ·unfold C4 at h;split at h
    ·split at h
     ·simp only[br,bM]at h;obtain⟨_,rfl⟩:=h;exact .set (by simp[bj,de.c])
     ·cases h
    ·cases h
   ·cases h
  ·cases h
 ·cases h
def an5{t:TypeId}{z:Nat}{l c v:ay}{H aq:ab}(h:u6 z (jf E H t l c)=j (v,aq))(T:cq):Leaves H aq T:=by
 unfold u6 at h;split at h
 next cv n H1 hm=>
  obtain⟨fT,gM,rows,ex,ar,rfl⟩:=Wj hm;cases ar;unfold C5 at h;split at h
  ·simp only[br,bM]at h;obtain⟨_,rfl⟩:=h;rw[AG _ _ (cS _)];exact .jR _ _ _
  ·cases h
 ·cases h
def an6{t:TypeId}{v:ay}(h9:sX E t t=ah)(qh:one v=ah):nb E t 1 [(0,v)]=bj v:=by
 obtain⟨e,b,eB,he,bp,an,hzero,_,_,qg,AX⟩:=Kt h9;obtain⟨a0,Pc⟩:∃a0,cU eB=[a0]:=by
  match bu:cU eB,qg with
  |[a0],_=>exact⟨a0,rfl⟩
 have rb:cU v=[v]:=by cases v<;>simp[one]at qh<;>rfl
 have ar:f_ 1 (cH 1 (cU eB)).flatten [(0,v)]=j [v]:=by rw[Pc];simp[f_,rb,qh,qa]
 unfold nb;rw[he];simp only[bp,hzero,ar];simp[bI]
def an7{t:TypeId}{z n:Nat}{bn:eu}{v:ay}{H aq:ab}(h:u4 E H t z n bn=j (v,aq)):Leaves H aq (nb E t n bn):=by
 unfold u4 at h;split at h
 next v0=>
  split at h
  next aj=>
   obtain⟨rfl,p,U⟩:=aj;rw[an6 U p];unfold C2 at h;split at h
   next y H1 ak=>simp only[br,bM]at h;obtain⟨_,rfl⟩:=h;exact(WZ ak).trans (.jR _ _ _)
   ·cases h
  ·cases h
 ·cases h
def KL:∀{l:aZ} {H aq:ab} {xs:cZ},f' H l=j (xs,aq)→Leaves H aq (bI l)
 |[],H,aq,xs,h=>by simp only[f',br,bM]at h;obtain⟨_,rfl⟩:=h;exact .refl _ _
 |a::l,H,aq,xs,h=>by
  simp only[f']at h;split at h
  next x H1 p=>
   split at h
   next di bG U=>simp only[br,bM]at h;obtain⟨_,rfl⟩:=h;exact((DT p).mono (by simp[bI];exact λ c aj=>.inl aj)).trans ((KL U).mono (by simp[bI];exact λ c aj=>.inr aj))
   ·cases h
  ·cases h
def Ha:∀{l bW:aZ} {H aq:ab},dP H l=j (bW,aq)→Leaves H aq (bI l)
 |[],bW,H,aq,h=>by simp only[dP,br,bM]at h;obtain⟨_,rfl⟩:=h;exact .refl _ _
 |a::l,bW,H,aq,h=>by
  have rest:∀{bW aq},dP H l=j (bW,aq)→Leaves H aq (bI (a::l)):=λ h=>(Ha h).mono (by simp[bI];exact λ c aj=>.inr aj)
  cases a with
  |ref c g off len=>
   simp only[dP]at h;split at h
   next x H1 p=>
    split at h
    next ul bG U=>simp only[br,bM]at h;obtain⟨_,rfl⟩:=h;exact((DT p).mono (by simp[bI];exact λ c aj=>.inl aj)).trans ((Ha U).mono (by simp[bI];exact λ c aj=>.inr aj))
    ·cases h
   ·cases h
  |agg cells=>
   simp only[dP]at h;split at h
   next xs H1 p=>
    split at h
    next ul bG U=>simp only[br,bM]at h;obtain⟨_,rfl⟩:=h;exact((KL p).mono (by simp[bI,bj];exact λ c aj=>.inl aj)).trans ((Ha U).mono (by simp[bI];exact λ c aj=>.inr aj))
    ·cases h
   ·split at h
    next ul bG U=>simp only[br,bM]at h;obtain⟨_,rfl⟩:=h;exact rest U
    ·cases h
  |x q=>
   simp only[dP]at h;split at h
   next x H1 p=>
    split at h
    next ul bG U=>simp only[br,bM]at h;obtain⟨_,rfl⟩:=h;exact((DT p).mono (by simp[bI];exact λ c aj=>.inl aj)).trans ((Ha U).mono (by simp[bI];exact λ c aj=>.inr aj))
    ·cases h
   ·cases h
  |dead|i|ptr|dV|aS|bl=>
   simp only[dP]at h;split at h
   next ul bG U=>simp only[br,bM]at h;obtain⟨_,rfl⟩:=h;exact rest U
   ·cases h
def W2(z:Nat)(H:ab)(a:ay):∃x,(jL z H a).2=H++x:=by
 unfold jL;split
 ·cases decide (z<1000)<;>exact⟨_,rfl⟩
 ·exact⟨[],aX⟩
def W3(k:dI)(H:ab)(a:ay):∃x,(lW k H a).2=H++x:=by
 unfold lW;split
 ·exact W2 _ _ _
 ·exact⟨[],aX⟩
def W4:∀(bB:List dI) (l:aZ) (H:ab),∃x,(e6 bB l H).2=H++x
 |[],l,H=>⟨[],by simp[e6]⟩
 |k::bB,[],H=>⟨[],by simp[e6]⟩
 |k::bB,a::l,H=>by obtain⟨x,ap⟩:=W3 k H a;obtain⟨y,bb⟩:=W4 bB l (lW k H a).2;exact⟨x++y,by simp only[e6];rw[bb,ap,eo]⟩
def W5{f:FuncId}{l bW:aZ}{H aq:ab}(h:js E f H l=j (bW,aq)):Leaves H aq (bI l):=by
 unfold js at h;split at h
 ·simp only[br]at h;obtain⟨x,ap⟩:=W4 (E.gH f) l H;rw[h]at ap;simp only at ap;rw[ap];exact .jR _ _ _
 ·split at h
  next ul bG U=>simp only[br,bM]at h;obtain⟨_,rfl⟩:=h;exact Ha U
  ·cases h
def an8{f:FuncId}{args:aZ}{H aq:ab}{r:ay}(h:lX E aO f args H=j (r,aq)):Leaves H aq (rY E f args H):=by
 unfold lX at h;unfold rY;split at h
 ·cases h
 next il H1 ax=>
  rw[ax];show Leaves H aq (bI args++reach H1 64 (bI il) []);have p:Leaves H H1 (bI args++reach H1 64 (bI il) []):=by exact(W5 ax).mono (by intro c aj;simp[aj])
  simp only at h;split at h
  ·cases h
  next iB L fl=>
   split at h
   ·cases h
   next hlen=>
    simp only[br,bM]at h;obtain⟨_,rfl⟩:=h;obtain⟨G9,yM⟩:=DG H1 64 (bI il) [] aX aX;generalize reach H1 64 (bI il) []=a1 at*;refine p.trans ⟨?_,λ c aj dO=>?_⟩
    ·rw[dK,yK];exact Nat.le_add_right _ _
    rw[eO (by rw[yK];exact aj),PF _ _ _ G9 (by simp;omega) yM];have:bD a1 c=o:=by
     cases ax:bD a1 c with
     |none=>rfl
     |some i=>exact absurd (jP (oV ax)) (λ hm=>dO (by simp[hm]))
    rw[this]
def PY{l:aZ}{ac:Nat}{x:bx}{d:Nat}(h:d∈bI (l.set ac (.i x))):d∈bI l:=by
 obtain⟨k,a,aA,aP⟩:=mH.1 h;by_cases e:ac=k
 ·subst e;rw[List.getElem?_set_self']at aA;cases ao:l[ac]? with
  |none=>rw[ao]at aA;cases aA
  |some b=>rw[ao]at aA;cases aA;simp[bj]at aP
 ·rw[dW e]at aA;exact mH.2 ⟨k,a,aA,aP⟩
def W6(v:ay):bI (cU v)=bj v:=by cases v<;>simp[cU,bI,bj]
def W7{bB:dI}:∀{h':cq} {H H1:ab} {cs e5:aZ},j2 bB h' H cs=j (e5,H1)→Leaves H H1 (bI cs)∧∀d∈bI e5,d∈bI cs
 |[],H,H1,cs,e5,h=>by simp only[j2,br,bM]at h;obtain⟨rfl,rfl⟩:=h;exact⟨.refl _ _,λ _ h=>h⟩
 |ac::h',H,H1,cs,e5,h=>by
  simp only[j2]at h;split at h
  next a aF=>
   split at h
   next x bG aN=>obtain⟨p,U⟩:=W7 h;exact⟨((DT aN).mono λ d aP=>mH.2 ⟨ac,a,aF,aP⟩).trans (p.mono λ d aP=>PY aP),λ d aP=>PY (U d aP)⟩
   ·cases h
  ·cases h
def KM{t:TypeId}{H H1:ab}{v v1:ay}{h':cq}(h:k4 E t H v h'=j (v1,H1)):Leaves H H1 (bj v)∧∀d∈bj v1,d∈bj v:=by
 cases h' with
 |nil=>simp only[k4,br,bM]at h;obtain⟨rfl,rfl⟩:=h;exact⟨.refl _ _,λ _ h=>h⟩
 |cons ac h'=>
  simp only[k4,wu]at h;split at h
  next cs bG aN=>
   simp only[br,bM]at h;obtain⟨rfl,rfl⟩:=h;obtain⟨p,U⟩:=W7 aN;rw[W6]at p U;refine⟨p,λ d aP=>?_⟩;have key:d∈bI cs∨d∈bj v:=by
    cases v with
    |agg l=>exact .inl aP
    |_=>cases cs with
     |nil=>exact .inr aP
     |cons c r=>exact .inl (by simp only[bI,gA];exact .inl aP)
   exact key.elim (U d) id
  ·cases h
def an9{H aq:ab}{t:TypeId}{a:Operand}{R:Fr}{v:ay}(h:oK E H t (bw E R a) v=j aq):Leaves H aq (bj (bw E R a)++bj v):=by
 unfold oK at h;split at h
 ·split at h
  ·split at h
   next k ax=>rw[ax];simpa[bj]using an1 h
   next c g r k ax=>
    rw[ax];split at h
    ·split at h
     ·simp only[br]at h;subst h;exact .set (by simp[bj])
     ·cases h
    ·split at h
     next xs bG aN=>
      split at h
      ·split at h
       ·split at h
        ·simp only[br]at h;subst h;refine((KL aN).mono λ c aj=>?_).trans (.set (by simp[bj]));have:bI (cU (v))=bj (v):=by cases v<;>simp[cU,bI,bj]
         rw[this]at aj;simp[aj]
        ·cases h
       ·cases h
      ·cases h
     ·cases h
    ·cases h
   ·cases h
  ·cases h
 ·cases h
def an_{R:Fr}{H aq:ab}{op:Op}{v:ay}(h:dF E R H op=j (v,aq)):Leaves H aq (df E R H op):=by
 cases op<;>simp only[dF]at h<;>(try(cases h;done))
 case slice t x b5 aB lv=>
  cases lv with
  |none=>cases h
  |some m=>
   simp only at h;split at h
   next y H1 bp=>simp only[dp,bM]at h;obtain⟨v1,_,_,rfl⟩:=h;exact DT bp
   ·cases h
 case alloc e=>
  split at h
  ·split at h
   ·split at h
    ·split at h
     ·simp only[br,bM]at h;obtain⟨_,rfl⟩:=h;exact .jR _ _ _
     ·cases h
    ·simp only[br,bM]at h;obtain⟨_,rfl⟩:=h;exact .jR _ _ _
   ·cases h
  ·cases h
 case box t x=>
  unfold Aq at h;split at h
  next v1 H1 bp=>
   split at h
   ·simp only[br,bM]at h;obtain⟨_,rfl⟩:=h;simp only[df];cases bc:E.tM t with
    |nil=>rw[bc]at bp;simp only[k4,br,bM]at bp;obtain⟨_,rfl⟩:=bp;exact .jR _ _ _
    |cons ac h'=>exact(KM bp).1.trans (.jR _ _ _)
   ·cases h
  ·cases h
 case buildSlice t n bn=>
  simp only[df];split at h;rotate_left
  ·exact an7 h
  simp only[nb];unfold kC at h;split at h
  next e he=>
   split at h
   next z zero bp hzero=>
    split at h
    ·split at h
     next cells aj=>
      split at h
      next xs H1 aN=>simp only[br,bM]at h;obtain⟨_,rfl⟩:=h;exact(KL aN).trans (.jR _ _ _)
      ·cases h
     ·cases h
    ·cases h
   ·cases h
  ·cases h
 case store t a x=>
  unfold x4 at h;split at h
  next v1 H1 bp=>simp only[dp,bM]at h;obtain⟨bG,p,_,rfl⟩:=h;simp only[df];obtain⟨f1,f2⟩:=KM bp;exact(f1.mono λ c aj=>gA.2 (.inr aj)).trans ((an9 p).mono λ c aj=>(gA.1 aj).elim (λ h=>gA.2 (.inl h)) λ h=>gA.2 (.inr (f2 _ h)))
  ·cases h
 case convert s d x=>
  split at h
  ·split at h
   ·unfold Ap at h;split at h
    ·simp only[br,bM]at h;obtain⟨_,rfl⟩:=h;exact .jR _ _ _
    ·simp only[br,bM]at h;obtain⟨_,rfl⟩:=h;exact .jR _ _ _
    ·cases h
   ·cases h
  ·cases h
 case range t x=>
  split at h
  ·split at h
   ·simp only[br,bM]at h;obtain⟨_,rfl⟩:=h;exact .jR _ _ _
   ·cases h
  ·cases h
 case makeMap t r=>
  cases r with
  |some r=>cases h
  |none=>
   simp only at h;split at h
   ·simp only[br,bM]at h;obtain⟨_,rfl⟩:=h;exact .jR _ _ _
   ·cases h
 case mapUpdate t m k x=>
  unfold nK at h;split at h
  next c ap=>
   unfold tP at h;split at h
   ·split at h
    ·split at h
     ·simp only[dp,bM]at h;obtain⟨_,_,_,rfl⟩:=h;exact .set (by simp[df,ap,bj])
     ·cases h
    ·cases h
   ·cases h
  ·cases h
 case insert t m k x=>
  unfold nK at h;split at h
  next c ap=>
   unfold tP at h;split at h
   ·split at h
    ·split at h
     ·simp only[dp,bM]at h;obtain⟨_,_,_,rfl⟩:=h;exact .set (by simp[df,ap,bj])
     ·cases h
    ·cases h
   ·cases h
  ·cases h
 case next it b=>
  split at h
  next c g r ap=>
   split at h
   ·split at h
    ·simp only[br,bM]at h;obtain⟨_,rfl⟩:=h;exact .set (by simp[df,ap,bj])
    ·simp only[br,bM]at h;obtain⟨_,rfl⟩:=h;exact .refl _ _
   ·cases h
  ·cases h
 case makeSlice t l c=>
  split at h;rotate_left
  ·exact an5 h _
  unfold jf at h;split at h
  ·split at h
   ·split at h
    ·simp only[br,bM]at h;obtain⟨_,rfl⟩:=h;exact .jR _ _ _
    ·split at h
     ·simp only[br,bM]at h;obtain⟨_,rfl⟩:=h;exact .jR _ _ _
     ·cases h
   ·cases h
  ·cases h
 case call c=>
  obtain⟨callee,args,fx⟩:=c;cases callee with
  |value f=>cases h
  |invoke r m=>cases h
  |builtin b=>
   simp only at h;split at h
   next s x t t2 qp wY=>
    simp only[df,qp];split at h
    ·exact(W1 h).mono (by simp[bI])
    ·exact(an3 h).mono (by simp[bI])
   next d x t t2 qp wY=>
    simp only[df,qp];split at h;rotate_left
    ·exact(an4 h).mono (by simp[bI])
    unfold m' at h;split at h
    ·split at h
     next aP _=>
      split at h
      ·unfold Ao at h;split at h
       ·split at h
        ·simp only[br,bM]at h;obtain⟨_,rfl⟩:=h;exact .set (by simp[aP,bI,bj])
        ·cases h
       ·cases h
      ·cases h
     ·cases h
    ·cases h
   ·cases h
def an'{f:FuncId}{args:aZ}{H aq:ab}{r:ay}(h:gI E aO f args H=j (r,aq)):Leaves H aq (jM E f args H):=by
 unfold gI at h;unfold jM;cases hm:E.pj f with
 |none=>
  rw[hm]at h;simp only at h⊢;cases ak:E.tL f with
  |true=>rw[ak]at h;obtain⟨rfl,_⟩:=G_ h;exact .refl _ _
  |false=>rw[ak]at h;exact an8 h
 |some fn=>
  rw[hm]at h;simp only at h;unfold x' at h;split at h
  ·split at h
   ·cases h;exact .jR _ _ _
   ·cases h
  ·cases h
def aoa{R:Fr}{H aq:ab}{op:Op}{v:ay}(h:cw E aO op R H=j (v,aq)):Leaves H aq (df E R H op):=by
 unfold cw at h;split at h
 next f args fx=>
  simp only[df];split at h
  next g bW aR=>
   split at h
   ·exact an' h
   ·cases h
  ·cases h
 ·split at h
  ·exact an_ h
  ·simp only[dp,bM]at h;obtain⟨_,_,_,rfl⟩:=h;exact .refl _ _
end
section
variable{E:Env}{aO:dY}{ops:Array Oper}
def iM(R bY:Fr):Prop:=∀k,get k R=get k bY
def iM.refl(R:Fr):iM R R:=λ _=>rfl
def iM.trans{a b c:Fr}(h:iM a b)(k:iM b c):iM a c:=λ i=>(h i).trans (k i)
def iM.put{R bY:Fr}(h:iM R bY)(d:cu)(v:ay):iM (ee d v R) (ee d v bY):=by
 cases d with
 |none=>exact h
 |some d=>intro k;simp only[ee,get];split<;>first|rfl|exact h k
def iM.swap(R:Fr){d e:cu}(h:∀k,d=j k→e≠j k)(v u:ay):iM (ee d v (ee e u R)) (ee e u (ee d v R)):=by
 cases d with
 |none=>exact .refl _
 |some d=>
  cases e with
  |none=>exact .refl _
  |some e=>
   have gE:e≠d:=λ x=>h d rfl (by rw[x])
   intro k;simp only[ee,get];by_cases p:k=d
   ·subst p;simp[bi gE]
   ·simp[p]
def W8{R bY:Fr}(h:iM R bY)(x:Operand):bw E R x=bw E bY x:=by cases x<;>simp only[bw];exact h _
def aob{R:Fr}{d:cu}{v:ay}{x:Operand}(h:∀k,d=j k→x≠.tmp k):bw E (ee d v R) x=bw E R x:=by
 cases d with
 |none=>rfl
 |some d=>
  cases x with
  |tmp t=>
   have:t≠d:=λ e=>h d rfl (by rw[e])
   simp[bw,ee,get,this]
  |_=>rfl
def W9{R bY:Fr}(h:iM R bY)(al:Oper):gZ ops.toList R al=gZ ops.toList bY al:=by
 unfold gZ;split
 ·rfl
 ·split
  ·rw[h _]
  ·rfl
def W_{R:Fr}{al:Oper}{d:cu}{v:ay}(h:∀k,d=j k→k∉al.looksAt ops):gZ ops.toList (ee d v R) al=gZ ops.toList R al:=by
 cases d with
 |none=>rfl
 |some d=>
  unfold gZ;split
  ·rfl
  next ac want aR=>
   split
   next t bA=>
    have:t≠d:=λ e=>h d rfl (by
     subst e;simp only[nM]at bA;simp[Oper.looksAt,aR,bA])
    simp[ee,get,this]
   ·rfl
def KN{R:Fr}{al:Oper}{d:cu}{v:ay}(h:∀k,d=j k→k∉al.looksAt ops):ri E (ee d v R) R al.op:=λ x ap=>
 aob λ k aA e=>h k aA (by
  subst e;simp only[Oper.looksAt,gA,List.mem_filterMap];exact .inl ⟨.tmp k,by simpa using ap,rfl⟩)
noncomputable def ho(E:Env)(aO:dY)(ops:Array Oper)(al:Oper)(R:Fr)(H:ab):Option (ay×ab×cq):=
 match gZ ops.toList R al with
 |some ah=>match cw E aO al.op R H with
  |some (v,aq)=>j (v,aq,df E R H al.op++ms H.length (aq.length-H.length))
  |none=>o
 |some J=>j (.bl [],H,[])
 |none=>o
def aoc{al:Oper}{R:Fr}{H:ab}:q3 E aO ops.toList al R H=(ho E aO ops al R H).map λ x=>(ee al.dst x.1 R,x.2.1,x.2.2):=by
 unfold q3 ho;cases gZ ops.toList R al with
 |none=>rfl
 |some b=>
  cases b with
  |false=>rfl
  |true=>cases cw E aO al.op R H<;>rfl
def aod{R bY:Fr}(h:iM R bY)(al:Oper)(H:ab):ho E aO ops al R H=ho E aO ops al bY H:=by
 unfold ho;have aF:ri E R bY al.op:=λ x _=>W8 h x
 rw[W9 h,PW aF,PX aF]
def vq{R:Fr}{al:Oper}{d:cu}{v:ay}{H:ab}(h:∀k,d=j k→k∉al.looksAt ops):ho E aO ops al (ee d v R) H=ho E aO ops al R H:=by unfold ho;rw[W_ h,PW (KN h),PX (KN h)]
def rj{a b:cq}(h:rZ a b=ah){c:Nat}(aF:c∈a):c∉b:=by simp only[rZ,py]at h;have:=h c aF;simpa using this
def A7{al:Oper}{R:Fr}{H aq:ab}(ao:e1 E al.op=J)(h:lC al.op=ah→∀c∈df E R H al.op,aq[c]?=H[c]?){v:ay}{H1:ab}{T:cq}
  (bo:ho E aO ops al R H=j (v,H1,T)):H1=H∧ho E aO ops al R aq=j (v,aq,T):=by
 unfold ho at bo⊢;split at bo
 next aR=>
  split at bo
  next gJ oh mK=>
   simp only[br,bM]at bo;obtain⟨rfl,rfl,rfl⟩:=bo;unfold cw at mK⊢;split at mK
   next f args fx ci=>rw[ci]at ao;simp[e1]at ao
   next DK=>
    rw[ao]at mK;simp only[gk,if_false,dp,bM]at mK;obtain⟨u,hu,rfl,rfl⟩:=mK;refine⟨rfl,?_⟩;have bA:df E R aq al.op=df E R H al.op:=by
     generalize al.op=op at ao DK;cases op<;>(try rfl);rename_i c;obtain⟨callee,args,fx⟩:=c;cases callee with
     |value f=>exact absurd rfl (DK f args fx)
     |_=>rfl
    simp only[ao,gk,if_false,anZ h,hu,eH,bA,r7,List.range'_zero]
  ·cases bo
 next aR=>simp only[br,bM]at bo;obtain⟨rfl,rfl,rfl⟩:=bo;exact⟨rfl,rfl⟩
 ·cases bo
structure W' (E:Env) (ops:Array Oper) (x y:Oper) (nt nu:List Nat):Prop where
 apart:x.apart ops y=ah
 aoe:¬(e1 E x.op=ah∧e1 E y.op=ah)
 float:(e1 E x.op=ah∧lC y.op=ah)∨(e1 E y.op=ah∧lC x.op=ah)→rZ nt nu=ah∧rZ nu nt=ah
def DU{al:Oper}{R:Fr}{H aq:ab}{v:ay}{T:cq}(h:ho E aO ops al R H=j (v,aq,T)):H.length≤aq.length∧∀c,c∉T→aq[c]?=H[c]?:=by
 unfold ho at h;split at h
 ·split at h
  next gJ oh mK=>
   simp only[br,bM]at h;obtain⟨rfl,rfl,rfl⟩:=h;have ao:=aoa mK;refine⟨ao.1,λ c aj=>?_⟩;simp only[gA,List.mem_range',not_or]at aj;by_cases p:c<H.length
   ·exact ao.2 c p aj.1
   ·have U:oh.length≤c:=by
     have:=ao.1;refine Nat.le_of_not_lt λ az=>aj.2 ⟨c-H.length,aa,aa⟩
    rw[sd U,sd aa]
  ·cases h
 ·simp only[br,bM]at h;obtain⟨rfl,rfl,rfl⟩:=h;exact⟨cS _,λ _ _=>rfl⟩
 ·cases h
def KO{al:Oper}{R:Fr}{H aq:ab}{v:ay}{T:cq}(h:ho E aO ops al R H=j (v,aq,T))(aR:gZ ops.toList R al=j ah):∀c∈df E R H al.op,c∈T:=by
 unfold ho at h;rw[aR]at h;simp only at h;split at h
 ·simp only[br,bM]at h;obtain⟨_,_,rfl⟩:=h;intro c aj;simp[aj]
 ·cases h
def yP{al:Oper}{R:Fr}{H aq:ab}(aR:gZ ops.toList R al=j J):ho E aO ops al R aq=j (.bl [],aq,[]):=by unfold ho;rw[aR]
def swap{x y:Oper}{R:Fr}{H H1 bG:ab}{j3 lE:ay}{nt nu:cq}(ap:ho E aO ops x R H=j (j3,H1,nt))(bb:ho E aO ops y (ee x.dst j3 R) H1=j (lE,bG,nu))
  (aj:W' E ops x y nt nu):∃rk,ho E aO ops y R H=j (lE,rk,nu)∧ho E aO ops x (ee y.dst lE R) rk=j (j3,bG,nt)∧iM (ee y.dst lE (ee x.dst j3 R)) (ee x.dst j3 (ee y.dst lE R)):=by
 obtain⟨hD,a2,a3⟩:=Oper.apart_spec aj.apart;rw[vq hD]at bb;have hv:iM (ee y.dst lE (ee x.dst j3 R)) (ee x.dst j3 (ee y.dst lE R)):=iM.swap R (λ k aA e=>a2 k e aA) _ _;cases lG:gZ ops.toList R x with
 |none=>unfold ho at ap;rw[lG]at ap;cases ap
 |some si=>
 cases la:gZ ops.toList R y with
 |none=>unfold ho at bb;rw[la]at bb;cases bb
 |some sj=>
 cases si with
 |false=>
  rw[yP lG]at ap
  ·simp only[br,bM]at ap;obtain⟨rfl,rfl,rfl⟩:=ap;exact⟨bG,bb,by rw[vq a3];exact yP lG (H:=H),hv⟩
  ·exact H
 |true=>
 cases sj with
 |false=>
  rw[yP la]at bb
  ·simp only[br,bM]at bb;obtain⟨rfl,rfl,rfl⟩:=bb;exact⟨H,yP la (H:=H),by rw[vq a3];exact ap,hv⟩
  ·exact H
 |true=>
 by_cases w2:e1 E x.op=ah
 ·have te:e1 E y.op=J:=by
   cases h:e1 E y.op with
   |false=>rfl
   |true=>exact absurd ⟨w2,h⟩ aj.aoe
  have PZ:=DU ap;have A8:df E R H1 y.op=df E R H y.op:=by
   generalize sk:y.op=op at te;cases op<;>(try rfl);rename_i c;obtain⟨callee,args,fx⟩:=c;cases callee with
   |value f=>simp[e1]at te
   |_=>rfl
  have l6:=KO bb la;have key:lC y.op=ah→∀c∈df E R H1 y.op,H[c]?=H1[c]?:=by intro ak c fA;have dO:=(aj.float (.inl ⟨w2,ak⟩)).2;have:=rj dO (l6 c fA);exact(PZ.2 c this).symm
  obtain⟨rfl,GO⟩:=A7 te key bb;exact⟨H,GO,by rw[vq a3];exact ap,hv⟩
 ·have Hb:e1 E x.op=J:=by simpa using w2
  have aof:lC x.op=ah→∀c∈df E R H x.op,H[c]?=H[c]?:=λ _ _ _=>rfl
  obtain⟨rfl,_⟩:=A7 (aq:=H) Hb aof ap;have P0:=DU bb;have l6:=KO ap lG;by_cases te:e1 E y.op=ah
  ·have key:lC x.op=ah→∀c∈df E R H1 x.op,bG[c]?=H1[c]?:=by intro ak c fA;have dO:=(aj.float (.inr ⟨te,ak⟩)).1;exact P0.2 c (rj dO (l6 c fA))
   obtain⟨_,ug⟩:=A7 Hb key ap;exact⟨bG,bb,by rw[vq a3];exact ug,hv⟩
  ·have P1:e1 E y.op=J:=by simpa using te
   obtain⟨rfl,_⟩:=A7 (aq:=H1) P1 (λ _ _ _=>rfl) bb;exact⟨bG,bb,by rw[vq a3];exact ap,hv⟩
end
section
variable{E:Env}{aO:dY}{ops:Array Oper}{e2:Nat→cq}
inductive vr (E:Env) (aO:dY) (ops:Array Oper) (e2:Nat→List Nat):List Nat→Fr→ab→Fr→ab→Prop
 |nil (R:Fr) (H:ab):vr E aO ops e2 [] R H R H
 |cons (i:Nat) (l:List Nat) (R:Fr) (H:ab) (al:Oper) (v:ay) (H1:ab) (d':Fr) (bG:ab) (ci:ops[i]?=j al) (bo:ho E aO ops al R H=j (v,H1,e2 i)) (h:vr E aO ops e2 l (ee al.dst v R) H1 d' bG):vr E aO ops e2 (i::l) R H d' bG
def run_eq{l:cq}{R bY:Fr}{H:ab}{d':Fr}{bG:ab}(h:vr E aO ops e2 l R H d' bG):iM R bY→∃j8,iM d' j8∧vr E aO ops e2 l bY H j8 bG:=by
 induction h generalizing bY with
 |nil R H=>exact λ he=>⟨bY,he,.nil _ _⟩
 |cons i l R H al v H1 d' bG ci bo _ a'=>intro he;obtain⟨j8,p,U⟩:=a' (he.put al.dst v);exact⟨j8,p,.cons i l bY H al v H1 j8 bG ci (by rw[←aod he];exact bo) U⟩
def KP(E:Env)(ops:Array Oper)(e2:Nat→cq)(ac i:Nat):Prop:=∀x y,ops[ac]?=j x→ops[i]?=j y→W' E ops x y (e2 ac) (e2 i)
def front:∀{dt fh:cq} {i:Nat} {R:Fr} {H:ab} {d':Fr} {bG:ab},vr E aO ops e2 (dt++i::fh) R H d' bG→(∀ac∈dt,KP E ops e2 ac i)→
  ∃al v H1 j8,ops[i]?=j al∧ho E aO ops al R H=j (v,H1,e2 i)∧iM d' j8∧vr E aO ops e2 (dt++fh) (ee al.dst v R) H1 j8 bG
 |[],fh,i,R,H,d',bG,h,_=>by
  cases h with
  |cons _ _ _ _ al v H1 _ _ ci bo h=>exact⟨al,v,H1,d',ci,bo,.refl _,h⟩
 |ac::dt,fh,i,R,H,d',bG,h,aj=>by
  cases h with
  |cons _ _ _ _ x j3 H1 _ _ ap Ay h=>obtain⟨al,v,pG,jB,ci,bo,he,ak⟩:=front h (λ k aA=>aj k (by simp[aA]));obtain⟨P2,s1,s2,vn⟩:=swap Ay bo (aj ac aX x al ap ci);obtain⟨Hc,dx,A9⟩:=run_eq ak vn;exact⟨al,v,P2,Hc,ci,s1,he.trans dx,.cons ac _ _ _ x j3 pG Hc bG ap s2 A9⟩
def Xa:∀(l:eh) (k:Nat) (R:Fr) (H:ab) (d':Fr) (bG:ab) (dh:lZ),iK E aO ops.toList l R H=j (d',bG,dh)→(∀ac,l[ac]?=ops[k+ac]?)→(∀ac,ac<l.length→e2 (k+ac)=dh.getD ac [])→
  vr E aO ops e2 (ms k l.length) R H d' bG
 |[],k,R,H,d',bG,dh,h,_,_=>by simp only[iK,br,bM]at h;obtain⟨rfl,rfl,rfl⟩:=h;exact .nil _ _
 |al::l,k,R,H,d',bG,dh,h,ao,bA=>by
  simp only[iK]at h;split at h
  next k5 H1 t aU=>
   split at h
   next jB pG P3 ak=>
    simp only[br,bM]at h;obtain⟨rfl,rfl,rfl⟩:=h;rw[aoc]at aU;simp only[dp,bM]at aU;obtain⟨⟨v,aq,T⟩,bo,ar,aM,bZ⟩:=aU;simp only at ar aM bZ;subst ar aM bZ;have a8:=ao 0;simp only[rc,fr]at a8;have Hd:=bA 0 aX;simp only[fr,DV]at Hd;rw[da,List.range'_succ];refine .cons k _ R H al v _ _ _ a8.symm (by rw[Hd];exact bo) ?_;refine Xa l (k+1) _ _ _ _ P3 ak (λ ac=>by have:=ao (ac+1);simpa[vb,rl 1 ac]using this) λ ac bc=>?_
    have:=bA (ac+1) (by simpa using bc);rw[show k+1+ac=k+(ac+1)by omega,this];simp
   ·cases h
  ·cases h
def Xb(acc:Array Nat)(ac:Nat):∀(l:List Edge) (s:Nat),(l.foldl (λ s e=>if w3 .any e then s|||2^e.on|||acc.getD e.on 0 else s) s).testBit ac=ah→
  s.testBit ac=ah∨∃e∈l,w3 .any e=ah∧(e.on=ac∨(acc.getD e.on 0).testBit ac=ah)
 |[],s,h=>.inl h
 |e::l,s,h=>by
  simp only[vd]at h;rcases Xb acc ac l _ h with p|⟨lY,qe,U⟩
  ·split at p
   next an=>
    rw[Nat.testBit_or,Nat.testBit_or,yq,yq]at p;rcases p with(p|p)|p
    ·exact .inl p
    ·rw[Nat.testBit_two_pow]at p;exact .inr ⟨e,aX,an,.inl (by simpa using p)⟩
    ·exact .inr ⟨e,aX,an,.inr p⟩
   ·exact .inl p
  ·exact .inr ⟨lY,by simp[qe],U⟩
def bitsOf(acc:Array Nat)(al:Oper):Nat:=al.after.foldl (λ s e=>if w3 .any e then s|||2^e.on|||acc.getD e.on 0 else s) 0
def Xc:∀(l:eh) (acc:Array Nat),(l.foldl (λ acc al=>acc.push (bitsOf acc al)) acc).size=acc.size+l.length∧(∀k,k<acc.size→(l.foldl (λ acc al=>acc.push (bitsOf acc al)) acc).getD k 0=acc.getD k 0)∧
  ∀k al,l[k]?=j al→∃yQ:Array Nat,yQ.size=acc.size+k∧(∀m,m<yQ.size→yQ.getD m 0=(l.foldl (λ acc al=>acc.push (bitsOf acc al)) acc).getD m 0)∧(l.foldl (λ acc al=>acc.push (bitsOf acc al)) acc).getD (acc.size+k) 0=bitsOf yQ al
 |[],acc=>⟨aX,λ _ _=>rfl,λ k al h=>by simp at h⟩
 |al::l,acc=>by
  obtain⟨p,U,az⟩:=Xc l (acc.push (bitsOf acc al));simp only[vd];have DA:∀k,k<acc.size→(acc.push (bitsOf acc al)).getD k 0=acc.getD k 0:=by intro k aA;simp[dM,J9,show k≠acc.size by omega]
  refine⟨by rw[p];simp;omega,λ k aA=>by rw[U k (by simp;omega)];exact DA k aA,λ k I ax=>?_⟩;cases k with
  |zero=>simp at ax;subst ax;refine⟨acc,rfl,λ m hm=>by rw[U m (by simp;omega)];exact(DA m hm).symm,?_⟩;rw[U _ aX];simp[dM]
  |succ k=>obtain⟨yQ,hD,a2,a3⟩:=az k I (by simpa using ax);refine⟨yQ,by rw[hD];simp;omega,a2,?_⟩;rw[←a3];congr 1;simp;omega
def aog{i ac:Nat}{al:Oper}(ci:ops[i]?=j al)(h:q1 (q2 ops) ac i=ah):
  ∃e∈al.after,w3 .any e=ah∧(e.on=ac∨(e.on<i∧q1 (q2 ops) ac e.on=ah)):=by
 have an:q2 ops=ops.toList.foldl (λ acc al=>acc.push (bitsOf acc al)) #[]:=by unfold q2;rw[←Array.foldl_toList];rfl
 obtain⟨_,_,az⟩:=Xc ops.toList #[];obtain⟨yQ,hD,a2,a3⟩:=az i al (by simpa using ci);simp only[Dq,dS,cJ]at hD a3;unfold q1 at h⊢;rw[an,a3]at h;unfold bitsOf at h;rw[←Array.foldl_toList]at h;rcases Xb yQ ac _ 0 h with bh|⟨e,he,P4,bF⟩
 ·simp at bh
 ·refine⟨e,by simpa using he,P4,?_⟩;rcases bF with bF|bF
  ·exact .inl bF
  ·by_cases bg:e.on<i
   ·refine .inr ⟨bg,?_⟩;rw[an,←a2 _ aa];exact bF
   ·rw[dM,Array.getElem?_eq_none aa]at bF;simp at bF
def He(ops:Array Oper)(listed:Array Bool):Prop:=∀(i:Nat) (al:Oper),ops[i]?=j al→listed.getD i J=ah→∀e∈al.after,w3 .any e=ah→listed.getD e.on J=ah
def Xd{listed:Array Bool}(aj:He ops listed):∀(i:Nat) (al:Oper),ops[i]?=j al→(∀e∈al.after,w3 .any e=ah→listed.getD e.on J=ah)→∀ac,q1 (q2 ops) ac i=ah→listed.getD ac J=ah:=by
 intro i;induction i using Nat.strongRecOn with
 |_ i a'=>
  intro al ci ax ac an;obtain⟨e,he,P4,h⟩:=aog ci an;have ao:=ax e he P4;rcases h with rfl|⟨bg,k'⟩
  ·exact ao
  ·have aB:i<ops.size:=(kg.1 ci).1;have Hf:ops[e.on]?=j ops[e.on]:=r9 aa;exact a' e.on bg _ Hf (aj e.on _ Hf ao) ac k'
end
section
variable{E:Env}{aO:dY}{ops:Array Oper}{e2:Nat→cq}{Q:Exit→Act→World→Prop}{ro:cu}{nn:Nat}
theorem P5(cD:oW E (gI E aO)){d':Fr}{bG:ab}(A_:∀ac i,ac<i→i<ops.size→q1 (q2 ops) ac i=J→KP E ops e2 ac i)
  (w4:∀(i:Nat) (al:Oper),ops[i]?=j al→∀e∈al.after,w3 .any e=ah→e.on<i){hW:Nat}{d0:List Deferred}(qv:DR hW ops.toList):
  ∀(a1:cq) (listed:Array Bool) (ad:cn) (ae:cj) (R:Fr) (H:ab) (a:Act) (w:World) (d':Fr),a1.Pairwise (·<·)→(∀i,i∈a1↔i<ops.size∧listed.getD i J=J)→listed.size=ops.size→He ops listed→
   vr E aO ops e2 a1 R H d' bG→cf E ad ae H w→fq ad ae H R a.tmps→a.tmps.size=hW→a.defers=d0→
   (∀b_ av jB,iM d' jB→b_.defers=d0→b_.tmps.size=hW→cz E ad ae H w bG av (λ aQ aG=>fq aQ aG bG jB b_.tmps)→Q .normal b_ av)→wpAnyIn (qu ro) nn E.P .any ops Q a1.length listed a w
 |[],listed,ad,ae,R,H,a,w,d',ax,dA,eQ,wX,my,au,aN,aI,aP,fk=>by
  refine⟨?_,?_⟩
  ·cases h:Hg .any ops listed with
   |nil=>rfl
   |cons i l=>
    have aB:i∈Hg .any ops listed:=by rw[h];simp
    obtain⟨p,al,ci,_⟩:=mem_ready.1 aB;have bg:=(kg.1 ci).1;have:i∈([]:cq):=(dA i).2 ⟨bg,by
     rw[dM]at p⊢;cases aV:listed[i]? with
     |none=>rfl
     |some b=>rw[aV]at p;simpa using p⟩
    simp at this
  ·cases my with
   |nil=>exact fk a w R (.refl _) aP aI (cz.refl au aN)
 |r::a1,listed,ad,ae,R,H,a,w,d',ax,dA,eQ,wX,my,au,aN,aI,aP,fk=>by
  simp only[da];refine⟨λ P6=>?_,λ i aB=>?_⟩
  ·exfalso;have ak:=(dA r).1 aX;have jO:ops[r]?=j ops[r]:=r9 ak.1;have:r∈Hg .any ops listed:=by
    refine mem_ready.2 ⟨?_,_,jO,λ e he an=>?_⟩
    ·have:=ak.2;rw[dM]at this⊢;rw[r9 aa]at this⊢;simpa using this
    ·have bg:=w4 r _ jO e he an;cases ao:listed.getD e.on J with
     |true=>rfl
     |false=>
      have hm:e.on∈r::a1:=(dA e.on).2 ⟨aa,ao⟩;rcases mx.1 hm with p|p
      ·omega
      ·have:=(wz.1 ax).1 _ p;omega
   rw[P6]at this;simp at this
  ·obtain⟨p,al,ci,A'⟩:=mem_ready.1 aB;have bg:=(kg.1 ci).1;have P7:i∈r::a1:=(dA i).2 ⟨bg,by
    rw[dM]at p⊢;rw[r9 aa]at p⊢;simpa using p⟩
   obtain⟨dt,fh,sl⟩:=List.append_of_mem P7;rw[sl]at my ax;have sn:=P8.1 ax;have DW:∀ac∈dt,KP E ops e2 ac i:=by
    intro ac bc;have r':ac<i:=sn.2.2 ac bc i aX;refine A_ ac i r' bg ?_;cases an:q1 (q2 ops) ac i with
    |false=>rfl
    |true=>have:=Xd wX i al ci A' ac an;have kM:=((dA ac).1 (by rw[sl];simp[bc])).2;rw[this]at kM;cases kM
   obtain⟨pn,v,H1,j8,Hh,bo,he,Hi⟩:=front my DW;rw[ci]at Hh;cases Hh;have Hj:∀k,al.dst=j k→k<a.tmps.size:=by intro k aA;rw[aI];exact qv al (by simpa using Array.mem_of_getElem? ci) k aA
   have hlen:a1.length=(dt++fh).length:=by have:=congrArg DX sl;simp at this⊢;omega
   have Hk:(dt++fh).Pairwise (·<·):=by rw[P8];exact⟨sn.1,(wz.1 sn.2.1).2,λ x ap y bb=>sn.2.2 x ap y (by simp[bb])⟩
   have P9:i∉dt++fh:=by
    intro hm;rcases gA.1 hm with hm|hm
    ·have:=sn.2.2 i hm i aX;omega
    ·have:=(wz.1 sn.2.1).1 i hm;omega
   have Hl:∀k,k∈dt++fh↔k<ops.size∧(listed.setIfInBounds i ah).getD k J=J:=by
    intro k;by_cases qq:k=i
    ·subst qq;refine⟨λ h=>absurd h P9,λ h=>?_⟩;have U:=h.2;rw[dM]at U;simp[eQ,bg]at U
    ·rw[getD_set_ne J (bi qq)];rw[←dA k,sl];simp[qq]
   have Hm:He ops (listed.setIfInBounds i ah):=by
    intro k I nv nk e qe an;by_cases qq:k=i
    ·subst qq;rw[ci]at nv;cases nv;exact getD_set_true (A' e qe an)
    ·rw[getD_set_ne J (bi qq)]at nk;exact getD_set_true (wX k I nv nk e qe an)
   have AD:(listed.setIfInBounds i ah).size=ops.size:=by simpa using eQ
   unfold wpOpIn;rw[ci];unfold ho at bo;split at bo
   next aR=>
    split at bo
    next gJ rk mK=>
     simp only[br,bM]at bo;obtain⟨rfl,rfl,_⟩:=bo;simp only[DQ aN aR,if_true];refine PR (WV mK) (PO cD mK au aN λ x gf ap=>?_);obtain⟨eI,ey,dR,mD,hM,pw⟩:=ap;rw[hlen];refine P5 cD (d0:=d0) (hW:=hW) (d':=j8) A_ w4 qv (dt++fh) _ eI ey _ _ _ gf j8 Hk Hl AD Hm Hi dR ((aN.mono hM).put pw al.dst Hj) (by rw[yN];exact aI) (by rw[put_defers];exact aP) λ b_ av jB Ba kN aU b9=>?_
     obtain⟨fs,eW,bK,bJ,cL,e4⟩:=b9;exact fk b_ av jB (he.trans Ba) kN aU ⟨fs,eW,bK,mD.trans bJ,hM.trans cL,e4⟩
    ·cases bo
   next aR=>
    simp only[br,bM]at bo;obtain⟨rfl,rfl,_⟩:=bo;simp only[DQ aN aR,gk,if_false];refine⟨λ _ _=>trivial,?_⟩;rw[hlen];refine P5 cD (d0:=d0) (hW:=hW) (d':=j8) A_ w4 qv (dt++fh) _ ad ae _ _ _ w j8 Hk Hl AD Hm Hi au (aN.put (Oj _ _ _) al.dst Hj) (by rw[yN];exact aI) (by rw[put_defers];exact aP) λ b_ av jB Ba kN aU b9=>?_
    exact fk b_ av jB (he.trans Ba) kN aU b9
   ·cases bo
 termination_by a1=>a1.length
 decreasing_by all_goals (have:=congrArg DX sl;simp at this⊢;omega)
end
section
variable{E:Env}{ad:cn}{ae:cj}{H:ab}{w:World}
def oY(ae:cj)(N c:Nat):cj:=λ d=>if d.c=c then ae ⟨N,d.r⟩else if d.c=N then o else ae d
inductive yR (H:ab) (c:Nat):Chunk→Chunk→ay→ay→Prop
 |box (cells:List ay) (h:∀d∈bI cells,d<H.length):yR H c (.box cells) (.box cells) (.ptr H.length 0 0 0) (.ptr c 0 0 0)
 |af (z n:Nat) (rows:List (List bx)) (ex:Bool):yR H c (.af z 0 rows ex) (.af z 1 rows ex) (.ref H.length 0 0 n) (.ref c 1 0 n)
 |map:yR H c (.map []) (.map []) (.dV H.length) (.dV c)
def aoh{ch kJ:Chunk}{v0 v1:ay}{c:Nat}(aV:H[c]?=j nL)(ct:ae c=o)(aA:yR H c ch kJ v0 v1){a:ay}{v:Value}(r:bf ad ae (H++[ch]) a v):
  (∀d∈bj a,d<H.length)→bf ad (oY ae H.length c) (H.set c kJ) a v:=by
 have cD:c<H.length:=(bQ.1 aV).1;have fA:(H++[ch])[c]?=j (.af 0 0 [] ah):=by rw[eO cD];exact aV
 have KQ:∀d,d<H.length→d≠c→(H.set c kJ)[d]?=(H++[ch])[d]?∧∀r,oY ae H.length c ⟨d,r⟩=ae ⟨d,r⟩:=by intro d aP e9;refine⟨by rw[dW (bi e9),eO aP],λ r=>?_⟩;simp[oY,e9,show d≠H.length by omega]
 have yH:∀d,d<H.length→d≠c→(H.set c kJ)[d]?=(H++[ch])[d]?∧oY ae H.length c d=ae d:=λ d aP e9=>⟨(KQ d aP e9).1,(KQ d aP e9).2 0⟩
 have nw:(H.set c kJ)[c]?=j kJ:=k9 cD;induction r with
 |dead v=>exact λ _=>.dead v
 |i x v h=>exact λ _=>.i x v h
 |agg cells cs ao _ a'=>exact λ aP=>.agg cells cs ao λ k a aF=>a' k a aF λ d h=>aP d (by simp only[bj];exact mH.2 ⟨k,a,aF,h⟩)
 |aS fn first fZ fb cs ao hm _ _ oO oP=>exact λ aP=>.aS fn first fZ fb cs ao hm (λ k a aF=>oO k a aF λ d h=>aP d (by simp only[bj,gA];exact .inl (mH.2 ⟨k,a,aF,h⟩))) (λ k a aF=>oP k a aF λ d h=>aP d (by simp only[bj,gA];exact .inr (mH.2 ⟨k,a,aF,h⟩)))
 |bl vs xs ao _ a'=>exact λ aP=>.bl vs xs ao λ k a aF=>a' k a aF λ d h=>aP d (by simp only[bj];exact mH.2 ⟨k,a,aF,h⟩)
 |ref d g off len v aj aU aN ax aR=>
  intro aP;have fS:d<H.length:=aP d (by simp[bj]);by_cases e9:d=c
  ·subst e9;have P_:=aR _ _ _ _ fA;obtain rfl:g=0:=aa;cases aA with
   |box cells _=>exact .ref _ _ _ _ _ (by simpa using fS) (λ _ _ _ h=>by rw[nw]at h;cases h) (λ _ _ _ h=>by rw[nw]at h;cases h) ax (λ _ _ _ _ h=>by rw[nw]at h;cases h)
   |af z n rows ex=>exact .ref _ _ _ _ _ (by simpa using fS) (λ _ _ _ h=>by rw[nw]at h;cases h) (λ _ _ _ h=>by rw[nw]at h;cases h) ax (λ _ _ _ _ h=>aa)
   |map=>exact .ref _ _ _ _ _ (by simpa using fS) (λ _ _ _ h=>by rw[nw]at h;cases h) (λ _ _ _ h=>by rw[nw]at h;cases h) ax (λ _ _ _ _ h=>by rw[nw]at h;cases h)
  ·obtain⟨ar,aM⟩:=yH d fS e9;refine .ref _ _ _ _ _ (by simpa using fS) (λ aD rows ex h=>?_) (λ aD rows ex h=>aN aD rows ex (by rw[←ar];exact h)) ax (λ aD a6 rows ex h=>aR aD a6 rows ex (by rw[←ar];exact h));exact(aU aD rows ex (by rw[←ar];exact h)).step aM rfl
 |dV d v aj hm bA hu ax bp=>
  intro aP;have fS:d<H.length:=aP d (by simp[bj]);by_cases e9:d=c
  ·subst e9;exact absurd fA (bp _ _ _ _)
  ·obtain⟨ar,aM⟩:=yH d fS e9;refine .dV _ _ (by simpa using fS) (λ es h=>?_) (λ t cells h=>?_) (λ t l h=>?_) ax (λ aD g rows ex h=>bp _ _ _ _ (by rw[←ar];exact h))
   ·rw[aM];exact hm es (by rw[←ar];exact h)
   ·rw[aM];exact bA t cells (by rw[←ar];exact h)
   ·rw[aM];exact hu t l (by rw[←ar];exact h)
 |ptr d g r k v aj an aU aN aB ax aR=>
  intro aP;have fS:d<H.length:=aP d (by simp[bj]);by_cases e9:d=c
  ·subst e9;have P_:=aR _ _ _ _ fA;obtain rfl:g=0:=aa;obtain⟨b,n,p,_⟩:=aU _ _ _ fA;rw[ct]at p;cases p
  ·obtain⟨ar,aM⟩:=yH d fS e9;refine .ptr _ _ _ _ _ (by simpa using fS) (λ cells h=>?_) (λ aD rows ex h=>?_) (λ aD rows ex row h=>aN aD rows ex row (by rw[←ar];exact h)) (λ s I h=>?_) ax (λ aD a6 rows ex h=>aR aD a6 rows ex (by rw[←ar];exact h))
   ·rw[aM];exact an cells (by rw[←ar];exact h)
   ·rw[aM];exact aU aD rows ex (by rw[←ar];exact h)
   ·rw[aM];exact aB s I (by rw[←ar];exact h)
 |x k v h aN=>
  intro aP;have fS:k.c<H.length:=aP k.c (by simp[bj]);refine .x _ _ (h.U8 (by simpa using fS) ?_) (aN.to (λ _ _ h=>h) λ g rows e=>?_);rotate_left
  ·by_cases e9:k.c=c
   ·rw[e9,nw]at e;cases aA<;>cases e
   ·rw[←(KQ _ fS e9).1];exact e
  intro z g s rows aT;by_cases e9:k.c=c
  ·rw[e9,nw]at aT;cases aA<;>cases aT
  ·obtain⟨ar,aM⟩:=KQ _ fS e9;rw[ar]at aT;exact .inl ⟨s,rows,aT,aM 0,rfl,.inr ⟨rfl,λ r b4 ak=>⟨b4,ak,rfl,aM _⟩⟩⟩
def aoi(au:cf E ad ae H w){c:Nat}(aV:H[c]?=j nL){ch kJ:Chunk}{v0 v1:ay}{x:Value}{av:World}(aA:yR H c ch kJ v0 v1)
  (b9:cz E ad ae H w (H++[ch]) av λ aQ aG=>bf aQ aG (H++[ch]) v0 x):cz E ad ae H w (H.set c kJ) av λ aQ aG=>bf aQ aG (H.set c kJ) v1 x:=by
 obtain⟨aQ,aG,oq,dk,Pa,uh⟩:=b9;have cD:c<H.length:=(bQ.1 aV).1;have fA:(H++[ch])[c]?=j (.af 0 0 [] ah):=by rw[eO cD];exact aV
 have ct:aG c=o:=(oq.ch _ _ fA).1 rfl;have key:∀a v,bf aQ aG (H++[ch]) a v→(∀d∈bj a,d<H.length)→bf aQ (oY aG H.length c) (H.set c kJ) a v:=λ a v r=>aoh aV ct aA r
 have yS:oY aG H.length c c=aG H.length:=by simp[oY]
 have inv:∀(d:fK) b n,oY aG H.length c d=j (b,n)→(d.c=c∧aG ⟨H.length,d.r⟩=j (b,n))∨(d.c≠c∧d.c≠H.length∧aG d=j (b,n)):=by
  intro d b n h;unfold oY at h;split at h
  ·exact .inl ⟨by assumption,h⟩
  ·split at h
   ·cases h
   ·exact .inr ⟨by assumption,by assumption,h⟩
 have KR:(H++[ch])[H.length]?=j ch:=aX;refine⟨aQ,oY aG H.length c,⟨oq.ei,λ d y aP=>?_,λ d im b n dT p U=>?_,λ d b n h=>?_,oq.fv⟩,
  ⟨dk.os,dk.tape,dk.output,dk.size,dk.frame,dk.ei,dk.r2,λ d b n h=>?_⟩,λ a v r=>key a v (Pa a v r) (sc r),?_⟩
 ·rcases gb aP with⟨rfl,rfl⟩|⟨e9,wR⟩
  ·have h:=oq.ch _ _ KR;cases aA with
   |box cells ak=>obtain⟨b,cs,elem,bs,p,U,az,bh,bF⟩:=h;exact⟨b,cs,elem,bs,by rw[yS];exact p,U,az,bh,λ k a aF=>key _ _ (bF k a aF) λ e he=>ak e (mH.2 ⟨k,a,aF,he⟩)⟩
   |af z n rows ex=>
    obtain⟨p,U,az⟩:=h;refine⟨λ e=>by rw[yS];exact p e,U,?_⟩;rcases az with⟨bh,bF⟩|⟨b,cs,elem,bs,bh,bF⟩
    ·exact .inl ⟨by rw[yS];exact bh,bF⟩
    ·exact .inr ⟨b,cs,elem,bs,by rw[yS];exact bh,bF⟩
   |map=>obtain⟨b,h7,aO,p,U,az⟩:=h;exact⟨b,h7,aO,by rw[yS];exact p,U,az.of λ a v aF=>by simp at aF⟩
  ·have fS:d<H.length:=(bQ.1 wR).1;have aM:oY aG H.length c d=aG d:=by simp[oY,e9,show d≠H.length by omega]
   have bZ:∀r,oY aG H.length c ⟨d,r⟩=aG ⟨d,r⟩:=λ r=>by simp[oY,e9,show d≠H.length by omega]
   have h:=oq.ch d y (by rw[eO fS];exact wR);have a8:=au.ch d y wR;cases y with
   |box cells=>obtain⟨b,cs,elem,bs,p,U,az,bh,bF⟩:=h;obtain⟨_,yv,_,_,_,_,_,_,mI⟩:=a8;exact⟨b,cs,elem,bs,by rw[aM];exact p,U,az,bh,λ k a aF=>key _ _ (bF k a aF) (sc (mI k a aF))⟩
   |af z g rows ex=>
    obtain⟨p,U,az⟩:=h;refine⟨λ e=>by rw[aM];exact p e,U,?_⟩;rcases az with⟨bh,bF⟩|⟨b,cs,elem,bs,bh,bF⟩
    ·exact .inl ⟨by rw[aM];exact bh,bF⟩
    ·exact .inr ⟨b,cs,elem,bs,by rw[aM];exact bh,bF⟩
   |bs z g rows ex=>exact(aM.trans h:oY aG H.length c d=o)
   |iter s I=>obtain⟨b,p,U⟩:=h;exact⟨b,by rw[aM];exact p,U⟩
   |map es=>obtain⟨b,h7,aO,p,U,az⟩:=h;obtain⟨_,aVb,_,_,bJ,cL⟩:=a8;exact⟨b,h7,aO,by rw[aM];exact p,U,az.of λ a v aF r=>key _ _ r (sc (cL.ex aF).choose_spec)⟩
   |dm t cells=>obtain⟨b,cs,p,U,bh,bF⟩:=h;obtain⟨_,yv,_,_,_,mI⟩:=a8;exact⟨b,cs,by rw[aM];exact p,U,bh,λ k a aF=>key _ _ (bF k a aF) (sc (mI k a aF))⟩
   |kc t l=>obtain⟨b,cs,p,U,az⟩:=h;exact⟨b,cs,by rw[aM];exact p,U,az⟩
   |gone=>exact(aM.trans h:oY aG H.length c d=o)
   |fd=>exact(aM.trans h:oY aG H.length c d=o)
   |aE z g s rows=>
    rcases h with⟨p,U⟩|⟨b,cs,elem,bs,p,U,az,bh,bF⟩
    ·exact .inl ⟨by rw[aM];exact p,U⟩
    ·exact .inr ⟨b,cs,elem,bs,by rw[aM];exact p,U,az,bh,λ r q bu=>(bF r q bu).mono (bZ _) (λ _ _ h=>h) (λ _ _ _=>rfl)⟩
 ·rcases inv _ _ _ p with⟨cy,ar⟩|⟨hD,a2,ar⟩<;>rcases inv _ _ _ U with⟨cN,bZ⟩|⟨fm,dZ,bZ⟩
  ·have:=oq.inj _ _ _ _ _ ar bZ;simp only[fK.mk.injEq,true_and]at this;exact fK.ext' (cy.trans cN.symm) this
  ·exact absurd (congrArg fK.c (oq.inj _ _ _ _ _ ar bZ)).symm dZ
  ·exact absurd (congrArg fK.c (oq.inj _ _ _ _ _ ar bZ)) a2
  ·exact oq.inj _ _ _ _ _ ar bZ
 ·rcases inv _ _ _ h with⟨cy,ar⟩|⟨hD,a2,ar⟩
  ·have:=oq.sep _ _ _ ar;exact⟨this.1,this.2.1,by rw[cy];simpa using cD⟩
  ·have:=oq.sep _ _ _ ar;refine⟨this.1,this.2.1,?_⟩;have az:=this.2.2;simp at az⊢;omega
 ·rcases inv _ _ _ h with⟨_,ar⟩|⟨hD,a2,ar⟩
  ·exact dk.own _ _ _ ar
  ·exact dk.own _ _ _ ar
 ·have nw:(H.set c kJ)[c]?=j kJ:=k9 cD;cases aA with
  |box cells ak=>
   cases uh with
   |ptr _ _ _ _ _ aj an aU aN aB ax aR=>obtain⟨b,n,p,U⟩:=an _ KR;exact .ptr _ _ _ _ _ (by simpa using cD) (λ cells h=>⟨b,n,by rw[yS];exact p,U⟩) (λ _ _ _ h=>by rw[nw]at h;cases h) (λ _ _ _ _ h=>by rw[nw]at h;cases h) (λ _ _ h=>by rw[nw]at h;cases h) ax (λ _ _ _ _ h=>aa)
  |af z n rows ex=>
   cases uh with
   |ref _ _ _ _ _ aj aU aN ax aR=>have p:=aU _ _ _ KR;refine .ref _ _ _ _ _ (by simpa using cD) (λ aD dv io h=>?_) (λ _ _ _ h=>by rw[nw]at h;cases h) ax (λ _ _ _ _ h=>by rw[nw]at h;cases h;omega);rw[nw]at h;cases h;unfold tW at p⊢;rw[yS];exact p
  |map=>
   cases uh with
   |dV _ _ aj hm bA hu ax bp=>obtain⟨b,n,p,U⟩:=hm _ KR;exact .dV _ _ (by simpa using cD) (λ es h=>⟨b,n,by rw[yS];exact p,U⟩) (λ _ _ h=>by rw[nw]at h;cases h) (λ _ _ h=>by rw[nw]at h;cases h) ax (λ _ _ _ _ h=>by rw[nw]at h;cases h)
def Xe:∀{l:aZ} {xs:cZ} {H1:ab},f' [] l=j (xs,H1)→H1=[]∧∀H,f' H l=j (xs,H)
 |[],xs,H1,h=>by simp only[f',br,bM]at h;obtain⟨rfl,rfl⟩:=h;exact⟨rfl,λ H=>rfl⟩
 |a::l,xs,H1,h=>by
  simp only[f']at h;split at h
  next x bG p=>
   split at h
   next di pG U=>
    simp only[br,bM]at h;obtain⟨rfl,rfl⟩:=h;cases a with
    |i z=>simp only[freeze,br,bM]at p;obtain⟨rfl,rfl⟩:=p;obtain⟨rfl,e⟩:=Xe U;exact⟨rfl,λ H=>by simp only[f',freeze,e H]⟩
    |x k=>cases k<;>simp[freeze,pk,wk,wl]at p
    |_=>simp[freeze]at p
   ·cases h
  ·cases h
def aoj{t:TypeId}{n:Nat}{bn:eu}{k:Option cu}{kJ:Chunk}(h:iT (kC E [] t n bn)=j (k,kJ))(H:ab)(c:Nat):
  ∃v0 ch,kC E H t n bn=j (v0,H++[ch])∧yR H c ch kJ v0 (u7 c k):=by
 unfold kC at h⊢;split at h;rotate_left
 ·simp[iT]at h
 rename_i e he;split at h;rotate_left
 ·simp[iT]at h
 rename_i z zero bp hzero;split at h;rotate_left
 ·simp[iT]at h
 rename_i aj;split at h;rotate_left
 ·simp[iT]at h
 rename_i cells Kc;split at h;rotate_left
 ·simp[iT]at h
 rename_i xs H1 hv;obtain⟨rfl,ar⟩:=Xe hv;simp only[iT,hb,br,bM]at h;obtain⟨rfl,rfl⟩:=h;simp only[aj,and_self,if_true,Kc,ar H];exact⟨_,_,rfl,.af _ _ _ _⟩
def aok{t:TypeId}{l m:ay}{k:Option cu}{kJ:Chunk}(h:iT (jf E [] t l m)=j (k,kJ))(H:ab)(c:Nat):
  ∃v0 ch,jf E H t l m=j (v0,H++[ch])∧yR H c ch kJ v0 (u7 c k):=by
 unfold jf at h⊢;split at h;rotate_left
 ·simp[iT]at h
 rename_i e bK gM bJ gU he;split at h;rotate_left
 ·simp[iT]at h
 rename_i z row b bp b2 an;split at h;rotate_left
 next ht=>
  split at h
  next aj=>simp only[iT,hb,br,bM]at h;obtain⟨rfl,rfl⟩:=h;rw[if_neg ht,if_pos aj];exact⟨_,_,rfl,.af _ _ _ _⟩
  ·simp[iT]at h
 rename_i aj;simp only[iT,hb,br,bM]at h;obtain⟨rfl,rfl⟩:=h;rw[if_pos aj];exact⟨_,_,rfl,.af _ _ _ _⟩
def aol(v:Value):∀d,d∉bI (cU (kz v)):=by
 intro d aP;have r:bf (λ _=>o) (λ _=>o) [] (kz v) v:=tX v;have h:=sc r d;have:d∈bj (kz v):=by generalize kz v=a at aP;cases a<;>simp only[cU,bI,dC]at aP<;>exact aP
 exact absurd (h this) aX
def Xf{a:ay}{d:Nat}(h:d∈bI (cU a)):d∈bj a:=by cases a<;>simp only[cU,bI,dC]at h<;>exact h
def aom{t:TypeId}{z n:Nat}{bn:eu}:iT (u4 E [] t z n bn)=o:=by
 unfold u4;split
 ·split
  ·unfold C2;split<;>rfl
  ·rfl
 ·rfl
def aon{z:Nat}{q:dE}:iT (u6 z q)=o:=by
 unfold u6;split
 ·unfold C5;split<;>rfl
 ·rfl
def Xg{bB:dI}:∀{h':cq} {H1:ab} {cs e5:aZ},j2 bB h' [] cs=j (e5,H1)→H1=[]∧∀H,j2 bB h' H cs=j (e5,H)
 |[],H1,cs,e5,h=>by simp only[j2,br,bM]at h;obtain⟨rfl,rfl⟩:=h;exact⟨rfl,λ _=>rfl⟩
 |ac::h',H1,cs,e5,h=>by
  simp only[j2]at h;split at h
  next a aF=>
   split at h
   next x bG aN=>
    cases a with
    |i z=>simp only[freeze,br,bM]at aN;obtain⟨rfl,rfl⟩:=aN;obtain⟨rfl,e⟩:=Xg h;exact⟨rfl,λ H=>by simp only[j2,aF,freeze,e H]⟩
    |x k=>cases k<;>simp[freeze,pk,wk,wl]at aN
    |_=>simp[freeze]at aN
   ·cases h
  ·cases h
def aoo{t:TypeId}{H1:ab}{v v1:ay}{h':cq}(h:k4 E t [] v h'=j (v1,H1)):H1=[]∧(∀H,k4 E t H v h'=j (v1,H))∧∀d∈bj v1,d∈bj v:=by
 have ao:=(KM h).2;cases h' with
 |nil=>simp only[k4,br,bM]at h;obtain⟨rfl,rfl⟩:=h;exact⟨rfl,λ _=>rfl,ao⟩
 |cons ac h'=>
  simp only[k4,wu]at h;split at h
  next cs bG aN=>simp only[br,bM]at h;obtain⟨rfl,rfl⟩:=h;obtain⟨rfl,e⟩:=Xg aN;exact⟨rfl,λ H=>by simp only[k4,wu,e H],ao⟩
  ·cases h
def aop{R:Fr}{a:Act}(au:cf E ad ae H w)(aN:fq ad ae H R a.tmps){al:Op}(ci:en al=ah){k:Option cu}{kJ:Chunk}(h:iT (dF E R [] al)=j (k,kJ))(c:Nat):
  ∃v0 ch,dF E R H al=j (v0,H++[ch])∧yR H c ch kJ v0 (u7 c k):=by
 cases al with
 |alloc e=>
  simp only[dF]at h⊢;split at h
  next v bo=>
   split at h
   next p=>
    split at h
    ·split at h<;>simp[iT]at h
    rename_i bA;simp only[iT,hb,br,bM]at h;obtain⟨rfl,rfl⟩:=h;simp only[p,if_true,bA];refine⟨_,_,rfl,.box _ λ d aP=>?_⟩;obtain⟨eB,_,tY⟩:=ys bo w;rw[tY]at aP;exact absurd aP (aol eB d)
   ·simp[iT]at h
  ·simp[iT]at h
 |box t x=>
  simp only[dF]at h⊢;unfold Aq at h;split at h
  next v1 H1 bp=>
   obtain⟨rfl,ar,aM⟩:=aoo bp;split at h
   next p=>simp only[iT,hb,br,bM]at h;obtain⟨rfl,rfl⟩:=h;simp only[ar,Aq,p,if_true];exact⟨_,_,rfl,.box _ λ d aP=>sc (e7 au aN x) d (aM d (Xf aP))⟩
   ·simp[iT]at h
  ·simp[iT]at h
 |buildSlice t n bn=>
  simp only[dF]at h⊢;split at h
  ·exact aoj h H c
  ·rw[aom]at h;cases h
 |makeSlice t l m=>
  simp only[dF]at h⊢;split at h
  ·exact aok h H c
  ·rw[aon]at h;cases h
 |makeMap t r=>
  cases r with
  |some r=>simp[en]at ci
  |none=>
   simp only[dF]at h⊢;split at h
   next I ax=>simp only[iT,hb,br,bM]at h;obtain⟨rfl,rfl⟩:=h;exact⟨_,_,rfl,.map⟩
   ·simp[iT]at h
 |_=>simp[en]at ci
end
section
variable{E:Env}{aO:dY}{H:ab}
def aoq{R:Fr}(t:TypeId)(a x:Operand):cw E aO (.store t a x) R H=x4 E t (bw E R a) (k4 E t H (bw E R x) (E.tM t)):=rfl
def DY{a:ay}{x:bx}{H1:ab}{c:Nat}(y:Chunk)(h:freeze H a=j (x,H1))(aj:c∉bj a):freeze (H.set c y) a=j (x,H1.set c y):=by
 cases a with
 |i z=>simp only[freeze,br,bM]at h;obtain⟨rfl,rfl⟩:=h;rfl
 |ref d g off len=>
  have aP:c≠d:=by simpa[bj]using aj
  simp only[freeze,dW aP]at h⊢;split at h
  next he=>
   rw[he];split at h
   next aR=>simp only[br,bM]at h;obtain⟨rfl,rfl⟩:=h;simp only[aR,if_true];rw[oZ _ _ aP]
   ·cases h
  next he=>
   rw[he];split at h
   next aR=>simp only[br,bM]at h;obtain⟨rfl,rfl⟩:=h;simp only[aR,if_true]
   ·cases h
  ·cases h
 |x k=>
  have aP:c≠k.c:=by simpa[bj]using aj
  cases k with
  |e=>cases h
  |I=>cases h
  |d d g off len=>
   simp only[de.c]at aP;simp only[freeze,pk,dW aP]at h⊢;unfold wk CZ at h⊢;split at h
   next he=>
    rw[he];split at h
    next aR=>
     split at h
     next ap=>simp only[br,bM]at h;obtain⟨rfl,rfl⟩:=h;simp only[aR,if_true,ap];rw[oZ _ _ aP]
     ·cases h
    ·cases h
   next he=>
    rw[he];split at h
    next aR=>simp only[br,bM]at h;obtain⟨rfl,rfl⟩:=h;simp only[aR,if_true]
    ·cases h
   ·cases h
  |h d g s r=>
   simp only[de.c]at aP;simp only[freeze,pk,dW aP]at h⊢;unfold wl at h⊢;split at h
   next he=>
    rw[he];split at h
    next aR=>
     split at h
     next ap=>simp only[br,bM]at h;obtain⟨rfl,rfl⟩:=h;simp only[aR,and_self,if_true,ap];rw[oZ _ _ aP]
     ·cases h
    ·cases h
   ·cases h
 |_=>simp[freeze]at h
def aor{z c:Nat}{v:ay}{q:er}{H1:ab}(y:Chunk)(h:qY H z v=j (q,H1))(aj:c∉bj v):qY (H.set c y) z v=j (q,H1.set c y):=by
 have Xh:∀v,u3 z (freeze H v)=j (q,H1)→c∉bj v→u3 z (freeze (H.set c y) v)=j (q,H1.set c y):=by
  intro v h aj;unfold u3 at h⊢;split at h
  next x bG aN=>simp only[br,bM]at h;obtain⟨rfl,rfl⟩:=h;rw[DY y aN aj]
  ·cases h
 unfold qY at h⊢;split at h
 next d g len=>
  have aP:c≠d:=by simpa[bj]using aj
  simp only[dW aP];unfold C1 at h⊢;split at h
  next he=>
   rw[he];simp only;split at h
   next p=>simp only[br,bM]at h;obtain⟨rfl,rfl⟩:=h;rw[if_pos p,oZ _ _ aP]
   ·cases h
  ·exact Xh _ h aj
 ·exact Xh _ h aj
def aos{t:TypeId}{n c:Nat}{v:ay}{k:de}{aq:ab}(y:Chunk)(h:qZ E H t n v k=j aq)(aA:c≠k.c)(bo:c∉bj v):qZ E (H.set c y) t n v k=j (aq.set c y):=by
 cases k with
 |d=>cases h
 |h=>cases h
 |e d g r=>
  simp only[de.c]at aA;simp only[qZ,dW aA]at h⊢;split at h
  next p=>
   rw[if_pos p];unfold x1 at h⊢;split at h
   next he=>
    rw[he];simp only;unfold x0 at h⊢;split at h
    next q H1 ak=>
     rw[aor y ak bo];simp only[dW aA];split at h
     next qi=>
      rw[qi];simp only;split at h
      next U=>simp only[br]at h;subst h;rw[if_pos U,oZ _ _ aA]
      ·cases h
     ·cases h
    ·cases h
   ·cases h
  ·cases h
 |I d g s r i k=>
  simp only[de.c]at aA;simp only[qZ,dW aA]at h⊢;unfold x2 at h⊢;split at h
  next he=>
   rw[he];simp only;split at h
   next p=>
    rw[if_pos p];split at h
    ·rename_i ak
     try simp only[ak]
     split at h
     next az bh=>
      simp only[br]at h;subst h
      try simp only[az,bh]
      rw[oZ _ _ aA]
     ·cases h
    ·cases h
   ·cases h
  ·cases h
def Xi{z d c:Nat}{x:ay}{new:c0}{H1:ab}(y:Chunk)(h:mo z H x=j (d,new,H1))(aj:c∉bj x):mo z (H.set c y) x=j (d,new,H1.set c y):=by
 unfold mo at h⊢;split at h
 next im g off len=>
  have aP:c≠im:=by simpa[bj,de.c]using aj
  simp only[dW aP];unfold wq at h⊢;split at h
  next he=>
   rw[he];simp only;split at h
   next p=>simp only[br,bM]at h;obtain⟨rfl,rfl,rfl⟩:=h;rw[if_pos p,oZ _ _ aP]
   ·cases h
  ·cases h
 ·cases h
def aot{z d:Nat}{x:ay}{new:c0}{H1:ab}(h:mo z H x=j (d,new,H1)):H1.length=H.length:=by
 unfold mo wq at h
 repeat' split at h
 all_goals first|(simp only[br,bM]at h;obtain⟨_,_,rfl⟩:=h;simp)|cases h
def aou{t t2:TypeId}{z:Nat}{s x v:ay}{aq:ab}{c:Nat}(y:Chunk)(h:u5 E H t t2 z s x=j (v,aq))(aU:c∉bj s)(ap:c∉bj x)(ao:c<H.length):u5 E (H.set c y) t t2 z s x=j (v,aq.set c y):=by
 unfold u5 at h⊢;split at h;rotate_left
 ·cases h
 rename_i p;rw[if_pos p];unfold wt at h⊢;split at h;rotate_left
 ·cases h
 rename_i d new H1 yJ;rw[Xi y yJ ap];have iL:=aot yJ;simp only;split at h
 ·split at h
  next U=>simp only[br,bM]at h;obtain⟨rfl,rfl⟩:=h;rw[if_pos U,kl,w5 _ _ aa]
  ·cases h
 next im g len=>
  have aP:c≠im:=by simpa[bj,de.c]using aU
  simp only[dW aP];unfold C3 at h⊢;split at h
  next he=>
   rw[he];simp only;split at h
   next U=>simp only[br,bM]at h;obtain⟨rfl,rfl⟩:=h;rw[if_pos U,oZ _ _ aP]
   ·cases h
  ·cases h
 ·cases h
def aov{t:TypeId}{z:Nat}{x u v:ay}{aq:ab}{c:Nat}(y:Chunk)(h:rT E H t z x u=j (v,aq))(aU:c∉bj x)(ap:c∉bj u):rT E (H.set c y) t z x u=j (v,aq.set c y):=by
 unfold rT at h⊢;split at h;rotate_left
 ·cases h
 rename_i p;rw[if_pos p];unfold An at h⊢;split at h;rotate_left
 ·cases h
 rename_i d new H1 yJ;rw[Xi y yJ ap];simp only;split at h
 next im g off len=>
  have aP:c≠im:=by simpa[bj,de.c]using aU
  simp only[dW aP];unfold C4 at h⊢;split at h
  next he=>
   rw[he];simp only;split at h
   next U=>simp only[br,bM]at h;obtain⟨rfl,rfl⟩:=h;rw[if_pos U,oZ _ _ aP]
   ·cases h
  ·cases h
 ·cases h
def KS{c:Nat}(y:Chunk):∀{l:aZ} {H H1:ab} {xs:cZ},f' H l=j (xs,H1)→c∉bI l→f' (H.set c y) l=j (xs,H1.set c y)
 |[],H,H1,xs,h,_=>by simp only[f',br,bM]at h;obtain⟨rfl,rfl⟩:=h;rfl
 |a::l,H,H1,xs,h,aj=>by
  simp only[bI,gA,not_or]at aj;simp only[f']at h⊢;split at h
  next x bG p=>
   split at h
   next di pG U=>simp only[br,bM]at h;obtain⟨rfl,rfl⟩:=h;rw[DY y p aj.1];simp only[KS y U aj.2]
   ·cases h
  ·cases h
def aow{c:Nat}(y:Chunk){l:aZ}{H:ab}(h:f' H l=o)(aj:c∉bI l):f' (H.set c y) l=o:=by
 cases U:f' (H.set c y) l with
 |none=>rfl
 |some I=>
  exfalso;by_cases ao:c<H.length
  ·have:=KS (c:=c) H[c] U aj;rw[wI]at this;simp[h]at this
  ·rw[List.set_eq_of_length_le aa,h]at U;cases U
def DZ{c:Nat}(y:Chunk):∀{l bW:aZ} {H H1:ab},dP H l=j (bW,H1)→c∉bI l→dP (H.set c y) l=j (bW,H1.set c y)
 |[],bW,H,H1,h,_=>by simp only[dP,br,bM]at h;obtain⟨rfl,rfl⟩:=h;rfl
 |a::l,bW,H,H1,h,aj=>by
  simp only[bI,gA,not_or]at aj;cases a with
  |ref d g off len=>
   simp only[dP]at h⊢;split at h
   next x bG p=>
    split at h
    next ul pG U=>simp only[br,bM]at h;obtain⟨rfl,rfl⟩:=h;rw[DY y p aj.1];simp only[DZ y U aj.2]
    ·cases h
   ·cases h
  |agg cells=>
   have fA:c∉bI cells:=by simpa[bj]using aj.1
   simp only[dP]at h⊢;cases aN:f' H cells with
   |none=>
    rw[aN]at h;rw[aow y aN fA];simp only at h⊢;split at h
    next ul pG U=>simp only[br,bM]at h;obtain⟨rfl,rfl⟩:=h;rw[DZ y U aj.2]
    ·cases h
   |some I=>
    obtain⟨xs,bG⟩:=I;rw[aN]at h;rw[KS y aN fA];simp only at h⊢;split at h
    next ul pG U=>simp only[br,bM]at h;obtain⟨rfl,rfl⟩:=h;rw[DZ y U aj.2]
    ·cases h
  |x q=>
   simp only[dP]at h⊢;split at h
   next x bG p=>
    split at h
    next ul pG U=>simp only[br,bM]at h;obtain⟨rfl,rfl⟩:=h;rw[DY y p aj.1];simp only[DZ y U aj.2]
    ·cases h
   ·cases h
  |dead|i|ptr|dV|aS|bl=>
   simp only[dP]at h⊢;split at h
   next ul pG U=>simp only[br,bM]at h;obtain⟨rfl,rfl⟩:=h;rw[DZ y U aj.2]
   ·cases h
def aox{c:Nat}(y:Chunk)(z:Nat)(H:ab)(ao:c<H.length)(a:ay):jL z (H.set c y) a=((jL z H a).1,(jL z H a).2.set c y):=by
 unfold jL;split
 ·cases decide (z<1000)
  ·simp only[Al,kl];rw[w5 _ _ ao]
  ·simp only[Al,kl];rw[w5 _ _ ao]
 ·rfl
def aoy{c:Nat}(y:Chunk)(k:dI)(H:ab)(ao:c<H.length)(a:ay):lW k (H.set c y) a=((lW k H a).1,(lW k H a).2.set c y):=by
 unfold lW;split
 ·exact aox y _ H ao _
 ·rfl
def aoz(k:dI)(H:ab)(a:ay):H.length≤(lW k H a).2.length:=by obtain⟨x,ap⟩:=W3 k H a;rw[ap];simp
def Xj{c:Nat}(y:Chunk):∀(bB:List dI) (l:aZ) (H:ab),c<H.length→e6 bB l (H.set c y)=((e6 bB l H).1,(e6 bB l H).2.set c y)
 |[],l,H,_=>by simp[e6]
 |k::bB,[],H,_=>by simp[e6]
 |k::bB,a::l,H,ao=>by simp only[e6,aoy y k H ao a];rw[Xj y bB l _ (wx ao (aoz _ _ _))]
def aoA{f:FuncId}{c:Nat}(y:Chunk){l bW:aZ}{H H1:ab}(h:js E f H l=j (bW,H1))(aj:c∉bI l)(ao:c<H.length):js E f (H.set c y) l=j (bW,H1.set c y):=by
 unfold js at h⊢;split at h
 ·simp only[br]at h;simp only[Xj y _ l H ao,h]
 ·split at h
  next ul bG U=>simp only[br,bM]at h;obtain⟨rfl,rfl⟩:=h;rw[DZ y U aj]
  ·cases h
def P'(H:ab):∀(n:Nat) (l seen:cq) (c:Nat),c∈seen→c∈reach H n l seen
 |0,l,seen,c,h=>by cases l<;>exact h
 |n+1,[],seen,c,h=>h
 |n+1,d::l,seen,c,h=>by
  unfold reach;split
  ·exact P' H n l seen c h
  ·exact P' H n _ _ c (by simp[h])
def Qa(H:ab){c:Nat}(y:Chunk):∀(n:Nat) (l seen:cq),c∉reach H n l seen→reach (H.set c y) n l seen=reach H n l seen
 |0,l,seen,_=>by cases l<;>rfl
 |n+1,[],seen,_=>rfl
 |n+1,d::l,seen,h=>by
  unfold reach at h⊢;simp only[kl];split at h
  next p=>rw[if_pos p,if_pos p];exact Qa H y n l seen h
  next p=>
   rw[if_neg p,if_neg p];have aP:c≠d:=by rintro rfl;exact h (P' H n _ _ c aX)
   rw[dW aP];exact Qa H y n _ _ h
def Xk{c:Nat}(y:Chunk):∀(a1:cq) (xs:List Chunk) (H:ab),c∉a1→ev (H.set c y) a1 xs=(ev H a1 xs).set c y
 |[],xs,H,_=>by cases xs<;>rfl
 |d::a1,[],H,_=>rfl
 |d::a1,x::xs,H,h=>by simp only[mx,not_or]at h;simp only[ev];rw[oZ _ _ h.1,Xk y a1 xs _ h.2]
def Xl{f:FuncId}{args:aZ}{aq:ab}{r:ay}{c:Nat}(y:Chunk)(h:lX E aO f args H=j (r,aq))(aj:c∉rY E f args H)(ao:c<H.length):
  lX E aO f args (H.set c y)=j (r,aq.set c y)∧rY E f args (H.set c y)=rY E f args H:=by
 unfold lX at h;unfold rY at aj⊢;unfold lX;split at h
 ·cases h
 next bW H1 ax=>
  rw[ax]at aj⊢;simp only[gA,not_or]at aj;have hlen:=(W5 ax).1;have nv:=aoA y ax aj.1 ao;rw[nv];simp only;rw[Qa H1 y 64 _ _ aj.2];refine⟨?_,rfl⟩;simp only at h;have dA:∀d∈reach H1 64 (bI bW) [],c≠d:=λ d aP e=>aj.2 (e▸aP)
  generalize reach H1 64 (bI bW) []=a1 at h dA aj⊢;have ar:(a1.map λ d=>(((H1.set c y)[d]?).map (Chunk.c2 (bD a1))).getD (.iter [] 0))=a1.map λ d=>((H1[d]?).map (Chunk.c2 (bD a1))).getD (.iter [] 0):=
   yO λ d aP=>by rw[dW (dA d aP)]
  rw[ar];split at h
  ·cases h
  next iB L fl=>
   split at h
   ·cases h
   next yT=>simp only[br,bM]at h;obtain⟨rfl,rfl⟩:=h;simp only[fl,yT,if_false,kl];rw[Xk y _ _ _ aj.2,w5 _ _ (by rw[yK];omega)]
def aoB{f:FuncId}{args:aZ}{aq:ab}{r:ay}{c:Nat}(y:Chunk)(h:gI E aO f args H=j (r,aq))(aj:c∉jM E f args H)(fF:c+lA∉jM E f args H)(ao:c<H.length):
  gI E aO f args (H.set c y)=j (r,aq.set c y)∧jM E f args (H.set c y)=jM E f args H:=by
 unfold gI at h⊢;unfold jM at aj fF⊢;cases hm:E.pj f with
 |none=>
  rw[hm]at h aj fF;simp only at h aj fF⊢;cases ak:E.tL f with
  |false=>rw[ak]at h aj;exact Xl y h aj ao
  |true=>
   rw[ak]at h fF;simp only at h fF⊢;obtain⟨rfl,az⟩:=G_ h;have ym:c∉rY E f args aq:=λ hk=>fF (D0.2 ⟨c,hk,rfl⟩)
   obtain⟨ar,aM⟩:=Xl y az ym ao;exact⟨by rw[ar];exact KK _,by rw[aM]⟩
 |some fn=>
  rw[hm]at h;simp only at h⊢;refine⟨?_,trivial⟩;unfold x' at h⊢;split at h
  ·split at h
   next ci=>cases h;rw[if_pos ci,kl,w5 _ _ ao]
   ·cases h
  ·cases h
def Xm{x:ay}{c:Nat}(y:Chunk)(aj:c∉bj x):h6 (H.set c y) x=h6 H x:=by
 cases x with
 |ref d g off len=>
  have aP:c≠d:=by simpa[bj]using aj
  simp only[h6,dW aP]
 |i z=>cases z<;>rfl
 |_=>rfl
def aoC{x:ay}{c:Nat}(y:Chunk)(aj:c∉bj x):kD (H.set c y) x=kD H x:=by
 cases x with
 |i z=>cases z<;>rfl
 |ref d g off len=>exact Xm (H:=H) y aj
 |_=>rfl
def aoD{t:TypeId}{I v:ay}{aq:ab}{c:Nat}(y:Chunk)(h:oK E H t I v=j aq)(ax:c∉bj I)(bo:c∉bj v):oK E (H.set c y) t I v=j (aq.set c y):=by
 unfold oK at h⊢;split at h
 next n aI=>
  split at h
  next p=>
   simp only[p,and_self,if_true];cases I with
   |x q=>exact aos y h (by simpa[bj]using ax) bo
   |ptr d g r k=>
    have aP:c≠d:=by simpa[bj]using ax
    have rb:c∉bI (cU v):=λ h=>bo (Xf h)
    simp only[dW aP]at h⊢;split at h
    next he=>
     rw[he];split at h
     next U=>simp only[br]at h;subst h;simp only[U,if_true];rw[oZ _ _ aP]
     ·cases h
    next he=>
     rw[he];split at h
     next xs H1 hv=>
      rw[KS y hv rb];simp only[dW aP]at h⊢;split at h
      next qi=>
       rw[qi];split at h
       next az=>
        split at h
        next row b2=>simp only[br]at h;subst h;simp only;rw[if_pos az,b2];simp only;rw[oZ _ _ aP]
        ·cases h
       ·cases h
      ·cases h
     ·cases h
    ·cases h
   |_=>cases h
  ·cases h
 ·cases h
def Xn{t t2:TypeId}{s x v:ay}{aq:ab}{c:Nat}(y:Chunk)(h:hR E H t t2 s x=j (v,aq))(aU:c∉bj s)(ap:c∉bj x)(ao:c<H.length):hR E (H.set c y) t t2 s x=j (v,aq.set c y):=by
 unfold hR at h⊢;rw[aoC y ap];split at h;rotate_left
 ·cases h
 rename_i e he;split at h;rotate_left
 ·cases h
 rename_i z b eB ds new Pr bp an hzero qk;split at h;rotate_left
 ·cases h
 rename_i aj;rw[if_pos aj];cases s with
 |i u=>
  cases u with
  |af aD rows ex=>
   simp only at h⊢;split at h
   next p=>simp only[br,bM]at h;obtain⟨rfl,rfl⟩:=h;rw[if_pos p,kl,w5 _ _ ao]
   ·cases h
  |_=>cases h
 |ref d g off len=>
  have aP:c≠d:=by simpa[bj]using aU
  simp only[dW aP]at h⊢;split at h
  next qi=>
   rw[qi];split at h
   next p=>simp only[br,bM]at h;obtain⟨rfl,rfl⟩:=h;simp only;rw[if_pos p,oZ _ _ aP]
   ·cases h
  next qi=>
   rw[qi];split at h
   next p=>simp only[br,bM]at h;obtain⟨rfl,rfl⟩:=h;simp only;rw[if_pos p,kl,w5 _ _ ao]
   ·cases h
  ·cases h
 |_=>cases h
def aoE{t t2:TypeId}{z:Nat}{s x v:ay}{aq:ab}{c:Nat}(y:Chunk)(h:rU E H t t2 z s x=j (v,aq))(aU:c∉bj s)(ap:c∉bj x)(ao:c<H.length):rU E (H.set c y) t t2 z s x=j (v,aq.set c y):=by
 unfold rU at h⊢;split at h
 ·exact Xn y h aU ap ao
 ·exact aou y h aU ap ao
def aoF{t:TypeId}{d x v:ay}{aq:ab}{c:Nat}(y:Chunk)(h:m' E H t d x=j (v,aq))(aU:c∉bj d)(ap:c∉bj x):m' E (H.set c y) t d x=j (v,aq.set c y):=by
 unfold m' at h⊢;rw[Xm y ap];split at h;rotate_left
 ·cases h
 rename_i e he;split at h;rotate_left
 ·cases h
 rename_i z im g off len ds new Pr bp GY;split at h;rotate_left
 ·cases h
 rename_i aj;rw[if_pos aj];have aP:c≠im:=by simpa[bj]using aU
 simp only[dW aP]at h⊢;unfold Ao at h⊢;split at h
 next qi=>
  rw[qi];split at h
  next p=>simp only[br,bM]at h;obtain⟨rfl,rfl⟩:=h;simp only;rw[if_pos p,oZ _ _ aP]
  ·cases h
 ·cases h
def Xo{t:TypeId}{m k x v:ay}{aq:ab}{c:Nat}(y:Chunk)(h:nK E H t m k x=j (v,aq))(aj:c∉bj m):nK E (H.set c y) t m k x=j (v,aq.set c y):=by
 unfold nK at h⊢;split at h
 next d=>
  have aP:c≠d:=by simpa[bj]using aj
  simp only[dW aP];unfold tP at h⊢;split at h
  next es he=>
   rw[he];simp only;split at h
   next jK e cI p=>
    split at h
    next U=>simp only[dp,bM]at h;obtain⟨ix,az,rfl,rfl⟩:=h;simp only[p,U,and_self,if_true,az,eH,oZ _ _ aP]
    ·cases h
   ·cases h
  ·cases h
 ·cases h
def Xp{c:Nat}(y:Chunk){bB:dI}:∀{h':cq} {H H1:ab} {cs e5:aZ},j2 bB h' H cs=j (e5,H1)→c∉bI cs→j2 bB h' (H.set c y) cs=j (e5,H1.set c y)
 |[],H,H1,cs,e5,h,aj=>by simp only[j2,br,bM]at h⊢;obtain⟨rfl,rfl⟩:=h;exact⟨rfl,rfl⟩
 |ac::h',H,H1,cs,e5,h,aj=>by
  simp only[j2]at h⊢;split at h
  next a aF=>
   split at h
   next x bG aN=>rw[DY y aN λ h=>aj (mH.2 ⟨ac,a,aF,h⟩)];exact Xp y h λ h=>aj (PY h)
   ·cases h
  ·cases h
def aoG{c:Nat}(y:Chunk){t:TypeId}{H H1:ab}{v v1:ay}{h':cq}(h:k4 E t H v h'=j (v1,H1))(aj:c∉bj v):k4 E t (H.set c y) v h'=j (v1,H1.set c y):=by
 cases h' with
 |nil=>simp only[k4,br,bM]at h⊢;obtain⟨rfl,rfl⟩:=h;exact⟨rfl,rfl⟩
 |cons ac h'=>
  simp only[k4,wu]at h;split at h
  next cs bG aN=>simp only[br,bM]at h;obtain⟨rfl,rfl⟩:=h;simp only[k4,wu,Xp y aN (by rw[W6];exact aj)]
  ·cases h
def KT{R:Fr}{al:Op}{v:ay}{aq:ab}{c:Nat}(y:Chunk)(h:cw E aO al R H=j (v,aq))(aV:e1 E al=ah)(hv:en al=J)(aj:c∉df E R H al)(fF:c+lA∉df E R H al)(ao:c<H.length):
  cw E aO al R (H.set c y)=j (v,aq.set c y)∧df E R (H.set c y) al=df E R H al:=by
 cases al with
 |store t a x=>
  simp only[df,gA,not_or]at aj;rw[aoq]at h⊢;unfold x4 at h;split at h
  next v1 H1 bp=>rw[aoG y bp aj.2];simp only[x4,dp,bM]at h⊢;obtain⟨bG,p,rfl,rfl⟩:=h;exact⟨⟨_,aoD y p aj.1 (λ h=>aj.2 ((KM bp).2 _ h)),rfl,rfl⟩,rfl⟩
  ·cases h
 |convert s d x=>
  have du:∀H,cw E aO (.convert s d x) R H=dF E R H (.convert s d x):=λ H=>by simp only[cw,aV,if_true]
  rw[du]at h⊢;simp only[dF]at h⊢;split at h
  next l ap=>
   split at h
   next p=>
    rw[if_pos p];unfold Ap at h⊢;split at h
    ·simp only[br,bM]at h;obtain⟨rfl,rfl⟩:=h;rw[kl,w5 _ _ ao];exact⟨rfl,rfl⟩
    ·simp only[br,bM]at h;obtain⟨rfl,rfl⟩:=h;rw[kl,w5 _ _ ao];exact⟨rfl,rfl⟩
    ·cases h
   ·cases h
  ·cases h
 |slice t x b5 aB lv=>
  cases lv with
  |none=>simp[e1]at aV
  |some m=>
   have du:∀H,cw E aO (.slice t x b5 aB (j m)) R H=dF E R H (.slice t x b5 aB (j m)):=λ H=>by simp only[cw,aV,if_true]
   rw[du]at h⊢;simp only[dF]at h⊢;simp only[df]at aj;split at h
   next z H1 bp=>
    simp only[dp,bM]at h;obtain⟨v1,p,rfl,rfl⟩:=h;rw[DY y bp aj];simp only[dp,bM];have aU:j1 E (H1.set c y) t (.i z) (b5.map (bw E R)) (aB.map (bw E R)) (j (bw E R m))=j1 E H1 t (.i z) (b5.map (bw E R)) (aB.map (bw E R)) (j (bw E R m)):=by unfold j1;cases z<;>rfl
    exact⟨⟨v1,by rw[aU];exact p,aX⟩,by first|rfl|trivial⟩
   ·cases h
 |range t x=>
  have du:∀H,cw E aO (.range t x) R H=dF E R H (.range t x):=λ H=>by simp only[cw,aV,if_true]
  rw[du]at h⊢;simp only[dF]at h⊢;split at h
  next l ap=>
   split at h
   next p=>simp only[br,bM]at h;obtain⟨rfl,rfl⟩:=h;rw[if_pos p,kl,w5 _ _ ao];exact⟨rfl,rfl⟩
   ·cases h
  ·cases h
 |makeMap t r=>
  cases r with
  |some r=>simp only[cw,aV,if_true,dF]at h;cases h
  |none=>simp[en]at hv
 |mapUpdate t m k x=>
  have du:∀H,cw E aO (.mapUpdate t m k x) R H=dF E R H (.mapUpdate t m k x):=λ H=>by simp only[cw,aV,if_true]
  rw[du]at h⊢;simp only[dF]at h⊢;simp only[df,gA,not_or]at aj;exact⟨Xo y h aj.1,rfl⟩
 |insert t m k x=>
  have du:∀H,cw E aO (.insert t m k x) R H=dF E R H (.insert t m k x):=λ H=>by simp only[cw,aV,if_true]
  rw[du]at h⊢;simp only[dF]at h⊢;simp only[df,gA,not_or]at aj;exact⟨Xo y h aj.1,rfl⟩
 |next it b=>
  have du:∀H,cw E aO (.next it b) R H=dF E R H (.next it b):=λ H=>by simp only[cw,aV,if_true]
  rw[du]at h⊢;simp only[dF]at h⊢;simp only[df]at aj;split at h
  next d g r ap=>
   rw[ap]at aj;have aP:c≠d:=by simpa[bj]using aj
   simp only[dW aP];split at h
   next s pos he=>
    rw[he];simp only;split at h
    next p=>simp only[br,bM]at h;obtain⟨rfl,rfl⟩:=h;rw[if_pos p,oZ _ _ aP];exact⟨rfl,rfl⟩
    next p=>simp only[br,bM]at h;obtain⟨rfl,rfl⟩:=h;rw[if_neg p];exact⟨rfl,rfl⟩
   ·cases h
  ·cases h
 |call um=>
  obtain⟨callee,args,fx⟩:=um;cases callee with
  |value f=>
   simp only[cw]at h⊢;simp only[df]at aj fF⊢;split at h
   next g bW aR=>
    rw[aR]at aj fF;simp only at aj fF⊢;split at h
    next qt=>simp only[qt,if_true];exact aoB y h aj fF ao
    ·cases h
   ·cases h
  |builtin b=>
   cases b with
   |append=>
    have du:∀H,cw E aO (.call ⟨.builtin .append,args,fx⟩) R H=dF E R H (.call ⟨.builtin .append,args,fx⟩):=λ H=>rfl
    rw[du]at h⊢;simp only[dF]at h⊢;simp only[df]at aj;split at h
    next s x t t2 p U=>
     rw[p]at aj;simp only[fC,fN,bI,dC,gA,not_or]at aj;split at h
     ·exact⟨Xn y h aj.1 aj.2 ao,rfl⟩
     ·exact⟨aoE y h aj.1 aj.2 ao,rfl⟩
    next an _ _=>cases an
    ·cases h
   |copy=>
    have du:∀H,cw E aO (.call ⟨.builtin .copy,args,fx⟩) R H=dF E R H (.call ⟨.builtin .copy,args,fx⟩):=λ H=>rfl
    rw[du]at h⊢;simp only[dF]at h⊢;simp only[df]at aj;split at h
    next an _ _=>cases an
    next d x t t2 p U=>
     rw[p]at aj;simp only[fC,fN,bI,dC,gA,not_or]at aj;split at h
     ·exact⟨aoF y h aj.1 aj.2,rfl⟩
     ·exact⟨aov y h aj.1 aj.2,rfl⟩
    ·cases h
   |_=>simp[e1]at aV
  |_=>simp[e1]at aV
 |alloc|box|buildSlice|makeSlice=>simp[en]at hv
 |_=>simp[e1]at aV
def Xq:∀{a b:bm},a≠b→rP b a=!rP a b
 |[],[],h=>absurd rfl h
 |[],_::_,_=>rfl
 |_::_,[],_=>rfl
 |a::r,b::t,h=>by
  simp only[rP];by_cases p:a.toNat<b.toNat
  ·rw[if_pos p,if_neg (show¬b.toNat<a.toNat by omega),if_neg (show¬b.toNat=a.toNat by omega)];rfl
  ·by_cases U:b.toNat<a.toNat
   ·rw[if_pos U,if_neg p,if_neg (show¬a.toNat=b.toNat by omega)];rfl
   ·have az:a.toNat=b.toNat:=aa;rw[if_neg p,if_neg U,if_pos az,if_pos az.symm];have dc:a=b:=UInt8.toNat_inj.1 az;subst dc;exact Xq λ e=>h (by rw[e])
def Xr:∀{a b c:bm},rP a b=ah→rP b c=ah→rP a c=ah
 |[],[],_,h,_=>by cases h
 |[],_::_,[],_,h=>by simp[rP]at h
 |[],_::_,_::_,_,_=>rfl
 |_::_,[],_,h,_=>by simp[rP]at h
 |_::_,_::_,[],_,h=>by simp[rP]at h
 |a::r,b::t,c::u,h,k=>by
  simp only[rP]at h k⊢;by_cases p:a.toNat<b.toNat
  ·by_cases bK:b.toNat<c.toNat
   ·rw[if_pos aa]
   ·rw[if_neg bK]at k;by_cases bJ:b.toNat=c.toNat
    ·rw[if_pos aa]
    ·rw[if_neg bJ]at k;cases k
  ·rw[if_neg p]at h;by_cases U:a.toNat=b.toNat
   ·rw[if_pos U]at h;by_cases bK:b.toNat<c.toNat
    ·rw[if_pos aa]
    ·rw[if_neg bK]at k;by_cases bJ:b.toNat=c.toNat
     ·rw[if_pos bJ]at k;rw[if_neg aa,if_pos aa];exact Xr h k
     ·rw[if_neg bJ]at k;cases k
   ·rw[if_neg U]at h;cases h
def aoH{a b:bx}(h:gT a b=j J):(∃k x y,a=.v (.int k x)∧b=.v (.int k y)∧x≠y)∨∃s t,a=.str s∧b=.str t∧s≠t:=by
 unfold gT at h;split at h
 ·split at h
  next aA=>subst aA;exact .inl ⟨_,_,_,rfl,rfl,of_decide_eq_false (q6 h)⟩
  ·cases h
 ·exact .inr ⟨_,_,rfl,rfl,of_decide_eq_false (q6 h)⟩
 ·cases h
def Qb{a b:bx}(h:oc a b=ah):(∃k dr x y,a=.v (.int k x)∧b=.v (.int dr y)∧x<y)∨∃s t,a=.str s∧b=.str t∧rP s t=ah:=by
 unfold oc at h;split at h
 ·exact .inl ⟨_,_,_,_,rfl,rfl,of_decide_eq_true h⟩
 ·exact .inr ⟨_,_,rfl,rfl,h⟩
 ·cases h
def Xs{a b:bx}(h:gT a b=j J):oc b a=!oc a b:=by
 rcases aoH h with⟨k,x,y,rfl,rfl,aI⟩|⟨s,t,rfl,rfl,aI⟩
 ·simp only[oc];by_cases p:x<y
  ·rw[decide_eq_true p,decide_eq_false aa];rfl
  ·rw[decide_eq_false p,decide_eq_true aa];rfl
 ·exact Xq aI
def Xt{a b c:bx}(h:oc a b=ah)(k:oc b c=ah):oc a c=ah:=by
 rcases Qb h with⟨bK,bJ,x,y,rfl,rfl,aI⟩|⟨s,t,rfl,rfl,aI⟩
 ·rcases Qb k with⟨cL,e4,z,u,e,rfl,hm⟩|⟨s,t,e,_,_⟩
  ·cases e;exact decide_eq_true aa
  ·cases e
 ·rcases Qb k with⟨cL,e4,z,u,e,_,_⟩|⟨s2,t2,e,rfl,hm⟩
  ·cases e
  ·cases e;exact Xr aI hm
def Xu{bK bJ:bx}(v1 v2:ay)(aA:gT bK bJ=j J):∀es:fa,lx bJ v2 (lx bK v1 es)=lx bK v1 (lx bJ v2 es)
 |[]=>by simp only[lx,Xs aA];cases oc bK bJ<;>rfl
 |I::r=>by
  have bA:=Xs aA;cases p:oc bK I.1<;>cases U:oc bJ I.1
  ·simp only[lx,p,U,gk,if_false,Xu v1 v2 aA r]
  ·have az:oc bK bJ=J:=by
    cases h:oc bK bJ with
    |false=>rfl
    |true=>rw[Xt h U]at p;cases p
   simp only[lx,p,U,az,gk,if_false,if_true]
  ·have az:oc bJ bK=J:=by
    cases h:oc bJ bK with
    |false=>rfl
    |true=>rw[Xt h p]at U;cases U
   simp only[lx,p,U,az,gk,if_false,if_true]
  ·simp only[lx,p,U,if_true];rw[bA];cases oc bK bJ<;>simp[p,U]
def Qc{bK bJ:bx}(v1 v2:ay)(aA:gT bJ bK=j J):∀es:fa,lx bK v1 (kB bJ v2 es)=kB bJ v2 (lx bK v1 es)
 |[]=>by simp[lx,kB,aA]
 |I::r=>by
  simp only[lx,kB,Oi];split
  ·simp[kB,aA]
  ·simp only[kB,Qc v1 v2 aA r]
def Xv{bK bJ:bx}(v1 v2:ay)(aA:gT bK bJ=j J):∀es:fa,kB bJ v2 (kB bK v1 es)=kB bK v1 (kB bJ v2 es)
 |[]=>rfl
 |I::r=>by
  simp only[kB,Xv v1 v2 aA r]
  congr 1
  have va:gT bJ bK=j J:=by rw[Gp];exact aA
  obtain⟨ac,u⟩:=I;by_cases p:gT bK ac=j ah
  ·have ar:=C9 p;subst ar;simp[p,va]
  ·by_cases U:gT bJ ac=j ah
   ·simp[p,U,aA]
   ·simp[p,U]
def KU{k bK:bx}(v1:ay)(aA:gT k bK=j J):∀es:fa,ik k (lx bK v1 es)=ik k es
 |[]=>by simp[lx,ik,aA]
 |(ac,u)::r=>by
  simp only[lx];split
  ·simp[ik,aA]
  ·simp only[ik,KU v1 aA r]
def Hn{k bK:bx}(v1:ay)(aA:gT k bK=j J):∀es:fa,ik k (kB bK v1 es)=ik k es
 |[]=>rfl
 |(ac,u)::r=>by
  simp only[kB];by_cases p:gT bK ac=j ah
  ·have ar:=C9 p;subst ar;simp only[p,if_true,ik,aA,Hn v1 aA r]
  ·simp only[p,if_false,ik,Hn v1 aA r]
def aoI{bK bJ:bx}{v1 v2:ay}{es A C:fa}(aA:gT bK bJ=j J)(p:k3 bK v1 es=j A)(U:k3 bJ v2 A=j C):∃B,k3 bJ v2 es=j B∧k3 bK v1 B=j C:=by
 have va:gT bJ bK=j J:=by rw[Gp];exact aA
 unfold k3 at p;split at p
 next f1=>
  cases p;unfold k3 at U;rw[KU v1 va]at U;split at U
  next f2=>cases U;exact⟨lx bJ v2 es,by unfold k3;rw[f2],by unfold k3;rw[KU v2 aA,f1,Xu v1 v2 aA]⟩
  next f2=>cases U;exact⟨kB bJ v2 es,by unfold k3;rw[f2],by unfold k3;rw[Hn v2 aA,f1,Qc v1 v2 va]⟩
  ·cases U
 next f1=>
  cases p;unfold k3 at U;rw[Hn v1 va]at U;split at U
  next f2=>cases U;exact⟨lx bJ v2 es,by unfold k3;rw[f2],by unfold k3;rw[KU v2 aA,f1,Qc v2 v1 aA]⟩
  next f2=>cases U;exact⟨kB bJ v2 es,by unfold k3;rw[f2],by unfold k3;rw[Hn v2 aA,f1,Xv v1 v2 aA]⟩
  ·cases U
 ·cases p
def Qd{t:TypeId}{m k x v:ay}{aq:ab}(h:nK E H t m k x=j (v,aq)):∃c cI es ix,m=.dV c∧k=.i cI∧v=.dead∧c<H.length∧H[c]?=j (.map es)∧k3 cI x es=j ix∧aq=H.set c (.map ix)∧
  ∀(bG:ab) (Qe Qf:fa),bG[c]?=j (.map Qe)→k3 cI x Qe=j Qf→nK E bG t m k x=j (.dead,bG.set c (.map Qf)):=by
 unfold nK at h;split at h
 next c=>
  unfold tP at h;split at h
  next es aT=>
   split at h
   next jK e cI hm=>
    split at h
    next aA=>simp only[dp,bM]at h;obtain⟨ix,ax,rfl,rfl⟩:=h;refine⟨c,cI,es,ix,rfl,rfl,rfl,(bQ.1 aT).1,aT,ax,rfl,λ bG Qe Qf p U=>?_⟩;simp only[nK,tP,p,hm,aA,and_self,if_true,U,eH]
    ·cases h
   ·cases h
  ·cases h
 ·cases h
def Xw{R:Fr}{al:Op}{v:ay}{aq:ab}(aB:C7 al=ah)(h:cw E aO al R H=j (v,aq)):∃c pH,v=.dead∧aq=H.set c pH∧(c∈df E R H al∧c+lA∈df E R H al)∧c<H.length∧
  (∀bG:ab,bG[c]?=H[c]?→cw E aO al R bG=j (.dead,bG.set c pH))∧∀bG:ab,df E R bG al=df E R H al:=by
 have main:∀(t:TypeId) (m k x:Operand),(∀H,cw E aO al R H=nK E H t (bw E R m) (bw E R k) (bw E R x))→(∀H:ab,df E R H al=bj (bw E R m)++(bj (bw E R m)).map (·+lA))→∃c pH,v=.dead∧aq=H.set c pH∧(c∈df E R H al∧c+lA∈df E R H al)∧c<H.length∧
   (∀bG:ab,bG[c]?=H[c]?→cw E aO al R bG=j (.dead,bG.set c pH))∧∀bG:ab,df E R bG al=df E R H al:=by
  intro t m k x he bA;rw[he]at h;obtain⟨c,cI,es,ix,ar,aM,rfl,bZ,dx,pz,rfl,KV⟩:=Qd h;exact⟨c,_,rfl,rfl,⟨by rw[bA,ar];simp[bj],by rw[bA,ar];simp[bj]⟩,bZ,λ bG U=>by rw[he];exact KV bG es ix (by rw[U];exact dx) pz,λ bG=>by rw[bA,bA]⟩
 cases al with
 |insert t m k x=>exact main t m k x (λ H=>rfl) λ H=>rfl
 |mapUpdate t m k x=>exact main t m k x (λ H=>rfl) λ H=>rfl
 |_=>simp[C7]at aB
def Xx{c:Nat}{ch:Chunk}{L:ab}(h:L[c]?=j ch):L.set c ch=L:=by obtain⟨p,U⟩:=bQ.1 h;rw[←U];exact Dm p
end
section
variable{E:Env}{aO:dY}{ops:Array Oper}
noncomputable def j9(E:Env)(aO:dY)(ops:Array Oper)(c:Nat)(al:Oper)(R:Fr)(H:ab):Option (ay×ab×cq):=
 match gZ ops.toList R al with
 |some ah=>match kf E aO c al.op R H with
  |some (v,aq)=>j (v,aq,tT E c R H al.op++ms H.length (aq.length-H.length))
  |none=>o
 |some J=>j (.bl [],H,[])
 |none=>o
def aoJ{c:Nat}{al:Oper}{r:eh}{R:Fr}{H:ab}:ju E aO ops.toList c (al::r) R H=match j9 E aO ops c al R H with
  |some (v,aq,T)=>match ju E aO ops.toList (oe c al.op) r (ee al.dst v R) aq with
   |some (d',bG,dh)=>j (d',bG,T::dh)
   |none=>o
  |none=>o:=by
 simp only[ju,j9];cases gZ ops.toList R al with
 |none=>rfl
 |some b=>
  cases b with
  |false=>rfl
  |true=>cases kf E aO c al.op R H<;>rfl
def Xy{c:Nat}{R bY:Fr}{H:ab}{op:Op}(h:ri E R bY op):kf E aO c op R H=kf E aO c op bY H:=by unfold kf;rw[WW h,PW h]
def Xz{c:Nat}{R bY:Fr}{H:ab}{op:Op}(h:ri E R bY op):tT E c R H op=tT E c bY H op:=by unfold tT;rw[PX h]
def aoK{c:Nat}{R bY:Fr}(h:iM R bY)(al:Oper)(H:ab):j9 E aO ops c al R H=j9 E aO ops c al bY H:=by
 unfold j9;have aF:ri E R bY al.op:=λ x _=>W8 h x
 rw[W9 h,Xy aF,Xz aF]
def uo{c:Nat}{R:Fr}{al:Oper}{d:cu}{v:ay}{H:ab}(h:∀k,d=j k→k∉al.looksAt ops):j9 E aO ops c al (ee d v R) H=j9 E aO ops c al R H:=by unfold j9;rw[W_ h,Xy (KN h),Xz (KN h)]
def yU{c:Nat}{al:Oper}{R:Fr}{aq:ab}(aR:gZ ops.toList R al=j J):j9 E aO ops c al R aq=j (.bl [],aq,[]):=by unfold j9;rw[aR]
def pI{c:Nat}{al:Oper}(h:en al.op=J)(R:Fr)(H:ab):j9 E aO ops c al R H=ho E aO ops al R H:=by unfold j9 ho kf tT;simp only[h]<;>rfl
def Qg{c:Nat}{al:Oper}(h:en al.op=ah){R:Fr}{H:ab}(aR:gZ ops.toList R al=j ah){v:ay}{H1:ab}{T:cq}(bo:j9 E aO ops c al R H=j (v,H1,T)):
  ∃k ch,iT (dF E R [] al.op)=j (k,ch)∧H[c]?=j nL∧v=u7 c k∧H1=H.set c ch∧T=[c,c+lA]:=by
 unfold j9 kf tT at bo;rw[aR,h]at bo;simp only at bo;split at bo
 next gJ aq he=>
  simp only[br,bM]at bo;obtain⟨rfl,rfl,rfl⟩:=bo;unfold Gj at he;split at he
  next aV=>
   split at he
   next k ch aN=>simp only[br,bM]at he;obtain⟨rfl,rfl⟩:=he;exact⟨k,ch,aN,aV,rfl,rfl,aX⟩
   ·cases he
  ·cases he
 ·cases bo
def D1{c:Nat}{al:Oper}(h:en al.op=ah){R:Fr}{H:ab}(aR:gZ ops.toList R al=j ah){k:Option cu}{ch:Chunk}(aN:iT (dF E R [] al.op)=j (k,ch))(aV:H[c]?=j nL):
  j9 E aO ops c al R H=j (u7 c k,H.set c ch,[c,c+lA]):=by
 unfold j9 kf tT;rw[aR,h,aV,aN];simp[Gj,nL]
def D2{al:Op}(h:en al=ah):e1 E al=ah:=by cases al<;>first|rfl|simp[en]at h
structure XA (E:Env) (ops:Array Oper) (x y:Oper) (nt nu:List Nat):Prop where
 apart:x.apart ops y=ah
 two:e1 E x.op=ah→e1 E y.op=ah→en x.op=ah∨en y.op=ah∨Gk x.op y.op=ah
 float:s0 x.op y.op=J→(e1 E x.op=ah∧(lC y.op=ah∨e1 E y.op=ah))∨(e1 E y.op=ah∧(lC x.op=ah∨e1 E x.op=ah))→rZ nt nu=ah∧rZ nu nt=ah
def XB{al:Oper}{R:Fr}{H aq:ab}{v:ay}{T:cq}(aR:gZ ops.toList R al=j ah)(h:ho E aO ops al R H=j (v,aq,T)):cw E aO al.op R H=j (v,aq)∧T=df E R H al.op++ms H.length (aq.length-H.length):=by
 unfold ho at h;rw[aR]at h;simp only at h;split at h
 next gJ oh mK=>simp only[br,bM]at h;obtain⟨rfl,rfl,rfl⟩:=h;exact⟨mK,rfl⟩
 ·cases h
def yV{al:Oper}{R:Fr}{H aq:ab}{v:ay}(aR:gZ ops.toList R al=j ah)(h:cw E aO al.op R H=j (v,aq)):ho E aO ops al R H=j (v,aq,df E R H al.op++ms H.length (aq.length-H.length)):=by unfold ho;rw[aR,h]
def Qh{x y:Op}(h:s0 x y=ah):∃t m k a z rm b6 b ds,x=.insert t m (.const (.int k a)) z∧y=.insert rm b6 (.const (.int k b)) ds∧a≠b:=by
 unfold s0 at h;split at h
 ·simp only[c',decide_eq_true_eq,rh,decide_eq_false_iff_not]at h;obtain⟨rfl,U⟩:=h;exact⟨_,_,_,_,_,_,_,_,_,rfl,rfl,U⟩
 ·cases h
def Ho{x y:Op}(h:en x=ah∨en y=ah):s0 x y=J:=by
 cases aA:s0 x y with
 |false=>rfl
 |true=>obtain⟨_,_,_,_,_,_,_,_,_,rfl,rfl,_⟩:=Qh aA;rcases h with h|h<;>simp[en]at h
def aoL{x y:Oper}{R:Fr}{H H1 bG:ab}{j3 lE:ay}{nt nu:cq}(si:gZ ops.toList R x=j ah)(sj:gZ ops.toList R y=j ah)(ap:ho E aO ops x R H=j (j3,H1,nt))(bb:ho E aO ops y R H1=j (lE,bG,nu))
  (w2:e1 E x.op=ah)(te:e1 E y.op=ah)(lH:en x.op=J)(lb:en y.op=J)(ax:Gk x.op y.op=ah)(dO:s0 x.op y.op=J→rZ nt nu=ah∧rZ nu nt=ah):
  ∃rk,ho E aO ops y R H=j (lE,rk,nu)∧ho E aO ops x R rk=j (j3,bG,nt):=by
 have PZ:=DU ap;have P0:=DU bb;obtain⟨ex,rfl⟩:=XB si ap;obtain⟨KW,rfl⟩:=XB sj bb;by_cases aA:s0 x.op y.op=ah
 ·obtain⟨t,m,k,a,z,rm,b6,b,ds,ar,aM,dc⟩:=Qh aA;rw[ar]at ex;rw[aM]at KW;have gK:nK E H t (bw E R m) (.i (.v (.int k a))) (bw E R z)=j (j3,H1):=ex;have aoM:nK E H1 rm (bw E R b6) (.i (.v (.int k b))) (bw E R ds)=j (lE,bG):=KW;obtain⟨c,cI,es,ix,hD,a2,rfl,a3,a4,a5,rfl,XC⟩:=Qd gK;obtain⟨d,aVc,fb,Bb,fm,dZ,rfl,KG,DL,XD,rfl,XE⟩:=Qd aoM;cases a2;cases dZ;have aU:gT (.v (.int k a)) (.v (.int k b))=j J:=by simp[gT,dc]
  by_cases fV:c=d
  ·subst fV;rw[k9 a3]at DL;cases DL;obtain⟨B,nT,sh⟩:=aoI aU a5 XD;have ao:(H.set c (.map B)).length=H.length:=aX;refine⟨H.set c (.map B),?_,?_⟩
   ·have:=yV (aO:=aO) sj (show cw E aO y.op R H=j (.dead,H.set c (.map B))from by rw[aM];exact XE H es B a4 nT);rw[this,aM];simp[df]
   ·have:=yV (aO:=aO) si (show cw E aO x.op R (H.set c (.map B))=j (.dead,(H.set c (.map B)).set c (.map Bb))from by rw[ar];exact XC _ B Bb (k9 a3) sh);rw[this,ar,wI,wI];simp[df]
  ·rw[dW fV]at DL;refine⟨H.set d (.map Bb),?_,?_⟩
   ·have:=yV (aO:=aO) sj (show cw E aO y.op R H=j (.dead,H.set d (.map Bb))from by rw[aM];exact XE H fb Bb DL XD);rw[this,aM];simp[df]
   ·have:=yV (aO:=aO) si (show cw E aO x.op R (H.set d (.map Bb))=j (.dead,(H.set d (.map Bb)).set c (.map ix))from by rw[ar];exact XC _ es ix (by rw[dW (bi fV)];exact a4) a5);rw[this,ar,oZ _ _ fV];simp[df]
 ·have va:s0 x.op y.op=J:=by simpa using aA
  obtain⟨t1,t2⟩:=dO va;unfold Gk at ax;simp only[va,yW,yq,c',rh]at ax;rcases ax with⟨kd,XF⟩|⟨XF,kd⟩
  ·obtain⟨c,pH,rfl,rfl,⟨cm,Qi⟩,cp,c3,fU⟩:=Xw kd ex;have hold:H[c]?=j H[c]:=eC cp;have aj:c∉df E R (H.set c pH) y.op++ms (H.set c pH).length (bG.length-(H.set c pH).length):=rj t1 (gA.2 (.inl cm));have ht:c∉df E R (H.set c pH) y.op:=λ h=>aj (gA.2 (.inl h))
   have fF:c+lA∉df E R (H.set c pH) y.op:=λ h=>rj t1 (gA.2 (.inl Qi)) (gA.2 (.inl h))
   obtain⟨s1,s2⟩:=KT H[c] KW te lb ht fF (by simpa using cp);have w4:(H.set c pH).set c H[c]=H:=by rw[wI];exact Xx hold
   rw[w4]at s1 s2;have XG:bG[c]?=j pH:=by rw[P0.2 c aj,k9 cp]
   have iz:c<bG.length:=(bQ.1 XG).1;refine⟨bG.set c H[c],?_,?_⟩
   ·rw[yV sj s1,s2];simp
   ·rw[yV si (c3 (bG.set c H[c]) (by rw[k9 iz,hold])),fU (bG.set c H[c]),wI,Xx XG];simp
  ·obtain⟨c,pH,rfl,rfl,⟨cm,Qi⟩,cp,c3,fU⟩:=Xw XF KW;have aj:c∉df E R H x.op++ms H.length (H1.length-H.length):=rj t2 (gA.2 (.inl cm));have ht:c∉df E R H x.op:=λ h=>aj (gA.2 (.inl h))
   have pE:=PZ.2 c aj;have bg:c<H.length:=by have p:H1[c]?=j H1[c]:=eC cp;rw[pE]at p;exact(bQ.1 p).1
   have fF:c+lA∉df E R H x.op:=λ h=>rj t2 (gA.2 (.inl Qi)) (gA.2 (.inl h))
   obtain⟨s1,s2⟩:=KT pH ex w2 lH ht fF bg;refine⟨H.set c pH,?_,?_⟩
   ·rw[yV sj (c3 H pE.symm),fU H];simp
   ·rw[yV si s1,s2];simp
def aoN{x y:Oper}{qw pJ:Nat}{R:Fr}{H H1 bG:ab}{j3 lE:ay}{nt nu:cq}(ap:j9 E aO ops qw x R H=j (j3,H1,nt))(bb:j9 E aO ops pJ y (ee x.dst j3 R) H1=j (lE,bG,nu))
  (aj:XA E ops x y nt nu):∃rk,j9 E aO ops pJ y R H=j (lE,rk,nu)∧j9 E aO ops qw x (ee y.dst lE R) rk=j (j3,bG,nt)∧iM (ee y.dst lE (ee x.dst j3 R)) (ee x.dst j3 (ee y.dst lE R)):=by
 obtain⟨hD,a2,a3⟩:=Oper.apart_spec aj.apart;have hv:iM (ee y.dst lE (ee x.dst j3 R)) (ee x.dst j3 (ee y.dst lE R)):=iM.swap R (λ k aA e=>a2 k e aA) _ _;cases lH:en x.op with
 |false=>
  cases lb:en y.op with
  |false=>
   rw[pI lH]at ap;rw[pI lb]at bb;by_cases yX:e1 E x.op=ah∧e1 E y.op=ah
   ·have aoO:Gk x.op y.op=ah:=by
     rcases aj.two yX.1 yX.2 with e|e|e
     ·rw[lH]at e;cases e
     ·rw[lb]at e;cases e
     ·exact e
    rw[vq hD]at bb;cases lG:gZ ops.toList R x with
    |none=>unfold ho at ap;rw[lG]at ap;cases ap
    |some si=>
    cases la:gZ ops.toList R y with
    |none=>unfold ho at bb;rw[la]at bb;cases bb
    |some sj=>
    cases si with
    |false=>rw[yP (H:=H) lG]at ap;simp only[br,bM]at ap;obtain⟨rfl,rfl,rfl⟩:=ap;exact⟨bG,by rw[pI lb];exact bb,by rw[pI lH,vq a3];exact yP (H:=H) lG,hv⟩
    |true=>
    cases sj with
    |false=>rw[yP (H:=H) la]at bb;simp only[br,bM]at bb;obtain⟨rfl,rfl,rfl⟩:=bb;exact⟨H,by rw[pI lb];exact yP (H:=H) la,by rw[pI lH,vq a3];exact ap,hv⟩
    |true=>
     obtain⟨rk,p,U⟩:=aoL lG la ap bb yX.1 yX.2 lH lb aoO λ aA=>aj.float aA (.inl ⟨yX.1,.inr yX.2⟩)
     exact⟨rk,by rw[pI lb];exact p,by rw[pI lH,vq a3];exact U,hv⟩
   ·have vt:s0 x.op y.op=J:=by
     cases aA:s0 x.op y.op with
     |false=>rfl
     |true=>obtain⟨_,_,_,_,_,_,_,_,_,ar,aM,_⟩:=Qh aA;exact absurd ⟨by rw[ar];rfl,by rw[aM];rfl⟩ yX
    obtain⟨rk,p,U,az⟩:=swap ap bb ⟨aj.apart,yX,λ aN=>aj.float vt (by rcases aN with⟨I,q⟩|⟨I,q⟩<;>simp[I,q])⟩;exact⟨rk,by rw[pI lb];exact p,by rw[pI lH];exact U,az⟩
  |true=>
   rw[uo hD]at bb;cases lG:gZ ops.toList R x with
   |none=>unfold j9 at ap;rw[lG]at ap;cases ap
   |some si=>
   cases la:gZ ops.toList R y with
   |none=>unfold j9 at bb;rw[la]at bb;cases bb
   |some sj=>
   cases si with
   |false=>rw[yU lG]at ap;simp only[br,bM]at ap;obtain⟨rfl,rfl,rfl⟩:=ap;exact⟨bG,bb,by rw[uo a3];exact yU lG,hv⟩
   |true=>
   cases sj with
   |false=>rw[yU la]at bb;simp only[br,bM]at bb;obtain⟨rfl,rfl,rfl⟩:=bb;exact⟨H,yU la,by rw[uo a3];exact ap,hv⟩
   |true=>
   obtain⟨k,ch,f1,f2,rfl,rfl,rfl⟩:=Qg lb la bb;rw[pI lH]at ap;by_cases w2:e1 E x.op=ah
   ·have dO:=(aj.float (Ho (.inr lb)) (.inl ⟨w2,.inr (D2 lb)⟩)).2;have Bc:pJ∉nt:=rj dO aX;have Hp:pJ+lA∉nt:=rj dO aX;have ao:=DU ap;have aT:H[pJ]?=j nL:=by rw[←ao.2 pJ Bc];exact f2
    have bg:pJ<H.length:=(bQ.1 aT).1;refine⟨H.set pJ ch,D1 lb la f1 aT,?_,hv⟩;rw[uo a3,pI lH];unfold ho at ap⊢;rw[lG]at ap⊢;simp only at ap⊢;split at ap
    next gJ aq mK=>simp only[br,bM]at ap;obtain⟨rfl,rfl,rfl⟩:=ap;simp only[gA,not_or]at Bc Hp;obtain⟨ar,aM⟩:=KT ch mK w2 lH Bc.1 Hp.1 bg;rw[ar];simp only[aM,kl]
    ·cases ap
   ·have Hb:e1 E x.op=J:=by simpa using w2
    obtain⟨rfl,_⟩:=A7 (aq:=H) Hb (λ _ _ _=>rfl) ap;refine⟨H1.set pJ ch,D1 lb la f1 f2,?_,hv⟩;rw[uo a3,pI lH];refine(A7 (aq:=H1.set pJ ch) Hb (λ ak c fA=>?_) ap).2;have dO:=(aj.float (Ho (.inr lb)) (.inr ⟨D2 lb,.inl ak⟩)).1;have:c∉[pJ,pJ+lA]:=rj dO (KO ap lG c fA);rw[dW];rintro rfl;simp at this
 |true=>
  rw[uo hD]at bb;cases lG:gZ ops.toList R x with
  |none=>unfold j9 at ap;rw[lG]at ap;cases ap
  |some si=>
  cases la:gZ ops.toList R y with
  |none=>unfold j9 at bb;rw[la]at bb;cases bb
  |some sj=>
  cases si with
  |false=>rw[yU lG]at ap;simp only[br,bM]at ap;obtain⟨rfl,rfl,rfl⟩:=ap;exact⟨bG,bb,by rw[uo a3];exact yU lG,hv⟩
  |true=>
  cases sj with
  |false=>rw[yU la]at bb;simp only[br,bM]at bb;obtain⟨rfl,rfl,rfl⟩:=bb;exact⟨H,yU la,by rw[uo a3];exact ap,hv⟩
  |true=>
  obtain⟨aVd,KX,f1,f2,rfl,rfl,rfl⟩:=Qg lH lG ap;have XH:qw<H.length:=(bQ.1 f2).1;have back:(H.set qw KX).set qw nL=H:=by rw[wI];obtain⟨p,U⟩:=bQ.1 f2;rw[←U];exact Dm p
  cases lb:en y.op with
  |true=>
   obtain⟨aVe,aoP,g1,g2,rfl,rfl,rfl⟩:=Qg lb la bb;have dO:=(aj.float (Ho (.inl lH)) (.inl ⟨D2 lH,.inr (D2 lb)⟩)).1;have gE:qw∉[pJ,pJ+lA]:=rj dO aX;have Qj:qw≠pJ:=λ e=>gE (by simp[e])
   rw[dW Qj]at g2;refine⟨H.set pJ aoP,D1 lb la g1 g2,?_,hv⟩;rw[uo a3,oZ _ _ Qj];exact D1 lH lG f1 (by rw[dW (bi Qj)];exact f2)
  |false=>
   rw[pI lb]at bb;by_cases te:e1 E y.op=ah
   ·have dO:=(aj.float (Ho (.inl lH)) (.inl ⟨D2 lH,.inr te⟩)).1;have Bc:qw∉nu:=rj dO aX;have Hp:qw+lA∉nu:=rj dO aX;have ao:=DU bb;have U:bG[qw]?=j KX:=by rw[ao.2 qw Bc,k9 XH]
    have KY:qw<bG.length:=(bQ.1 U).1;refine⟨bG.set qw nL,?_,?_,hv⟩
    ·rw[pI lb];unfold ho at bb⊢;rw[la]at bb⊢;simp only at bb⊢;split at bb
     next gJ aq mK=>simp only[br,bM]at bb;obtain⟨rfl,rfl,rfl⟩:=bb;simp only[gA,not_or]at Bc Hp;obtain⟨ar,aM⟩:=KT nL mK te lb Bc.1 Hp.1 (by simpa using XH);rw[back]at ar aM;rw[ar];simp only[aM,kl]
     ·cases bb
    ·rw[uo a3,D1 lH lG f1 (k9 KY),wI];obtain⟨az,bh⟩:=bQ.1 U;rw[←bh,Dm az]
   ·have P1:e1 E y.op=J:=by simpa using te
    have key:lC y.op=ah→∀c∈df E R (H.set qw KX) y.op,H[c]?=(H.set qw KX)[c]?:=by intro ak c fA;have dO:=(aj.float (Ho (.inl lH)) (.inl ⟨D2 lH,.inl ak⟩)).2;have:=rj dO (KO bb la c fA);rw[dW];rintro rfl;simp at this
    obtain⟨rfl,GO⟩:=A7 P1 key bb;exact⟨H,by rw[pI lb];exact GO,by rw[uo a3];exact D1 lH lG f1 f2,hv⟩
end
section
variable{E:Env}{aO:dY}{ops:Array Oper}{e2:Nat→cq}{aA:Nat→Nat}
inductive vu (E:Env) (aO:dY) (ops:Array Oper) (e2:Nat→List Nat) (aA:Nat→Nat):List Nat→Fr→ab→Fr→ab→Prop
 |nil (R:Fr) (H:ab):vu E aO ops e2 aA [] R H R H
 |cons (i:Nat) (l:List Nat) (R:Fr) (H:ab) (al:Oper) (v:ay) (H1:ab) (d':Fr) (bG:ab) (ci:ops[i]?=j al) (bo:j9 E aO ops (aA i) al R H=j (v,H1,e2 i)) (h:vu E aO ops e2 aA l (ee al.dst v R) H1 d' bG):vu E aO ops e2 aA (i::l) R H d' bG
def aoQ{l:cq}{R bY:Fr}{H:ab}{d':Fr}{bG:ab}(h:vu E aO ops e2 aA l R H d' bG):iM R bY→∃j8,iM d' j8∧vu E aO ops e2 aA l bY H j8 bG:=by
 induction h generalizing bY with
 |nil R H=>exact λ he=>⟨bY,he,.nil _ _⟩
 |cons i l R H al v H1 d' bG ci bo _ a'=>intro he;obtain⟨j8,p,U⟩:=a' (he.put al.dst v);exact⟨j8,p,.cons i l bY H al v H1 j8 bG ci (by rw[←aoK he];exact bo) U⟩
def KZ(E:Env)(ops:Array Oper)(e2:Nat→cq)(ac i:Nat):Prop:=∀x y,ops[ac]?=j x→ops[i]?=j y→XA E ops x y (e2 ac) (e2 i)
def XI:∀{dt fh:cq} {i:Nat} {R:Fr} {H:ab} {d':Fr} {bG:ab},vu E aO ops e2 aA (dt++i::fh) R H d' bG→(∀ac∈dt,KZ E ops e2 ac i)→
  ∃al v H1 j8,ops[i]?=j al∧j9 E aO ops (aA i) al R H=j (v,H1,e2 i)∧iM d' j8∧vu E aO ops e2 aA (dt++fh) (ee al.dst v R) H1 j8 bG
 |[],fh,i,R,H,d',bG,h,_=>by
  cases h with
  |cons _ _ _ _ al v H1 _ _ ci bo h=>exact⟨al,v,H1,d',ci,bo,.refl _,h⟩
 |ac::dt,fh,i,R,H,d',bG,h,aj=>by
  cases h with
  |cons _ _ _ _ x j3 H1 _ _ ap Ay h=>obtain⟨al,v,pG,jB,ci,bo,he,ak⟩:=XI h (λ k aA=>aj k (by simp[aA]));obtain⟨P2,s1,s2,vn⟩:=aoN Ay bo (aj ac aX x al ap ci);obtain⟨Hc,dx,A9⟩:=aoQ ak vn;exact⟨al,v,P2,Hc,ci,s1,he.trans dx,.cons ac _ _ _ x j3 pG Hc bG ap s2 A9⟩
def XJ(c:Nat)(al:Op):oe c al=c+oe 0 al:=by unfold oe;cases en al<;>simp
def aoR(al:Oper)(l:eh):qc (al::l)=oe 0 al.op+qc l:=by
 have key:∀(l:eh) (c:Nat),l.foldl (λ c al=>oe c al.op) c=c+qc l:=by
  intro l;induction l with
  |nil=>intro c;simp[qc]
  |cons al l a'=>intro c;simp only[qc,vd]at a'⊢;rw[a',a' (oe 0 al.op),XJ c];omega
 show l.foldl _ _=_;exact key l _
def XK:∀(l:eh) (k c:Nat) (R:Fr) (H:ab) (d':Fr) (bG:ab) (dh:lZ),ju E aO ops.toList c l R H=j (d',bG,dh)→(∀ac,l[ac]?=ops[k+ac]?)→(∀ac,ac<l.length→e2 (k+ac)=dh.getD ac [])→
  (∀ac,ac<l.length→aA (k+ac)=c+qc (l.take ac))→vu E aO ops e2 aA (ms k l.length) R H d' bG
 |[],k,c,R,H,d',bG,dh,h,_,_,_=>by simp only[ju,br,bM]at h;obtain⟨rfl,rfl,rfl⟩:=h;exact .nil _ _
 |al::l,k,c,R,H,d',bG,dh,h,ao,bA,aV=>by
  rw[aoJ]at h;split at h
  next v H1 T bo=>
   split at h
   next jB pG P3 ak=>
    simp only[br,bM]at h;obtain⟨rfl,rfl,rfl⟩:=h;have a8:=ao 0;simp only[rc,fr]at a8;have Hd:=bA 0 aX;simp only[fr,DV]at Hd;have XL:=aV 0 aX;simp only[fr,nU]at XL;rw[da,List.range'_succ];refine .cons k _ R H al v _ _ _ a8.symm (by rw[Hd,XL];exact bo) ?_;refine XK l (k+1) (oe c al.op) _ _ _ _ P3 ak (λ ac=>by have:=ao (ac+1);simpa[vb,rl 1 ac]using this) (λ ac bc=>?_) (λ ac bc=>?_)
    ·have:=bA (ac+1) (by simpa using bc);rw[show k+1+ac=k+(ac+1)by omega,this];simp
    ·have:=aV (ac+1) (by simpa using bc);rw[show k+1+ac=k+(ac+1)by omega,this,w6,aoR,XJ c];omega
   ·cases h
  ·cases h
end
section
variable{E:Env}{ad:cn}{ae:cj}{H:ab}{w:World}
def aoS{aO:dY}(cD:oW E (gI E aO)){c:Nat}{R:Fr}{a:Act}{al:Oper}{v:ay}{aq:ab}(h:kf E aO c al.op R H=j (v,aq))(au:cf E ad ae H w)(aN:fq ad ae H R a.tmps)
  {K:Act→World→Prop}{Q:Exit→Act→World→Prop}(j7:∀x av,cz E ad ae H w aq av (λ aQ aG=>bf aQ aG aq v x)→K (a.put al.dst x) av):al.wp E.P a w K Q:=by
 unfold kf at h;cases cX:en al.op with
 |false=>rw[cX]at h;exact PO cD h au aN j7
 |true=>
  rw[cX]at h;simp only at h;unfold Gj at h;split at h
  next aV=>
   split at h
   next k ch G5=>
    simp only[br,bM]at h;obtain⟨rfl,rfl⟩:=h;obtain⟨v0,GD,ar,hm⟩:=aop au aN cX G5 c;obtain⟨vo,x,av,p,U,az⟩:=Wx ar au aN;have bh:=aoi au aV hm az;unfold Oper.wp;rw[p];cases vo<;>simp only[PC]at U<;>first|(cases U;done)|skip
    ·cases U;exact j7 _ _ bh
    ·cases U;exact j7 _ _ bh
   ·cases h
  ·cases h
def aoT{aO:dY}{c:Nat}{al:Op}{R:Fr}{H:ab}{r:ay×ab}(h:kf E aO c al R H=j r):∀c,al≠.defer c:=by rintro c rfl;simp[kf,en,cw,e1,eV]at h
def aoU(au:cf E ad ae H w)(n:Nat):cf E ad ae (H++cH n nL) w∧fz ad ae H ad ae (H++cH n nL):=by
 have hm:fz ad ae H ad ae (H++cH n nL):=ng (λ _ _ h=>h) aX λ c aj=>jw.same (by rw[eO aj]) (λ _=>rfl)
 refine⟨⟨au.ei,λ c x ap=>?_,au.inj,λ c b m h=>by have:=au.sep c b m h;exact⟨this.1,this.2.1,by simp;omega⟩,au.fv⟩,hm⟩;by_cases aj:c<H.length
 ·rw[eO aj]at ap;exact(au.ch c x ap).mono (λ _=>rfl) (λ _ _ h=>h) hm (λ _ _ _ _=>rfl)
 ·rw[hK aa]at ap;have aoV:=List.eq_of_mem_replicate (jP ap);subst aoV;have gd:ae c=o:=by
   cases h:ae c with
   |none=>rfl
   |some I=>have:=au.C_ (b:=I.1) (n:=I.2) h;omega
  exact⟨λ _=>gd,λ i r h=>by simp at h,.inl ⟨gd,rfl⟩⟩
end
section
variable{E:Env}{aO:dY}{ops:Array Oper}{e2:Nat→cq}{aA:Nat→Nat}{Q:Exit→Act→World→Prop}{ro:cu}{nn:Nat}
theorem Qk(cD:oW E (gI E aO)){d':Fr}{bG:ab}(A_:∀ac i,ac<i→i<ops.size→q1 (q2 ops) ac i=J→KZ E ops e2 ac i)
  (w4:∀(i:Nat) (al:Oper),ops[i]?=j al→∀e∈al.after,w3 .any e=ah→e.on<i){hW:Nat}{d0:List Deferred}(qv:DR hW ops.toList):
  ∀(a1:cq) (listed:Array Bool) (ad:cn) (ae:cj) (R:Fr) (H:ab) (a:Act) (w:World) (d':Fr),a1.Pairwise (·<·)→(∀i,i∈a1↔i<ops.size∧listed.getD i J=J)→listed.size=ops.size→He ops listed→
   vu E aO ops e2 aA a1 R H d' bG→cf E ad ae H w→fq ad ae H R a.tmps→a.tmps.size=hW→a.defers=d0→
   (∀b_ av jB,iM d' jB→b_.defers=d0→b_.tmps.size=hW→cz E ad ae H w bG av (λ aQ aG=>fq aQ aG bG jB b_.tmps)→Q .normal b_ av)→wpAnyIn (qu ro) nn E.P .any ops Q a1.length listed a w
 |[],listed,ad,ae,R,H,a,w,d',ax,dA,eQ,wX,my,au,aN,aI,aP,fk=>by
  refine⟨?_,?_⟩
  ·cases h:Hg .any ops listed with
   |nil=>rfl
   |cons i l=>
    have aB:i∈Hg .any ops listed:=by rw[h];simp
    obtain⟨p,al,ci,_⟩:=mem_ready.1 aB;have bg:=(kg.1 ci).1;have:i∈([]:cq):=(dA i).2 ⟨bg,by
     rw[dM]at p⊢;cases aV:listed[i]? with
     |none=>rfl
     |some b=>rw[aV]at p;simpa using p⟩
    simp at this
  ·cases my with
   |nil=>exact fk a w R (.refl _) aP aI (cz.refl au aN)
 |r::a1,listed,ad,ae,R,H,a,w,d',ax,dA,eQ,wX,my,au,aN,aI,aP,fk=>by
  simp only[da];refine⟨λ P6=>?_,λ i aB=>?_⟩
  ·exfalso;have ak:=(dA r).1 aX;have jO:ops[r]?=j ops[r]:=r9 ak.1;have:r∈Hg .any ops listed:=by
    refine mem_ready.2 ⟨?_,_,jO,λ e he an=>?_⟩
    ·have:=ak.2;rw[dM]at this⊢;rw[r9 aa]at this⊢;simpa using this
    ·have bg:=w4 r _ jO e he an;cases ao:listed.getD e.on J with
     |true=>rfl
     |false=>
      have hm:e.on∈r::a1:=(dA e.on).2 ⟨aa,ao⟩;rcases mx.1 hm with p|p
      ·omega
      ·have:=(wz.1 ax).1 _ p;omega
   rw[P6]at this;simp at this
  ·obtain⟨p,al,ci,A'⟩:=mem_ready.1 aB;have bg:=(kg.1 ci).1;have P7:i∈r::a1:=(dA i).2 ⟨bg,by
    rw[dM]at p⊢;rw[r9 aa]at p⊢;simpa using p⟩
   obtain⟨dt,fh,sl⟩:=List.append_of_mem P7;rw[sl]at my ax;have sn:=P8.1 ax;have DW:∀ac∈dt,KZ E ops e2 ac i:=by
    intro ac bc;have r':ac<i:=sn.2.2 ac bc i aX;refine A_ ac i r' bg ?_;cases an:q1 (q2 ops) ac i with
    |false=>rfl
    |true=>have:=Xd wX i al ci A' ac an;have kM:=((dA ac).1 (by rw[sl];simp[bc])).2;rw[this]at kM;cases kM
   obtain⟨pn,v,H1,j8,Hh,bo,he,Hi⟩:=XI my DW;rw[ci]at Hh;cases Hh;have Hj:∀k,al.dst=j k→k<a.tmps.size:=by intro k aA;rw[aI];exact qv al (by simpa using Array.mem_of_getElem? ci) k aA
   have hlen:a1.length=(dt++fh).length:=by have:=congrArg DX sl;simp at this⊢;omega
   have Hk:(dt++fh).Pairwise (·<·):=by rw[P8];exact⟨sn.1,(wz.1 sn.2.1).2,λ x ap y bb=>sn.2.2 x ap y (by simp[bb])⟩
   have P9:i∉dt++fh:=by
    intro hm;rcases gA.1 hm with hm|hm
    ·have:=sn.2.2 i hm i aX;omega
    ·have:=(wz.1 sn.2.1).1 i hm;omega
   have Hl:∀k,k∈dt++fh↔k<ops.size∧(listed.setIfInBounds i ah).getD k J=J:=by
    intro k;by_cases qq:k=i
    ·subst qq;refine⟨λ h=>absurd h P9,λ h=>?_⟩;have U:=h.2;rw[dM]at U;simp[eQ,bg]at U
    ·rw[getD_set_ne J (bi qq)];rw[←dA k,sl];simp[qq]
   have Hm:He ops (listed.setIfInBounds i ah):=by
    intro k I nv nk e qe an;by_cases qq:k=i
    ·subst qq;rw[ci]at nv;cases nv;exact getD_set_true (A' e qe an)
    ·rw[getD_set_ne J (bi qq)]at nk;exact getD_set_true (wX k I nv nk e qe an)
   have AD:(listed.setIfInBounds i ah).size=ops.size:=by simpa using eQ
   unfold wpOpIn;rw[ci];unfold j9 at bo;split at bo
   next aR=>
    split at bo
    next gJ rk mK=>
     simp only[br,bM]at bo;obtain⟨rfl,rfl,_⟩:=bo;simp only[DQ aN aR,if_true];refine PR (aoT mK) (aoS cD mK au aN λ x gf ap=>?_);obtain⟨eI,ey,dR,mD,hM,pw⟩:=ap;rw[hlen];refine Qk cD (d0:=d0) (hW:=hW) (d':=j8) A_ w4 qv (dt++fh) _ eI ey _ _ _ gf j8 Hk Hl AD Hm Hi dR ((aN.mono hM).put pw al.dst Hj) (by rw[yN];exact aI) (by rw[put_defers];exact aP) λ b_ av jB Ba kN aU b9=>?_
     obtain⟨fs,eW,bK,bJ,cL,e4⟩:=b9;exact fk b_ av jB (he.trans Ba) kN aU ⟨fs,eW,bK,mD.trans bJ,hM.trans cL,e4⟩
    ·cases bo
   next aR=>
    simp only[br,bM]at bo;obtain⟨rfl,rfl,_⟩:=bo;simp only[DQ aN aR,gk,if_false];refine⟨λ _ _=>trivial,?_⟩;rw[hlen];refine Qk cD (d0:=d0) (hW:=hW) (d':=j8) A_ w4 qv (dt++fh) _ ad ae _ _ _ w j8 Hk Hl AD Hm Hi au (aN.put (Oj _ _ _) al.dst Hj) (by rw[yN];exact aI) (by rw[put_defers];exact aP) λ b_ av jB Ba kN aU b9=>?_
    exact fk b_ av jB (he.trans Ba) kN aU b9
   ·cases bo
 termination_by a1=>a1.length
 decreasing_by all_goals (have:=congrArg DX sl;simp at this⊢;omega)
end
section
variable{E:Env}{ad:cn}{ae:cj}{H:ab}{w:World}
def K0(au:cf E ad ae H w)(n:Nat):cf E ad ae H {w with drawn:=n}:=
 ⟨au.ei,λ c x h=>by have:=au.ch c x h;cases x<;>exact this,au.inj,au.sep,au.fv⟩
def XM{aQ:cn}{aG:cj}{av:World}{n:Nat}(h:Trans ad ae {w with drawn:=n} aQ aG av):Trans ad ae w aQ aG av:=
 ⟨h.os,h.tape,h.output,h.size,h.frame,h.ei,h.r2,h.own⟩
def XN{a b:cq}(h:rZ a b=ah):rZ b a=ah:=by
 simp only[rZ,py];intro c aj;have:c∉a:=λ aF=>rj h aF aj
 simpa using this
def aoW{ops:Array Oper}{dh:lZ}{so:iI}(aP:C6 E ops=ah)(h_:(Gi E ops).all (λ I=>so.contains I)=ah)(aA:so.all (tS dh)=ah):
  ∀ac i,ac<i→i<ops.size→q1 (q2 ops) ac i=J→KP E ops (λ k=>dh.getD k []) ac i:=by
 intro ac i r' aB an x y ap bb;unfold C6 at aP;simp only[c',py,Bd]at aP;have p:=aP.2 i aB ac r';rw[ap,bb]at p;simp only[an,D3,c',rh,Ql]at p;refine⟨p.1,λ⟨aF,iZ⟩=>?_,λ aN=>?_⟩
 ·rcases p.2 with h|h
  ·rw[aF]at h;cases h
  ·rw[iZ]at h;cases h
 ·have hm:(ac,i)∈Gi E ops:=by
   unfold Gi;simp only[List.mem_flatMap,Bd,List.mem_filterMap];refine⟨i,aB,ac,r',?_⟩;rw[ap,bb];have:((e1 E x.op &&lC y.op)||(e1 E y.op &&lC x.op))=ah:=by rcases aN with⟨a,b⟩|⟨a,b⟩<;>simp[a,b]
   simp[an,this]
  have aj:=(py.1 h_) _ hm;have np:(ac,i)∈so:=by simpa using aj
  have:=(py.1 aA) _ np;unfold tS at this;exact⟨this,XN this⟩
def aoX{ops:Array Oper}(aP:C6 E ops=ah):∀(i:Nat) (al:Oper),ops[i]?=j al→∀e∈al.after,w3 .any e=ah→e.on<i:=by intro i al ci e he an;unfold C6 at aP;simp only[c',py,Bd]at aP;have p:=aP.1.2 i (kg.1 ci).1;rw[ci]at p;simp only[Array.all_eq_true]at p;obtain⟨k,aA,rfl⟩:=Array.mem_iff_getElem.1 he;have:=p k aA;simpa[an]using this
def aoY{aO:dY}{ro:cu}{nn:Nat}(cD:oW E (gI E aO)){id:Nat}{ops:Array Oper}{R bY:Fr}{aq:ab}{dh:lZ}{a:Act}{Q:Exit→Act→World→Prop}
  (h:iK E aO ops.toList ops.toList R H=j (bY,aq,dh)){so:iI}(aA:so.all (tS dh)=ah)(aP:C6 E ops=ah)(h_:(Gi E ops).all (λ I=>so.contains I)=ah)
  (hm:E.P.follows .mixedOrders=ah)(au:cf E ad ae H w)(aN:fq ad ae H R a.tmps)(qv:DR a.tmps.size ops.toList)
  (fk:∀b_ av jB,iM bY jB→b_.defers=a.defers→b_.tmps.size=a.tmps.size→cz E ad ae H w aq av (λ aQ aG=>fq aQ aG aq jB b_.tmps)→Q .normal b_ av):(Code.region id ops ah).wpIn (qu ro) nn E.P Q a w:=by
 refine wpIn_region_any hm ?_;have my:vr E aO ops (λ k=>dh.getD k []) (ms 0 ops.toList.length) R H bY aq:=
  Xa ops.toList 0 R H bY aq dh h (λ ac=>aX) (λ ac _=>aX)
 have:=P5 cD (ro:=ro) (nn:=nn) (ops:=ops) (Q:=Q) (d':=bY) (hW:=a.tmps.size) (d0:=a.defers) (aoW aP h_ aA) (aoX aP) qv (ms 0 ops.toList.length) (AR ops.size J) ad ae R H a {w with drawn:=w.drawn+1} bY
  (List.pairwise_lt_range' ..) (λ i=>by
   simp only[List.mem_range',wG];constructor
   ·rintro⟨k,aA,rfl⟩;refine⟨aa,?_⟩;rw[dM,Qm];split<;>rfl
   ·rintro⟨p,_⟩;exact⟨i,p,aa⟩) aX (λ i al ci ao=>by
   rw[dM,Qm]at ao;split at ao<;>simp at ao) my (K0 au _) aN rfl rfl
   (λ b_ av jB he kN aU b9=>by
    obtain⟨fs,eW,bK,bJ,cL,e4⟩:=b9;exact fk b_ av jB he kN aU ⟨fs,eW,bK,XM bJ,cL,e4⟩)
 simpa using this
def aoZ{ops:Array Oper}{dh:lZ}{so:iI}(aP:C8 E ops=ah)(h_:(Gl E ops).all (λ I=>so.contains I)=ah)(aA:so.all (tS dh)=ah):
  ∀ac i,ac<i→i<ops.size→q1 (q2 ops) ac i=J→KZ E ops (λ k=>dh.getD k []) ac i:=by
 intro ac i r' aB an x y ap bb;unfold C8 at aP;simp only[c',py,Bd]at aP;have p:=aP.2 i aB ac r';rw[ap,bb]at p;simp only[an,D3,c',yq,rh,Ql]at p;refine⟨p.1,λ aF iZ=>?_,λ vt aN=>?_⟩
 ·rcases p.2 with((h|h)|h)|h
  ·rcases h with h|h
   ·rw[aF]at h;cases h
   ·rw[iZ]at h;cases h
  ·exact .inl h
  ·exact .inr (.inl h)
  ·exact .inr (.inr h)
 ·have hm:(ac,i)∈Gl E ops:=by
   unfold Gl;simp only[List.mem_flatMap,Bd,List.mem_filterMap];refine⟨i,aB,ac,r',?_⟩;rw[ap,bb];have:((e1 E x.op &&(lC y.op||e1 E y.op))||(e1 E y.op &&(lC x.op||e1 E x.op)))=ah:=by rcases aN with⟨a,b|b⟩|⟨a,b|b⟩<;>simp[a,b]
   simp[an,vt,this]
  have aj:=(py.1 h_) _ hm;have np:(ac,i)∈so:=by simpa using aj
  have:=(py.1 aA) _ np;unfold tS at this;exact⟨this,XN this⟩
def ao0{ops:Array Oper}(aP:C8 E ops=ah):∀(i:Nat) (al:Oper),ops[i]?=j al→∀e∈al.after,w3 .any e=ah→e.on<i:=by intro i al ci e he an;unfold C8 at aP;simp only[c',py,Bd]at aP;have p:=aP.1.2 i (kg.1 ci).1;rw[ci]at p;simp only[Array.all_eq_true]at p;obtain⟨k,aA,rfl⟩:=Array.mem_iff_getElem.1 he;have:=p k aA;simpa[an]using this
def ao1{aO:dY}{ro:cu}{nn:Nat}(cD:oW E (gI E aO)){id:Nat}{ops:Array Oper}{R bY:Fr}{aq:ab}{dh:lZ}{a:Act}{Q:Exit→Act→World→Prop}
  (h:ju E aO ops.toList H.length ops.toList R (H++cH (qc ops.toList) nL)=j (bY,aq,dh)){so:iI}(aA:so.all (tS dh)=ah)(aP:C8 E ops=ah)(h_:(Gl E ops).all (λ I=>so.contains I)=ah)
  (hm:E.P.follows .mixedOrders=ah)(au:cf E ad ae H w)(aN:fq ad ae H R a.tmps)(qv:DR a.tmps.size ops.toList)
  (fk:∀b_ av jB,iM bY jB→b_.defers=a.defers→b_.tmps.size=a.tmps.size→cz E ad ae H w aq av (λ aQ aG=>fq aQ aG aq jB b_.tmps)→Q .normal b_ av):(Code.region id ops ah).wpIn (qu ro) nn E.P Q a w:=by
 refine wpIn_region_any hm ?_;obtain⟨ao2,sp⟩:=aoU au (qc ops.toList);have my:vu E aO ops (λ k=>dh.getD k []) (λ i=>H.length+qc (ops.toList.take i)) (ms 0 ops.toList.length) R (H++cH (qc ops.toList) nL) bY aq:=
  XK ops.toList 0 _ R _ bY aq dh h (λ ac=>aX) (λ ac _=>aX) (λ ac _=>aX)
 have:=Qk cD (ro:=ro) (nn:=nn) (ops:=ops) (Q:=Q) (d':=bY) (hW:=a.tmps.size) (d0:=a.defers) (aoZ aP h_ aA) (ao0 aP) qv (ms 0 ops.toList.length) (AR ops.size J) ad ae R _ a {w with drawn:=w.drawn+1} bY
  (List.pairwise_lt_range' ..) (λ i=>by
   simp only[List.mem_range',wG];constructor
   ·rintro⟨k,aA,rfl⟩;refine⟨aa,?_⟩;rw[dM,Qm];split<;>rfl
   ·rintro⟨p,_⟩;exact⟨i,p,aa⟩) aX (λ i al ci ao=>by
   rw[dM,Qm]at ao;split at ao<;>simp at ao) my (K0 ao2 _) (aN.mono sp) rfl rfl
   (λ b_ av jB he kN aU b9=>by
    obtain⟨fs,eW,bK,bJ,cL,e4⟩:=b9;exact fk b_ av jB he kN aU ⟨fs,eW,bK,XM bJ,sp.trans cL,e4⟩)
 simpa using this
def Qn:lz→Exit
 |.normal=>.normal
 |.exit id=>.exit id
 |.ret=>.ret
def XO{R bY:Fr}{tmps:Array Value}(he:iM R bY)(h:fq ad ae H bY tmps):fq ad ae H R tmps:=λ k=>by rw[he k];exact h k
def XP{R:Fr}{a:Act}(au:cf E ad ae H w)(aN:fq ad ae H R a.tmps){c:Operand}{b:Bool}(h:bw E R c=.i (.v (.bool b))):a.eval c=.bool b:=by have:=e7 au aN c;rw[h]at this;exact ga this
def Be(B:Nat)(ad:cn)(ae:cj)(H:ab)(aQ:cn)(aG:cj)(aq:ab):Prop:=∀a v,(∀d∈bj a,d<B)→bf ad ae H a v→bf aQ aG aq a v
def Be.trans{B:Nat}{ad ae H aQ aG aq s4 s5 oh}(h:Be B ad ae H aQ aG aq)(k:Be B aQ aG aq s4 s5 oh):Be B ad ae H s4 s5 oh:=λ a v aP r=>k a v aP (h a v aP r)
def pK(E:Env)(B:Nat)(ad:cn)(ae:cj)(H:ab)(w:World)(aq:ab)(av:World)(Q:cn→cj→Prop):Prop:=
 ∃aQ aG,cf E aQ aG aq av∧Trans ad ae w aQ aG av∧Be B ad ae H aQ aG aq∧Q aQ aG
def cz.b{B:Nat}{aq:ab}{av:World}{Q:cn→cj→Prop}(h:cz E ad ae H w aq av Q):pK E B ad ae H w aq av Q:=by obtain⟨aQ,aG,p,U,az,bh⟩:=h;exact⟨aQ,aG,p,U,λ a v _ r=>az a v r,bh⟩
def de.XQ(k:de):k.to k.c=k:=by cases k<;>rfl
def ao3{aY:Nat→cu}:(∀a,(∀d∈bj a,aY d=j d)→cB aY a=a)∧(∀l,(∀d∈bI l,aY d=j d)→cP aY l=l):=by
 refine⟨λ a=>?_,λ l=>?_⟩
 ·induction a using ay.rec (motive_2:=λ l=>(∀d∈bI l,aY d=j d)→cP aY l=l)<;>(try intro h)<;>simp_all [bj,bI,cB,cP,de.XQ]
 ·induction l using ay.rec_1 (motive_1:=λ a=>(∀d∈bj a,aY d=j d)→cB aY a=a)<;>(try intro h)<;>simp_all [bj,bI,cB,cP,de.XQ]
def ao4{B:Nat}(c_:B≤H.length)(R:Fr):(oL B R H).Nodup∧∀c∈oL B R H,c<H.length:=by
 obtain⟨p,U⟩:=DG H 64 (bI (R.map (·.2))++(H.take B).flatMap Chunk.refs) [] aX aX;unfold oL;refine⟨List.nodup_append.2 ⟨List.nodup_range,p.filter _,λ a aF b an=>?_⟩,λ c aj=>?_⟩
 ·simp at aF an;omega
 ·simp only[gA,Bd,PL]at aj;rcases aj with aj|aj
  ·omega
  ·exact U c aj.1
def XR(aY:Nat→cu)(k:Nat):∀R:Fr,get k (R.map λ x=>(x.1,cB aY x.2))=cB aY (get k R)
 |[]=>by simp[get,cB]
 |(ac,a)::R=>by
  simp only[fC,get];split
  ·rfl
  ·exact XR aY k R
def ao5(B:Nat){R:Fr}{tmps:Array Value}(au:cf E ad ae H w)(aN:fq ad ae H R tmps):
  ∃aG,cf E ad aG (gc B R H).2 w∧fq ad aG (gc B R H).2 (gc B R H).1 tmps∧(∀c b n,aG c=j (b,n)→∃cv,ae cv=j (b,n))∧Be B ad ae H ad aG (gc B R H).2:=by
 unfold gc;split
 next c_=>
  obtain⟨aI,bg⟩:=ao4 c_ R;refine⟨oX ae (oL B R H),WG au aI bg,λ k=>?_,λ c b n h=>?_,λ a v aP r=>?_⟩
  ·show bf _ _ _ (get k (R.map λ x=>(x.1,cB (bD (oL B R H)) x.2))) _;rw[XR];exact wZ (G6 aI bg) (aN k)
  ·unfold oX at h;split at h
   ·exact⟨_,h⟩
   ·cases h
  ·have:=wZ (G6 (ae:=ae) aI bg) r;rw[ao3.1 a λ d wR=>A2 aI (by
    unfold oL;have:=aP d wR;rw[eO (by simpa using this)];simp[this])]at this
   exact this
 ·exact⟨ae,au,aN,λ c b n h=>⟨c,h⟩,λ a v _ r=>r⟩
def vv(B:Nat)(H:ab):∀l:aZ,ff B H l=l.map (eL B H)
 |[]=>by simp[ff]
 |a::l=>by simp[ff,vv B H l]
def w7(B:Nat)(H:ab):∀(l:ab) (k c:Nat),(e0 B H k l)[c]?=(l[c]?).map (el B H (k+c))
 |[],k,c=>by simp[e0]
 |x::l,k,0=>by simp[e0]
 |x::l,k,c+1=>by have:=w7 B H l (k+1) c;simp only[e0,kp,this];rw[show k+1+c=k+(c+1)by omega]
def qx(B:Nat)(H:ab):∀(l:ab) (k:Nat),(e0 B H k l).length=l.length
 |[],k=>rfl
 |x::l,k=>by simp[e0,qx B H l]
def vw(B:Nat)(H:ab)(c:Nat):(e0 B H 0 H)[c]?=(H[c]?).map (el B H c):=by rw[w7];simp
def yY{B:Nat}{c aD g:Nat}{rows:cb}{ex:Bool}(h:(e0 B H 0 H)[c]?=j (.af aD g rows ex)):
  ∃g0 jh,H[c]?=j (.af aD g0 rows jh)∧((c<B∧g=g0∧ex=jh)∨(B≤c∧g=0∧ex=J)):=by
 rw[vw]at h;cases aT:H[c]? with
 |none=>rw[aT]at h;cases h
 |some x=>
  rw[aT]at h;cases x with
  |af r4 g0 hS jh=>
   simp only[eH,el,br]at h;split at h
   ·cases h;exact⟨_,_,rfl,.inl ⟨by assumption,rfl,rfl⟩⟩
   ·cases h;exact⟨_,_,rfl,.inr ⟨aa,rfl,rfl⟩⟩
  |aE=>simp only[eH,el,br]at h;split at h<;>cases h
  |_=>simp[el]at h
def Hq{B:Nat}{c aD g:Nat}{rows:cb}{ex:Bool}(h:(e0 B H 0 H)[c]?=j (.bs aD g rows ex)):H[c]?=j (.bs aD g rows ex):=by
 rw[vw]at h;cases aT:H[c]? with
 |none=>rw[aT]at h;cases h
 |some x=>
  rw[aT]at h;cases x with
  |af r4 g0 hS jh=>simp only[eH,el,br]at h;split at h<;>cases h
  |bs=>simpa[el]using h
  |aE=>simp only[eH,el,br]at h;split at h<;>cases h
  |_=>simp[el]at h
def Qo{B:Nat}{c:Nat}{s:bm}{I:Nat}(h:(e0 B H 0 H)[c]?=j (.iter s I)):H[c]?=j (.iter s I):=by
 rw[vw]at h;cases aT:H[c]? with
 |none=>rw[aT]at h;cases h
 |some x=>
  rw[aT]at h;cases x with
  |af r4 g0 hS jh=>simp only[eH,el,br]at h;split at h<;>cases h
  |iter=>simpa[el]using h
  |aE=>simp only[eH,el,br]at h;split at h<;>cases h
  |_=>simp[el]at h
def XS(B:Nat)(H:ab):∀es:fa,wo B H es=es.map λ I=>(I.1,eL B H I.2)
 |[]=>rfl
 |I::r=>by simp[wo,XS B H r]
def ao6{B:Nat}{c:Nat}{es:fa}(h:(e0 B H 0 H)[c]?=j (.map es)):∃Au,H[c]?=j (.map Au)∧es=wo B H Au:=by
 rw[vw]at h;cases aT:H[c]? with
 |none=>rw[aT]at h;cases h
 |some x=>
  rw[aT]at h;cases x with
  |af r4 g0 hS jh=>simp only[eH,el,br]at h;split at h<;>cases h
  |map Au=>simp only[eH,el,br,Chunk.map.injEq]at h;exact⟨_,rfl,h.symm⟩
  |aE=>simp only[eH,el,br]at h;split at h<;>cases h
  |_=>simp[el]at h
def ao7{B:Nat}{c:Nat}{t:Nat}{l:bm}(h:(e0 B H 0 H)[c]?=j (.kc t l)):H[c]?=j (.kc t l):=by
 rw[vw]at h;cases aT:H[c]? with
 |none=>rw[aT]at h;cases h
 |some x=>
  rw[aT]at h;cases x with
  |af r4 g0 hS jh=>simp only[eH,el,br]at h;split at h<;>cases h
  |kc=>simpa[el]using h
  |aE=>simp only[eH,el,br]at h;split at h<;>cases h
  |_=>simp[el]at h
def ao8{B:Nat}{c:Nat}{t:Nat}{cells:aZ}(h:(e0 B H 0 H)[c]?=j (.dm t cells)):∃q7,H[c]?=j (.dm t q7)∧cells=ff B H q7:=by
 rw[vw]at h;cases aT:H[c]? with
 |none=>rw[aT]at h;cases h
 |some x=>
  rw[aT]at h;cases x with
  |af r4 g0 hS jh=>simp only[eH,el,br]at h;split at h<;>cases h
  |dm t0 q7=>simp only[eH,el,br,Chunk.dm.injEq]at h;obtain⟨rfl,h⟩:=h;exact⟨_,rfl,h.symm⟩
  |aE=>simp only[eH,el,br]at h;split at h<;>cases h
  |_=>simp[el]at h
def ao9{B:Nat}{c aD g:Nat}{rows:cb}{ex:Bool}(h:(e0 B H 0 H)[c]?=j (.af aD g rows ex)):∃a6 e3 gK,H[c]?=j (.af aD a6 e3 gK):=by
 rw[vw]at h;cases aT:H[c]? with
 |none=>rw[aT]at h;cases h
 |some x=>
  rw[aT]at h;cases x with
  |af r4 g0 hS jh=>simp only[eH,el,br]at h;split at h<;>cases h<;>exact⟨_,_,_,rfl⟩
  |aE=>simp only[eH,el,br]at h;split at h<;>cases h
  |_=>simp[el]at h
def XT{B:Nat}{c:Nat}{v:Value}(r:bf ad ae H (.dV c) v):bf ad ae (e0 B H 0 H) (.dV c) v:=by
 cases r with
 |dV c v aj hm bA hu ax bp=>exact .dV _ _ (by rw[qx];exact aj) (λ es h=>by obtain⟨gN,p,_⟩:=ao6 h;exact hm _ p) (λ t cells h=>by obtain⟨gN,p,_⟩:=ao8 h;exact bA _ _ p) (λ t l h=>hu _ _ (ao7 h)) ax (λ aD g rows ex h=>by obtain⟨_,_,_,p⟩:=ao9 h;exact bp _ _ _ _ p)
def Qp{B:Nat}{c:Nat}{cells:aZ}(h:(e0 B H 0 H)[c]?=j (.box cells)):∃q7,H[c]?=j (.box q7)∧cells=ff B H q7:=by
 rw[vw]at h;cases aT:H[c]? with
 |none=>rw[aT]at h;cases h
 |some x=>
  rw[aT]at h;cases x with
  |af r4 g0 hS jh=>simp only[eH,el,br]at h;split at h<;>cases h
  |box q7=>simp only[eH,el,br,Chunk.box.injEq]at h;exact⟨_,rfl,h.symm⟩
  |aE=>simp only[eH,el,br]at h;split at h<;>cases h
  |_=>simp[el]at h
def XU{B:Nat}{c z g s:Nat}{rows:c0}(h:(e0 B H 0 H)[c]?=j (.aE z g s rows)):
  ∃g0 dJ,H[c]?=j (.aE z g0 dJ rows)∧((c<B∧g=g0∧s=dJ)∨(B≤c∧g=0∧s=0)):=by
 rw[vw]at h;cases aT:H[c]? with
 |none=>rw[aT]at h;cases h
 |some x=>
  rw[aT]at h;cases x with
  |aE z0 g0 dJ hS=>
   simp only[eH,el,br]at h;split at h
   ·cases h;exact⟨_,_,rfl,.inl ⟨by assumption,rfl,rfl⟩⟩
   ·cases h;exact⟨_,_,rfl,.inr ⟨aa,rfl,rfl⟩⟩
  |af r4 g0 hS jh=>simp only[eH,el,br]at h;split at h<;>cases h
  |_=>simp[el]at h
def XV{B c:Nat}{g:Nat}{rows:cb}(h:(e0 B H 0 H)[c]?=j (.fd g rows)):H[c]?=j (.fd g rows):=by
 rw[w7]at h;cases aT:H[c]? with
 |none=>rw[aT]at h;simp at h
 |some y=>
  rw[aT]at h;cases y with
  |fd=>simpa[el]using h
  |af r4 g0 hS jh=>simp only[eH,el,br]at h;split at h<;>cases h
  |aE=>simp only[eH,el,br]at h;split at h<;>cases h
  |_=>simp[el]at h
def Hr{d:Nat}:∀{l:aZ},d∈bI l↔∃a,a∈l∧d∈bj a
 |[]=>by simp[bI]
 |a::l=>by simp[bI,Hr (l:=l)]
def K1{B:Nat}{a:ay}{v:Value}(r:bf ad ae H a v)(aP:∀d∈bj a,d<B):bf ad ae (e0 B H 0 H) a v:=by
 induction r with
 |dead v=>exact .dead v
 |i x v h=>exact .i x v h
 |agg cells cs ao _ a'=>exact .agg cells cs ao λ k a aF=>a' k a aF λ d h=>aP d (Hr.2 ⟨a,jP aF,h⟩)
 |aS fn a b fb cs ao hm _ _ oO oP=>
  exact .aS fn a b fb cs ao hm (λ k x ap=>oO k x ap λ d h=>aP d (gA.2 (.inl (Hr.2 ⟨x,jP ap,h⟩))))
   (λ k x ap=>oP k x ap λ d h=>aP d (gA.2 (.inr (Hr.2 ⟨x,jP ap,h⟩))))
 |bl vs xs ao _ a'=>exact .bl vs xs ao λ k a aF=>a' k a aF λ d h=>aP d (Hr.2 ⟨a,jP aF,h⟩)
 |ref c g off len v aj aU aN ax aR=>
  have Hs:c<B:=aP c (by simp[bj]);refine .ref _ _ _ _ _ (by rw[qx];exact aj) (λ aD rows ex h=>?_) (λ aD rows ex h=>aN _ _ _ (Hq h)) ax (λ aD a6 rows ex h=>?_)
  ·obtain⟨g0,jh,p,⟨_,rfl,rfl⟩|⟨U,_⟩⟩:=yY h
   ·exact aU _ _ _ p
   ·omega
  ·obtain⟨g0,jh,p,⟨_,rfl,rfl⟩|⟨U,_⟩⟩:=yY h
   ·exact aR _ _ _ _ p
   ·omega
 |dV c v aj hm bA hu ax bp=>exact XT (.dV c v aj hm bA hu ax bp)
 |x k v h aN=>
  have Hs:k.c<B:=aP k.c (by simp[bj]);refine .x _ _ (h.step (by rw[qx];exact cS _) ?_) (aN.to (λ _ _ h=>h) λ g rows e=>XV e);intro z g s rows aT;obtain⟨g0,dJ,p,⟨_,rfl,rfl⟩|⟨U,_⟩⟩:=XU aT
  ·exact .inl ⟨_,_,p,rfl,rfl,.inr ⟨rfl,λ r b4 ak=>⟨b4,ak,rfl,rfl⟩⟩⟩
  ·omega
 |ptr c g r k v aj an aU aN aB ax aR=>
  have Hs:c<B:=aP c (by simp[bj]);refine .ptr _ _ _ _ _ (by rw[qx];exact aj) (λ cells h=>?_) (λ aD rows ex h=>?_) (λ aD rows ex row h=>aN _ _ _ _ (Hq h)) (λ s I h=>aB _ _ (Qo h)) ax (λ aD a6 rows ex h=>?_)
  ·obtain⟨gN,p,_⟩:=Qp h;exact an _ p
  ·obtain⟨g0,jh,p,⟨_,rfl,rfl⟩|⟨U,_⟩⟩:=yY h
   ·exact aU _ _ _ p
   ·omega
  ·obtain⟨g0,jh,p,⟨_,rfl,rfl⟩|⟨U,_⟩⟩:=yY h
   ·exact aR _ _ _ _ p
   ·omega
def Ht{B:Nat}{a:ay}{v:Value}(r:bf ad ae H a v):bf ad ae (e0 B H 0 H) (eL B H a) v:=by
 induction r with
 |dead v=>simp only[eL];exact .dead v
 |i x v h=>simp only[eL];exact .i x v h
 |agg cells cs ao _ a'=>
  simp only[eL,vv];refine .agg _ _ (by simpa using ao) λ k a aF=>?_
  simp only[fQ,dp]at aF;obtain⟨b,an,rfl⟩:=aF;exact a' k b an
 |aS fn a b fb cs ao hm _ _ oO oP=>
  simp only[eL,vv];refine .aS _ _ _ _ _ (by simpa using ao) (by simpa using hm) (λ k a aF=>?_) (λ k a aF=>?_)
  ·simp only[fQ,dp]at aF;obtain⟨b,an,rfl⟩:=aF;exact oO k b an
  ·simp only[fQ,dp]at aF;obtain⟨b,an,rfl⟩:=aF;exact oP k b an
 |bl vs xs ao _ a'=>
  simp only[eL,vv];refine .bl _ _ (by simpa using ao) λ k a aF=>?_
  simp only[fQ,dp]at aF;obtain⟨b,an,rfl⟩:=aF;exact a' k b an
 |ref c g off len v aj aU aN ax aR=>
  simp only[eL];split
  ·exact K1 (.ref c g off len v aj aU aN ax aR) (by simpa[bj])
  next Hs=>
   unfold Gc;split
   next aD a6 rows ex aT=>
    split
    next e=>
     subst e;refine .ref _ _ _ _ _ (by rw[qx];exact aj) (λ iU dv io h=>?_) (λ iU dv io h=>?_) ax (λ _ _ _ _ _=>iC _)
     ·obtain⟨g0,jh,p,_⟩:=yY h;rw[aT]at p;cases p;exact aU _ _ _ aT
     ·have:=Hq h;rw[aT]at this;cases this
    ·exact .dead v
   next aD a6 rows ex aT=>
    split
    next e=>subst e;exact .i _ _ (aN _ _ _ aT).2
    ·exact .dead v
   ·exact .dead v
 |dV c v aj hm bA hu ax bp=>simp only[eL];exact XT (.dV c v aj hm bA hu ax bp)
 |x k v h aN=>
  simp only[eL];split
  ·exact K1 (.x k v h aN) (by simpa[bj])
  next Hs=>
   unfold rS;split;rotate_left
   next a6 rows aT=>
    cases k with
    |d c g al n=>
     simp only;split
     next e=>subst e;exact .i _ _ (aN _ _ _ _ _ rfl aT)
     ·exact .dead v
    |_=>exact .dead v
   ·exact .dead v
   rename_i z a6 dB rows aT;have back:∀z2 g2 s2 dv,(e0 B H 0 H)[k.c]?=j (.aE z2 g2 s2 dv)→z2=z∧g2=0∧s2=0∧dv=rows:=by
    intro z2 g2 s2 dv U;obtain⟨g0,dJ,p,⟨az,_⟩|⟨_,rfl,rfl⟩⟩:=XU U
    ·omega
    ·rw[aT]at p;cases p;exact⟨rfl,rfl,rfl,rfl⟩
   cases k with
   |d c g al n=>
    simp only;split
    next e=>subst e;obtain⟨p,U,az⟩:=h;refine .x _ _ ⟨by rw[qx];exact p,U,λ z2 g2 s2 dv px=>?_⟩ (λ g2 cp td gU dv aM U=>by cases aM;have U:=XV U;have aT:H[c]?=_:=aT;rw[aT]at U;cases U);obtain⟨rfl,rfl,rfl,rfl⟩:=back _ _ _ _ px;exact⟨cS _,λ _=>(az _ _ _ _ aT).2 rfl⟩
    ·exact .dead v
   |e c g r=>
    simp only;split
    next e=>subst e;obtain⟨p,U,az⟩:=h;refine .x _ _ ⟨by rw[qx];exact p,U,λ z2 g2 s2 dv px=>?_⟩ (.ne nofun);obtain⟨rfl,rfl,rfl,rfl⟩:=back _ _ _ _ px;exact⟨cS _,λ _=>(az _ _ _ _ aT).2 rfl⟩
    ·exact .dead v
   |h c g s r=>
    simp only;split
    next e=>obtain⟨rfl,rfl⟩:=e;obtain⟨p,U,az⟩:=h;refine .x _ _ ⟨by rw[qx];exact p,U,λ z2 g2 s2 dv px=>?_⟩ (.ne nofun);obtain⟨rfl,rfl,rfl,rfl⟩:=back _ _ _ _ px;exact⟨.inr ⟨rfl,cS _⟩,λ _ _=>(az _ _ _ _ aT).2 rfl rfl⟩
    ·exact .dead v
   |I c g s r i ac=>
    simp only;split
    next e=>obtain⟨rfl,rfl⟩:=e;obtain⟨p,U,az⟩:=h;refine .x _ _ ⟨by rw[qx];exact p,U,λ z2 g2 s2 dv px=>?_⟩ (.ne nofun);obtain⟨rfl,rfl,rfl,rfl⟩:=back _ _ _ _ px;exact⟨.inr ⟨rfl,cS _⟩,λ _ _=>(az _ _ _ _ aT).2 rfl rfl⟩
    ·exact .dead v
 |ptr c g r k v aj an aU aN aB ax aR=>
  simp only[eL];split
  ·exact K1 (.ptr c g r k v aj an aU aN aB ax aR) (by simpa[bj])
  next Hs=>
   unfold tQ;split
   next aD a6 rows ex aT=>
    split
    next e=>
     subst e;refine .ptr _ _ _ _ _ (by rw[qx];exact aj) (λ cells h=>?_) (λ iU dv io h=>?_) (λ iU dv io row h=>?_) (λ s I h=>?_) ax (λ _ _ _ _ _=>iC _)
     ·obtain⟨gN,p,_⟩:=Qp h;rw[aT]at p;cases p
     ·obtain⟨g0,jh,p,_⟩:=yY h;rw[aT]at p;cases p;exact aU _ _ _ aT
     ·have:=Hq h;rw[aT]at this;cases this
     ·have:=Qo h;rw[aT]at this;cases this
    ·exact .dead v
   next x gE aT=>
    refine .ptr _ _ _ _ _ (by rw[qx];exact aj) (λ cells h=>?_) (λ iU dv io h=>?_) (λ iU dv io row h=>aN _ _ _ _ (Hq h)) (λ s I h=>aB _ _ (Qo h)) ax (λ iU g2 dv io h=>?_)
    ·obtain⟨gN,p,_⟩:=Qp h;exact an _ p
    ·obtain⟨g0,jh,p,_⟩:=yY h;rw[aT]at p;cases p;exact(gE _ _ _ _ rfl).elim
    ·obtain⟨g0,jh,p,_⟩:=yY h;rw[aT]at p;cases p;exact(gE _ _ _ _ rfl).elim
   ·exact .dead v
def ao_(B:Nat)(au:cf E ad ae H w):cf E ad ae (e0 B H 0 H) w:=by
 refine⟨au.ei,λ c x ap=>?_,au.inj,λ c b n h=>?_,au.fv⟩
 ·rw[vw]at ap;simp only[dp]at ap;obtain⟨y,bb,rfl⟩:=ap;have aA:=au.ch c y bb;cases y with
  |box cells=>obtain⟨b,cs,elem,bs,p,U,az,bh,bF⟩:=aA;refine⟨b,cs,elem,bs,p,U,az,by rw[vv];simpa using bh,λ k a aF=>?_⟩;rw[vv]at aF;simp only[fQ,dp]at aF;obtain⟨b,an,rfl⟩:=aF;exact Ht (bF k b an)
  |af aD g rows ex=>
   simp only[el];split
   ·exact aA
   ·obtain⟨p,U,az⟩:=aA;refine⟨p,U,?_⟩;rcases az with az|⟨b,cs,elem,bs,bh,bF,dN,g',hC,ha⟩
    ·exact .inl az
    ·exact .inr ⟨b,cs,elem,bs,bh,bF,dN,g',(λ h=>by cases h),ha⟩
  |bs=>exact aA
  |iter=>exact aA
  |map es=>obtain⟨b,h7,aO,p,U,az⟩:=aA;exact⟨b,h7,aO,p,U,by rw[XS];exact az.to λ a v r=>Ht r⟩
  |kc=>exact aA
  |gone=>exact aA
  |fd=>exact aA
  |aE z g s rows=>simp only[el];split<;>exact aA
  |dm t cells=>obtain⟨b,cs,p,U,bh,bF⟩:=aA;refine⟨b,cs,p,U,by rw[vv];simpa using bh,λ k a aF=>?_⟩;rw[vv]at aF;simp only[fQ,dp]at aF;obtain⟨b,an,rfl⟩:=aF;exact Ht (bF k b an)
 ·have:=au.sep c b n h;exact⟨this.1,this.2.1,by rw[qx];exact this.2.2⟩
def XW(B:Nat)(k:Nat):∀R:Fr,get k (od B H R)=eL B H (get k R)
 |[]=>by simp[get,od,eL]
 |(ac,a)::R=>by
  simp only[od,get];split
  ·rfl
  ·exact XW B k R
def pK.trans{B:Nat}{aq oh:ab}{av r3:World}{Q yu:cn→cj→Prop}(h:pK E B ad ae H w aq av Q)(k:∀aQ aG,cf E aQ aG aq av→Q aQ aG→pK E B aQ aG aq av oh r3 yu):pK E B ad ae H w oh r3 yu:=by obtain⟨aQ,aG,p,U,az,bh⟩:=h;obtain⟨s4,s5,bK,bJ,cL,e4⟩:=k aQ aG p bh;exact⟨s4,s5,bK,U.trans bJ,az.trans cL,e4⟩
def XX(B:Nat)(au:cf E ad ae H w){Q:cn→cj→Prop}(fk:Q ad ae):pK E B ad ae H w (e0 B H 0 H) w Q:=
 ⟨ad,ae,ao_ B au,Trans.refl _ _ _,λ a v aP r=>K1 r aP,fk⟩
def ao'(B:Nat){R:Fr}{tmps:Array Value}(au:cf E ad ae H w)(aN:fq ad ae H R tmps):
  pK E B ad ae H w (oM B R H).2 w λ aQ aG=>fq aQ aG (oM B R H).2 (oM B R H).1 tmps:=by
 unfold oM;refine(XX B au (Q:=λ aQ aG=>fq aQ aG (e0 B H 0 H) (od B H R) tmps) λ k=>by rw[XW];exact Ht (aN k)).trans λ eI ey dR AV=>?_
 obtain⟨aG,pD,K2,apa,nS⟩:=ao5 B dR AV;exact⟨eI,aG,pD,⟨rfl,rfl,rfl,cS _,λ _ _ _=>rfl,λ _ _ h=>h,λ _ h=>.inl h,λ c b n h=>by obtain⟨cv,iy⟩:=apa c b n h;exact .inr ⟨cv,n,iy⟩⟩,nS,K2⟩
def XY{tmps:Array Value}:∀(l:iI) {ad:cn} {ae:cj} {H:ab} {R:Fr},cf E ad ae H w→fq ad ae H R tmps→cz E ad ae H w (sW l R H).2 w λ aQ aG=>fq aQ aG (sW l R H).2 (sW l R H).1 tmps
 |[],ad,ae,H,R,au,aN=>cz.refl au aN
 |(k,z)::l,ad,ae,H,R,au,aN=>by
  simp only[sW];refine(PI au z (aN k)).trans λ eI ey dR _ hm ap=>?_
  exact XY l dR λ ac=>by
   simp only[get];split
   next e=>subst e;exact ap
   ·exact hm _ _ (aN ac)
def apb(au:cf E ad ae H w)(ac z c:Nat):cz E ad ae H w (C0 ac z c H H[c]?) w λ _ _=>True:=by
 unfold C0;split
 next cells aj=>
  split
  next a aF=>
   obtain⟨b,cs,elem,bs,ar,aM,bZ,dx,pz⟩:=au.ch _ _ aj;have cD:=(bQ.1 aj).1;refine(PI au z (pz ac a aF)).trans λ eI ey dR cr hm ap=>?_
   have ht:(jL z H a).2[c]?=j (.box cells):=by obtain⟨x,ap⟩:=W2 z H a;rw[ap,eO cD];exact aj
   obtain⟨b0,e5,apc,XZ,f1,f2,f3,f4,f5⟩:=dR.ch _ _ ht;have fp:e5=cs:=by
    have p:bf eI ey (jL z H a).2 (.ptr c 0 0 0) (.pointer (j ⟨b,0,o⟩)):=hm _ _ (.ptr c 0 0 0 _ cD (λ _ _=>⟨b,_,ar,rfl⟩) (λ _ _ _ h=>by rw[aj]at h;cases h) (λ _ _ _ _ h=>by rw[aj]at h;cases h) (λ _ _ h=>by rw[aj]at h;cases h) ⟨_,rfl⟩ (λ _ _ _ _ h=>by rw[aj]at h;cases h));cases p with
    |ptr _ _ _ _ _ _ an=>obtain⟨dZ,gU,g1,g2⟩:=an _ ht;rw[f1]at g1;cases g1;cases g2;rw[aM]at f2;cases f2;rfl
   subst fp;refine wrote dR f1 ht (λ _ _=>rfl) rfl rfl rfl rfl ?_ (λ hk=>?_) (λ _=>trivial)
   ·intro y bb;rcases gb bb with⟨_,rfl⟩|⟨e,_⟩
    ·exact .inl ⟨cells,ht,rfl⟩
    ·exact absurd rfl e
   ·refine⟨b0,e5,apc,XZ,f1,f2,f3,by simpa using f4,λ k x aA=>?_⟩;by_cases DJ:ac=k
    ·subst DJ;have kM:=(bQ.1 aF).1;rw[k9 kM]at aA;cases aA;exact hk _ _ ap
    ·rw[dW DJ]at aA;exact hk _ _ (f5 k x aA)
  ·exact cz.refl au trivial
 ·exact cz.refl au trivial
def X0{tmps:Array Value}{R:Fr}:∀(l:List (Nat×Nat×Nat)) {ad:cn} {ae:cj} {H:ab},cf E ad ae H w→fq ad ae H R tmps→cz E ad ae H w (wm l R H) w λ aQ aG=>fq aQ aG (wm l R H) R tmps
 |[],ad,ae,H,au,aN=>cz.refl au aN
 |(k,ac,z)::l,ad,ae,H,au,aN=>by
  have p:cz E ad ae H w (Gb ac z H (get k R)) w λ _ _=>True:=by
   unfold Gb;split
   ·exact apb au _ _ _
   ·exact cz.refl au trivial
  simp only[wm];exact p.trans λ eI ey dR _ hm _=>X0 l dR λ k=>hm _ _ (aN k)
def Qq{tmps:Array Value}:∀(l:iI) {ad:cn} {ae:cj} {H:ab} {R:Fr},cf E ad ae H w→fq ad ae H R tmps→cz E ad ae H w (rR l R H).2 w λ aQ aG=>fq aQ aG (rR l R H).2 (rR l R H).1 tmps
 |[],ad,ae,H,R,au,aN=>cz.refl au aN
 |(k,z)::l,ad,ae,H,R,au,aN=>by
  simp only[rR];cases bp:freeze H (get k R)with
  |none=>simp only[Am];exact Qq l au aN
  |some I=>
   obtain⟨x,H1⟩:=I;simp only[Am];refine(AH au (aN k) bp).trans λ eI ey dR _ hm ap=>?_
   exact Qq l dR λ ac=>by
    simp only[get];split
    next e=>subst e;exact .i _ _ (AM ap)
    ·exact hm _ _ (aN ac)
def apd(B:Nat){f:FuncId}{id:Nat}{R:Fr}{tmps:Array Value}(au:cf E ad ae H w)(aN:fq ad ae H R tmps):
  pK E B ad ae H w (po E B f id R H).2 w λ aQ aG=>fq aQ aG (po E B f id R H).2 (po E B f id R H).1 tmps:=by
 unfold po;simp only;refine(XY (E.xW f id) au aN).b.trans λ eI ey dR AV=>?_
 refine(X0 (E.xX f id) dR AV).b.trans λ fs eW vh Ds=>?_
 refine(Qq (E.xY f id) vh Ds).b.trans λ kn ko ape apf=>?_
 exact ao' B ape (apf.JH _)
def X1{f:FuncId}{B:Nat}(au:cf E ad ae H w){vs bW:aZ}{aq:ab}(h:q4 E f B H vs=j (bW,aq))(g:Nat→Value)(r:∀(k:Nat) (a:ay),vs[k]?=j a→bf ad ae H a (g k)):
  pK E B ad ae H w aq w λ aQ aG=>bW.length=vs.length∧∀(k:Nat) (a:ay),bW[k]?=j a→bf aQ aG aq a (g k):=by
 have fin:∀{eI ey H1 D4},cf E eI ey H1 w→(D4.length=vs.length∧∀(k:Nat) (a:ay),D4[k]?=j a→bf eI ey H1 a (g k))→
   pK E B eI ey H1 w (e0 B H1 0 H1) w λ aQ aG=>(ff B H1 D4).length=vs.length∧∀(k:Nat) (a:ay),(ff B H1 D4)[k]?=j a→bf aQ aG (e0 B H1 0 H1) a (g k):=by
  intro eI ey H1 D4 dR bu;refine XX B dR ⟨by rw[vv];simpa using bu.1,λ k a aF=>?_⟩;rw[vv]at aF;simp only[fQ,dp]at aF;obtain⟨b,an,rfl⟩:=aF;exact Ht (bu.2 k b an)
 unfold q4 at h;split at h
 ·simp only[br,bM]at h;obtain⟨rfl,rfl⟩:=h;exact(PJ (E.mm f) vs au g r).b.trans λ eI ey dR bu=>fin dR bu
 ·split at h
  next D4 H1 ax=>simp only[br,bM]at h;obtain⟨rfl,rfl⟩:=h;exact(DH au g ax r).b.trans λ eI ey dR bu=>fin dR ⟨by rw[PG];exact bu.1,PH _ _ g bu.2⟩
  ·cases h
def apg{f:FuncId}{B:Nat}(au:cf E ad ae H w){iB r:ay}{v:Value}{aq:ab}(h:r0 E f B H iB=j (r,aq))(iY:bf ad ae H iB v):pK E B ad ae H w aq w λ aQ aG=>bf aQ aG aq r v:=by
 have single:∀a,u9 (q4 E f B H [a])=j (r,aq)→bf ad ae H a v→pK E B ad ae H w aq w λ aQ aG=>bf aQ aG aq r v:=by
  intro a h fE;unfold u9 at h;split at h
  next hD H1 ak=>
   simp only[br,bM]at h;obtain⟨rfl,rfl⟩:=h;obtain⟨eI,ey,bK,bJ,cL,e4⟩:=X1 au ak (λ _=>v) (λ k b an=>by
    cases k with
    |zero=>simp at an;subst an;exact fE
    |succ k=>simp at an)
   exact⟨eI,ey,bK,bJ,cL,e4.2 0 _ rfl⟩
  ·cases h
 cases iB with
 |bl vs=>
  simp only[r0,JF]at h;split at h
  next bW H1 ak=>
   simp only[br,bM]at h;obtain⟨rfl,rfl⟩:=h;cases iY with
   |bl _ xs ao ap=>obtain⟨eI,ey,bK,bJ,cL,e4⟩:=X1 au ak (λ k=>xs.getD k undef) ap;exact⟨eI,ey,bK,bJ,cL,.bl _ _ (by rw[e4.1];exact ao) e4.2⟩
  ·cases h
 |dead=>exact single _ h iY
 |i=>exact single _ h iY
 |agg=>exact single _ h iY
 |ref=>exact single _ h iY
 |ptr=>exact single _ h iY
 |dV=>exact single _ h iY
 |x=>exact single _ h iY
 |aS=>exact single _ h iY
def uq(D:Nat):Deferred:={target:=.collected D,args:=#[]}
def tf(ad:cn)(ae:cj)(b:Nat):Prop:=ad b=o∧∀c n,ae c≠j (b,n)
def l9(dj:Nat)(ad:cn)(ae:cj)(w:World)(c4:List Deferred):Prop:=∃mL:cq,c4=mL.map uq∧mL.Nodup∧∀D∈mL,dj≤D∧w.heap[D]?=j (.deferred (j []))∧tf ad ae D
def pL{w:World}{b:Nat}{al:Obj}(h:w.heap[b]?=j al):b<w.heap.size:=(kg.1 h).1
def Qr{aQ aG av}{b:Nat}(h:tf ad ae b)(an:b<w.heap.size)(T:Trans ad ae w aQ aG av):tf aQ aG b:=by
 refine⟨?_,λ c n e=>?_⟩
 ·cases aB:aQ b with
  |none=>rfl
  |some al=>
   rcases T.r2 b (by rw[aB];simp)with p|p|⟨c,n,p⟩
   ·exact absurd h.1 p
   ·omega
   ·exact absurd p (h.2 c n)
 ·rcases T.own c b n e with p|⟨cv,dT,p⟩
  ·omega
  ·exact h.2 _ _ p
def K3{aQ aG av}{b:Nat}{al:Obj}(h:tf ad ae b)(an:w.heap[b]?=j al)(T:Trans ad ae w aQ aG av):av.heap[b]?=j al:=(T.frame b (pL an) h.2).trans an
def Hu{aQ aG av}{dj:Nat}{c4:List Deferred}(h:l9 dj ad ae w c4)(T:Trans ad ae w aQ aG av):l9 dj aQ aG av c4:=by obtain⟨mL,p,U,az⟩:=h;refine⟨mL,p,U,λ D mA=>?_⟩;obtain⟨bK,bJ,cL⟩:=az D mA;exact⟨bK,K3 cL bJ T,Qr cL (pL bJ) T⟩
def X2(dj:Nat)(ad:cn)(ae:cj)(w:World):l9 dj ad ae w []:=⟨[],rfl,List.nodup_nil,λ _ h=>by cases h⟩
def Bf{dj:Nat}{c4:List Deferred}{l:Nat}{r:Loop}(h:l9 dj ad ae w c4)(ao:w.heap[l]?=j (.loop r))(al:Obj):l9 dj ad ae (w.putObj l al) c4:=by obtain⟨mL,p,U,az⟩:=h;refine⟨mL,p,U,λ D mA=>?_⟩;obtain⟨bK,bJ,cL⟩:=az D mA;exact⟨bK,(Hv (by rintro rfl;rw[ao]at bJ;cases bJ)).trans bJ,cL⟩
def cz.Bg{B dj:Nat}{aq:ab}{av:World}{Q:cn→cj→Prop}{a b_:Act}(jS:l9 dj ad ae w a.defers)(kN:b_.defers=a.defers)(h:cz E ad ae H w aq av Q):
  pK E B ad ae H w aq av λ aQ aG=>Q aQ aG∧l9 dj aQ aG av b_.defers:=by
 obtain⟨aQ,aG,p,U,az,bh⟩:=h;exact⟨aQ,aG,p,U,λ a v _ r=>az a v r,bh,by rw[kN];exact Hu jS U⟩
def aph{l c:Nat}{al:Obj}{x:Chunk}(ao:∀c n,ae c≠j (l,n))(h:ps ad ae H w c x):ps ad ae H (w.putObj l al) c x:=by
 have key:∀b n,ae c=j (b,n)→(w.putObj l al).heap[b]?=w.heap[b]?:=λ b n e=>Hv (by rintro rfl;exact ao _ _ e)
 cases x with
 |box cells=>obtain⟨b,cs,elem,bs,p,U,az⟩:=h;exact⟨b,cs,elem,bs,p,(key _ _ p).trans U,az⟩
 |af aD g rows ex=>
  obtain⟨p,U,az⟩:=h;refine⟨p,U,?_⟩;rcases az with az|⟨b,cs,elem,bs,bh,bF,dN⟩
  ·exact .inl az
  ·exact .inr ⟨b,cs,elem,bs,bh,(key _ _ bh).trans bF,dN⟩
 |bs=>exact h
 |iter s I=>obtain⟨b,p,U⟩:=h;exact⟨b,p,(key _ _ p).trans U⟩
 |map es=>obtain⟨b,h7,aO,p,U,az⟩:=h;exact⟨b,h7,aO,p,(key _ _ p).trans U,az⟩
 |dm t cells=>obtain⟨b,cs,p,U,az⟩:=h;exact⟨b,cs,p,(key _ _ p).trans U,az⟩
 |kc t l=>obtain⟨b,cs,p,U,az⟩:=h;exact⟨b,cs,p,(key _ _ p).trans U,az⟩
 |gone=>exact h
 |fd=>exact h
 |aE z g s rows=>
  rcases h with az|⟨b,cs,elem,bs,bh,bF,dN,g',hC⟩
  ·exact .inl az
  ·exact .inr ⟨b,cs,elem,bs,bh,(key _ _ bh).trans bF,dN,g',λ r y bb=>(hC r y bb).mono rfl (λ _ _ h=>h) λ b n e=>Hv (by rintro rfl;exact ao _ _ e)⟩
def Bh{l:Nat}{al:Obj}(au:cf E ad ae H w)(ao:tf ad ae l):cf E ad ae H (w.putObj l al):=
 ⟨λ b pn h=>(Hv (by rintro rfl;rw[ao.1]at h;cases h)).trans (au.ei b pn h),λ c x h=>aph ao.2 (au.ch c x h),au.inj,
  λ c b n h=>by have:=au.sep c b n h;exact⟨this.1,by rw[World.putObj_size];exact this.2.1,this.2.2⟩,au.fv⟩
def Bi{tg:cn}{th:cj}{l_:World}{l:Nat}{al:Obj}(T:Trans tg th l_ ad ae w)(ao:l_.heap.size≤l):Trans tg th l_ ad ae (w.putObj l al):=
 ⟨T.os,T.tape,T.output,by rw[World.putObj_size];exact T.size,λ b an aI=>(Hv aa).trans (T.frame b an aI),T.ei,T.r2,T.own⟩
def api{c:Nat}{al:Obj}{x:Chunk}(h:ps ad ae H w c x):ps ad ae H (w.alloc al) c x:=by
 have key:∀{b:Nat} {pn:Obj},w.heap[b]?=j pn→(w.alloc al).heap[b]?=j pn:=λ h=>(Bj w al _ (pL h)).trans h
 cases x with
 |box cells=>obtain⟨b,cs,elem,bs,p,U,az⟩:=h;exact⟨b,cs,elem,bs,p,key U,az⟩
 |af aD g rows ex=>
  obtain⟨p,U,az⟩:=h;refine⟨p,U,?_⟩;rcases az with az|⟨b,cs,elem,bs,bh,bF,dN⟩
  ·exact .inl az
  ·exact .inr ⟨b,cs,elem,bs,bh,key bF,dN⟩
 |bs=>exact h
 |iter s I=>obtain⟨b,p,U⟩:=h;exact⟨b,p,key U⟩
 |map es=>obtain⟨b,h7,aO,p,U,az⟩:=h;exact⟨b,h7,aO,p,key U,az⟩
 |dm t cells=>obtain⟨b,cs,p,U,az⟩:=h;exact⟨b,cs,p,key U,az⟩
 |kc t l=>obtain⟨b,cs,p,U,az⟩:=h;exact⟨b,cs,p,key U,az⟩
 |gone=>exact h
 |fd=>exact h
 |aE z g s rows=>
  rcases h with az|⟨b,cs,elem,bs,bh,bF,dN,g',hC⟩
  ·exact .inl az
  ·refine .inr ⟨b,cs,elem,bs,bh,key bF,dN,g',λ r y bb=>?_⟩;have:=hC r y bb;cases y with
   |own b4=>
    obtain⟨bK,bJ⟩:=this;refine⟨bK,?_⟩;rcases bJ with bJ|⟨b,yg,AW,bs,cy,cN,fy,jN⟩
    ·exact .inl bJ
    ·exact .inr ⟨b,yg,AW,bs,cy,cN,key fy,jN⟩
   |ek q=>exact this
   |dead=>exact this
def X3{al:Obj}(au:cf E ad ae H w):cf E ad ae H (w.alloc al):=
 ⟨λ b pn h=>(Bj w al _ (pL (au.ei b pn h))).trans (au.ei b pn h),λ c x h=>api (au.ch c x h),au.inj,
  λ c b n h=>by have:=au.sep c b n h;exact⟨this.1,by rw[Qs];omega,this.2.2⟩,au.fv⟩
def X4{tg:cn}{th:cj}{l_:World}{al:Obj}(T:Trans tg th l_ ad ae w):Trans tg th l_ ad ae (w.alloc al):=
 ⟨T.os,T.tape,T.output,by rw[Qs];have:=T.size;omega,λ b an aI=>(Bj w al b (by have:=T.size;omega)).trans (T.frame b an aI),T.ei,T.r2,T.own⟩
def X5{dj:Nat}{c4:List Deferred}{al:Obj}(h:l9 dj ad ae w c4):l9 dj ad ae (w.alloc al) c4:=by obtain⟨mL,p,U,az⟩:=h;refine⟨mL,p,U,λ D mA=>?_⟩;obtain⟨bK,bJ,cL⟩:=az D mA;exact⟨bK,(Bj w al _ (pL bJ)).trans bJ,cL⟩
def X6{ft:World}(au:cf E ad ae H w)(an:Hw w.heap.size w ft):cf E ad ae H ft:=by
 have hold:=an.block;refine⟨λ b al h=>?_,λ c x ap=>(au.ch c x ap).mono (λ _=>rfl) (λ _ _ h=>h) (fz.refl _ _ _) λ r b n h=>hold b (au.sep _ _ _ h).2.1,au.inj,λ c b n h=>?_,au.fv⟩
 ·have:=au.ei b al h;rw[hold b (pL this)];exact this
 ·obtain⟨p,U,az⟩:=au.sep _ _ _ h;exact⟨p,wx U an.size,az⟩
def X7{tg:cn}{th:cj}{l_ ft:World}(T:Trans tg th l_ ad ae w)(an:Hw w.heap.size w ft):Trans tg th l_ ad ae ft:=
 ⟨an.os.trans T.os,an.tape.trans T.tape,an.output.trans T.output,s6 T.size an.size,λ b iZ aI=>(an.block b (by have:=T.size;omega)).trans (T.frame b iZ aI),T.ei,T.r2,T.own⟩
def X8{dj:Nat}{c4:List Deferred}{ft:World}(h:l9 dj ad ae w c4)(an:Hw w.heap.size w ft):l9 dj ad ae ft c4:=by obtain⟨mL,p,U,az⟩:=h;refine⟨mL,p,U,λ D mA=>?_⟩;obtain⟨bK,bJ,cL⟩:=az D mA;exact⟨bK,(an.block _ (pL bJ)).trans bJ,cL⟩
def X9(au:cf E ad ae H w){b:Nat}(an:w.heap.size≤b):tf ad ae b:=by
 refine⟨?_,λ c n e=>?_⟩
 ·cases aB:ad b with
  |none=>rfl
  |some al=>have:=pL (au.ei b al aB);omega
 ·have:=(au.sep c b n e).2.1;omega
def X_{tg:cn}{th:cj}{l_:World}{nn:Nat}{fn:Func}{tmps:Array Value}{a1:Ending→World→Prop}:∀(mL:cq) (w:World),cf E ad ae H w→Trans tg th l_ ad ae w→mL.Nodup→
  (∀D∈mL,l_.heap.size≤D∧w.heap[D]?=j (.deferred (j []))∧tf ad ae D)→
  (∀av,cf E ad ae H av→Trans tg th l_ ad ae av→∃v,(results fn tmps).run E.P av=.ok v av∧a1 (.returned v) av)→LeavesInM (qu o) nn E.P fn tmps a1 (mL.map uq) .returning w
 |[],w,au,T,_,_,dA=>dA w au T
 |D::mL,w,au,T,aI,mA,dA=>by obtain⟨bK,bJ,cL⟩:=mA D (.head _);have DP:=G3.1 aI;refine⟨aX,.inl ⟨D,_,rfl,run_takeDeferred bJ,?_⟩⟩;refine X_ mL _ (Bh au cL) (Bi T bK) DP.2 (λ Ot X'=>?_) dA;obtain⟨w8,ur,w9⟩:=mA Ot (.tail _ X');exact⟨w8,(Hv (by rintro rfl;exact DP.1 X')).trans ur,w9⟩
def K4(E:Env)(n:Nat):Prop:=∀(ro:cu) (nn dj:Nat) B f c R H ex bY aq,exec E n B f c R H=j (ex,bY,aq)→∀ad ae w a Q,codeOk E f a.tmps.size c=ah→(ro=o∨mu c=ah)→E.P.follows .mixedOrders=ah→cf E ad ae H w→fq ad ae H R a.tmps→
 l9 dj ad ae w a.defers→dj≤w.heap.size→
 (∀b_ av,b_.tmps.size=a.tmps.size→pK E B ad ae H w aq av (λ aQ aG=>fq aQ aG aq bY b_.tmps∧l9 dj aQ aG av b_.defers)→Q (Qn ex) b_ av)→c.wpIn (qu ro) nn E.P Q a w
def Ya(E:Env)(n:Nat):Prop:=∀(ro:cu) (nn dj:Nat) B f c R H ex bY aq,exec E n B f (.loop c) R H=j (ex,bY,aq)→∀ad ae w a Q,codeOk E f a.tmps.size c=ah→(ro=o∨mu c=ah)→E.P.follows .mixedOrders=ah→cf E ad ae H w→fq ad ae H R a.tmps→
 l9 dj ad ae w a.defers→dj≤w.heap.size→
 (∀b_ av,b_.tmps.size=a.tmps.size→pK E B ad ae H w aq av (λ aQ aG=>fq aQ aG aq bY b_.tmps∧l9 dj aQ aG av b_.defers)→Q (Qn ex) b_ av)→Code.roundsIn (qu ro) nn E.P c Q n a w
def Hx(b:Nat):Value:=.pointer (j ⟨b,0,o⟩)
def Yb(P:Program)(g:FuncId)(L:cb→mZ):Prop:=∀(l nn:Nat) (mv:cb) (xs:aZ) (kG:cq) (ad:cn) (o0:Nat→World→Prop) (yZ:World→Prop) (W:World),L mv=j xs→kG.length=mv.length→
 (∀(k b:Nat) (cs:cZ),kG[k]?=j b→mv[k]?=j cs→∀(m:Nat) (a:bx),cs[m]?=j a→∃v,W.cell? ⟨b,m,o⟩=j v∧dH ad a v)→
 (∀ac W,o0 ac W→∀b al,ad b=j al→W.heap[b]?=j al)→
 (∀ac W k,o0 ac W→o0 ac {W with drawn:=k})→(∀W k,yZ W→yZ {W with drawn:=k})→
 (∀ac W jT,o0 ac W→Hw W.heap.size W jT→o0 ac jT)→(∀W jT,yZ W→Hw W.heap.size W jT→yZ jT)→
 (∀m ac y x W,xs[ac]?=j y→bf ad (λ _=>o) [] y x→o0 ac W→YieldAt A6 m P l #[x] W λ e jT=>(e=.returned (.bool ah)∧o0 (ac+1) jT)∨(e=.returned (.bool J)∧yZ jT))→
 o0 0 W→CallsIn A6 nn P g (#[.func (.yield l) #[] #[]]++(kG.map Hx).toArray) W λ e jT=>(∃v,e=.returned v)∧(o0 xs.length jT∨yZ jT)
def Bk(E:Env):Prop:=∀g L,E.seq g=j L→lB E g=ah∧Yb E.P g L
def apj(h:∀f,E.seq f=o):Bk E:=λ f g aR=>by rw[h]at aR;cases aR
def Yc:∀(cells:aZ) (l:cZ),ly cells=j l→∀(m:Nat) (x:bx),l[m]?=j x→cells[m]?=j (.i x)
 |[],l,h,m,x,ap=>by simp only[ly,br]at h;subst h;simp at ap
 |a::r,l,h,m,x,ap=>by
  unfold ly at h;split at h
  next a8=>cases a8
  next fc iB a8=>
   cases a8;simp only[dp]at h;obtain⟨fP,p,rfl⟩:=h;cases m with
   |zero=>simpa using ap
   |succ m=>simpa using Yc r fP p m x (by simpa using ap)
  ·cases h
def Yd(au:cf E ad ae H w):∀(fZ:aZ) (mv:cb) (vs:k8),s3 H fZ=j mv→vs.length=fZ.length→(∀(k:Nat) (a:ay),fZ[k]?=j a→bf ad ae H a (vs.getD k undef))→
  ∃kG:cq,vs=kG.map Hx∧kG.length=mv.length∧(∀b∈kG,b<w.heap.size)∧∀(k b:Nat) (cs:cZ),kG[k]?=j b→mv[k]?=j cs→∀(m:Nat) (a:bx),cs[m]?=j a→∃v,w.cell? ⟨b,m,o⟩=j v∧dH ad a v
 |[],mv,vs,h,ao,_=>by simp only[s3,br]at h;subst h;exact⟨[],pq.1 ao,rfl,(λ b h=>by cases h),λ k b cs h=>by simp at h⟩
 |a::r,mv,vs,h,ao,ak=>by
  unfold s3 at h;split at h
  next a8=>cases a8
  next c g iB a8=>
   cases a8;split at h
   next cells aj=>
    split at h
    next aVf apk aB ym=>
     cases h;cases vs with
     |nil=>simp at ao
     |cons v vs=>
      obtain⟨kG,ar,aM,dx,bZ⟩:=Yd au r apk vs ym (by simpa using ao) λ k a aF=>by simpa using ak (k+1) a aF
      have a8:=ak 0 _ rfl;obtain⟨b,cs,elem,bs,bK,bJ,cL,e4,mI⟩:=au.ch _ _ aj;have bo:v=Hx b:=by
       cases a8 with
       |ptr _ _ _ _ _ _ an=>obtain⟨b0,dT,cy,cN⟩:=an _ aj;rw[bK]at cy;cases cy;exact cN
      refine⟨b::kG,by rw[bo,ar];rfl,by simp[aM],λ b0 iZ=>?_,λ k b0 e5 an fp m a aF=>?_⟩
      ·rcases mx.1 iZ with rfl|iZ
       ·exact pL bJ
       ·exact dx _ iZ
      cases k with
      |zero=>
       simp only[rc,br]at an fp;subst an fp;have eN:=Yc cells _ aB m a aF;have bg:m<cs.size:=by rw[e4];exact(bQ.1 eN).1
       refine⟨cs[m],by simp[q9,bJ,bg],?_⟩;have:=ji (mI m _ eN);rwa [dM,r9 bg,jQ]at this
      |succ k=>exact bZ k b0 e5 (by simpa using an) (by simpa using fp) m a aF
    ·cases h
   ·cases h
  ·cases h
def Qt:lz→Option Code
 |.normal=>o
 |.ret=>j .ret
 |.exit id=>j (.exit id)
def Ye:∀{l m:cq},l.map uq=m.map uq→l=m
 |[],[],_=>rfl
 |[],_::_,h=>by simp at h
 |_::_,[],h=>by simp at h
 |a::l,b::m,h=>by
  simp only[fC,Dr]at h;have p:a=b:=by simpa[uq]using h.1
  rw[p,Ye h.2]
def apl{n:Nat}(hex:K4 E n){m f l:Nat}{oN body:Code}{R:Fr}{bG:ab}{du:lz}{tmps:Array Value}{iB:Loop}{a1:Ending→World→Prop}
  (h:mw (λ dQ c R H=>exec E n dQ f c R H) oN body R H=j (du,bG))(y0:mu oN=ah)(Bl:mu body=ah)(Hy:codeOk E f tmps.size oN=ah)(Hz:codeOk E f tmps.size body=ah)(hm:E.P.follows .mixedOrders=ah)
  (au:cf E ad ae H w)(aN:fq ad ae H R tmps)(ao:w.heap[l]?=j (.loop iB))(ak:iB.state=.ready)(oU:tf ad ae l)
  (dA:∀kn ko ou,cf E kn ko bG ou→(∃fs eW ft,Trans ad ae w fs eW ft∧Trans fs eW (ft.putObj l (.loop {iB with state:=.busy})) kn ko ou)→Be H.length ad ae H kn ko bG→ou.heap[l]?=j (.loop {iB with state:=.busy})→tf kn ko l→
   ∃v av,(Instr.endRound l (Qt du)).run E.P ou=.ok v av∧a1 (.returned v) av):
  oN.wpIn (qu (j l)) m E.P (Exit.then (λ apm apn=>∃Yf,(Instr.beginRound l).run E.P apn=.ok () Yf∧body.wpIn (qu (j l)) m E.P (roundPost E.P l a1) apm Yf) (λ _ _ _=>False)) {tmps:=tmps,defers:=[]} w:=by
 unfold mw at h;split at h
 next k5 H1 apo=>
  split at h
  next e d' app apq=>
   simp only[br,bM]at h;obtain⟨rfl,rfl⟩:=h;refine hex (j l) m 0 H.length f oN R H .normal k5 H1 apo ad ae w _ _ Hy (.inr y0) hm au aN (X2 _ _ _ _) (iC _) λ hD ft apr KF=>?_
   obtain⟨fs,eW,bK,bJ,cL,e4,mI⟩:=KF;have iz:=K3 oU ao bJ;have ns:=Qr oU (pL ao) bJ;refine⟨_,run_beginRound iz ak,?_⟩;refine hex (j l) m 0 H.length f body k5 H1 e d' app apq fs eW _ hD _ (by rw[apr];exact Hz) (.inr Bl) hm (Bh bK ns) e4 (Bf mI iz _) (iC _) λ a3 ou Yg aps=>?_
   obtain⟨kn,ko,w8,ur,w9,D5,aVg⟩:=aps;have k':(ft.putObj l (.loop {iB with state:=.busy})).heap[l]?=j (.loop {iB with state:=.busy}):=World.putObj_heap_same (pL iz);have:=dA kn ko ou w8 ⟨fs,eW,ft,bJ,ur⟩ (cL.trans w9) (K3 ns k' ur) (Qr ns (pL k') ur);cases e<;>exact this
  ·cases h
 ·cases h
def apt{n:Nat}(hex:K4 E n)(hseq:Bk E){nn dj B f I:Nat}{g:Operand}{oN body:Code}{R bY:Fr}{aq:ab}{ex:lz}{xs:aZ}{a:Act}{Q:Exit→Act→World→Prop}
  (aU:tV E H (bw E R g)=j xs)(h:k6 (mw (λ dQ c R H=>exec E n dQ f c R H) oN body) I R xs H=j (ex,bY,aq))
  (ax:I<a.tmps.size)(y0:mu oN=ah)(Bl:mu body=ah)(Hy:codeOk E f a.tmps.size oN=ah)(Hz:codeOk E f a.tmps.size body=ah)(hm:E.P.follows .mixedOrders=ah)(au:cf E ad ae H w)(aN:fq ad ae H R a.tmps)
  (jS:l9 dj ad ae w a.defers)(pM:dj≤w.heap.size)
  (fk:∀b_ av,b_.tmps.size=a.tmps.size→pK E B ad ae H w aq av (λ aQ aG=>fq aQ aG aq bY b_.tmps∧l9 dj aQ aG av b_.defers)→Q (Qn ex) b_ av):(Code.rangeFunc g #[I] oN body).wpIn (qu o) nn E.P Q a w:=by
 unfold tV at aU;split at aU
 next K5 Yh sk=>
  split at aU
  next L Yi fl j4=>
   have apu:=aU;obtain⟨qt,qy⟩:=hseq K5 L fl;have rg:=e7 au aN g;rw[sk]at rg;generalize bb:a.eval g=y at rg;cases rg with
   |aS _ _ _ fb cs apv fp _ ym=>
   have apw:fb=#[]:=Array.size_eq_zero_iff.1 (by simpa using apv);subst apw;have Qu:∀(k:Nat) (a:ay),Yh[k]?=j a→bf ad ae H a (cs.toList.getD k undef):=λ k a aF=>by have:=ym k a aF;rw[pN,nM,←dM];exact this
   obtain⟨kG,ar,aM,Bm,bZ⟩:=Yd au Yh Yi cs.toList j4 (by simpa using fp) Qu;have PQ:∃fn,E.P.funcs[K5]?=j fn∧fn.body.isSome=ah∧(fn.name== "runtime.NumGoroutine")=J:=by
    unfold lB at qt;split at qt
    next fn rf=>simp only[c',rh]at qt;exact⟨fn,rf,qt.1,qt.2⟩
    ·cases qt
   obtain⟨Qv,apx,aVh,apy⟩:=PQ;have iZ:¬Qv.body=o:=by cases fG:Qv.body<;>simp_all
   have DP:¬Qv.name= "runtime.NumGoroutine":=by simpa using apy
   refine wpIn_rangeFunc ?_;intro fn rf;obtain⟨rec,sq⟩:∃rec:LoopState→Option Code→Loop,rec=λ bO cd=>{state:=bO,pending:=cd,fn,tmps:=a.tmps,params:=#[I],assign:=oN,body,defers:=w.heap.size}:=⟨_,rfl⟩
   obtain⟨sr,Bn⟩:∃sr,(w.alloc (.deferred (j []))).alloc (.loop (rec .ready o))=sr:=⟨_,rfl⟩;have apz:sr.heap[w.heap.size+1]?=j (.loop (rec .ready o)):=by rw[←Bn];have:=World.alloc_heap_new (w.alloc (.deferred (j []))) (.loop (rec .ready o));rwa [Qs]at this
   have KD:sr.heap[w.heap.size]?=j (.deferred (j [])):=by rw[←Bn];exact(Bj _ _ _ aX).trans (World.alloc_heap_new w _)
   have dR:cf E ad ae H sr:=by rw[←Bn];exact X3 (X3 au)
   have mD:Trans ad ae w ad ae sr:=by rw[←Bn];exact X4 (X4 (Trans.refl _ _ _))
   have apA:l9 dj ad ae sr (uq w.heap.size::a.defers):=by
    obtain⟨mL,m1,m2,m3⟩:=(by rw[←Bn];exact X5 (X5 jS):l9 dj ad ae sr a.defers);refine⟨w.heap.size::mL,by rw[m1];rfl,G3.2 ⟨λ Yj=>?_,m2⟩,λ D mA=>?_⟩
    ·obtain⟨aVi,cy,_,fy⟩:=jS;rw[Ye (m1.symm.trans cy)]at Yj;have:=pL (fy _ Yj).2.1;omega
    ·rcases mx.1 mA with rfl|mA
     ·exact⟨pM,KD,X9 au (cS _)⟩
     ·exact m3 D mA
   refine⟨w.heap.size+1,[uq w.heap.size],sr,{target:=.fn (.func K5) cs,args:=#[.func (.yield (w.heap.size+1)) #[] #[]]},sr,K5,
    #[.func (.yield (w.heap.size+1)) #[] #[]]++cs,sr,?_,?_,λ _ _=>trivial,?_,λ h=>(by cases h),?_⟩
   ·rw[←Bn,sq];exact run_enterLoop_outer _ _ _ _ _
   ·simp only[resolve,bb];have mK:a.eval (.const (.func (.yield (w.heap.size+1)) #[] #[]))=.func (.yield (w.heap.size+1)) #[] #[]:=rfl;simp[Deferred.ofValue,mK]
   ·simp[invoke,callFunc,apx,DP,iZ]
   ·have oU:tf ad ae (w.heap.size+1):=X9 au aa;have qp:(#[.func (.yield (w.heap.size+1)) #[] #[]]++cs:Array Value)=#[.func (.yield (w.heap.size+1)) #[] #[]]++(kG.map Hx).toArray:=by rw[←ar]
    rw[qp];refine(qy (w.heap.size+1) (nn-1) Yi xs kG ad
     (λ ac W=>∃aQ aG ss,cf E aQ aG ss W∧Trans ad ae w aQ aG W∧fz ad ae H aQ aG ss∧k6 (mw (λ dQ c R H=>exec E n dQ f c R H) oN body) I R (xs.drop ac) ss=j (ex,bY,aq)∧
      l9 dj aQ aG W (uq w.heap.size::a.defers)∧W.heap[w.heap.size+1]?=j (.loop (rec .ready o))∧tf aQ aG (w.heap.size+1))
     (λ W=>∃aQ aG c,Qt ex=j c∧bY=R∧cf E aQ aG aq W∧Trans ad ae w aQ aG W∧fz ad ae H aQ aG aq∧l9 dj aQ aG W (uq w.heap.size::a.defers)∧
      W.heap[w.heap.size+1]?=j (.loop (rec .done (j c)))∧tf aQ aG (w.heap.size+1))
     sr apu aM ?_ ?_ ?_ ?_ ?_ ?_ ?_ ⟨ad,ae,H,dR,mD,fz.refl _ _ _,by rw[i6];exact h,apA,apz,oU⟩).mono ?_
    ·intro k b e5 an apB m x ap;obtain⟨v,cy,cN⟩:=bZ k b e5 an apB m x ap;refine⟨v,?_,cN⟩;have aA:sr.heap[b]?=w.heap[b]?:=by have ql:=Bm b (jP an);rw[←Bn];exact(Bj _ _ _ (by rw[Qs];omega)).trans (Bj _ _ _ ql)
     simpa[q9,aA]using cy
    ·rintro ac W ⟨aQ,aG,ss,cm,cp,_⟩ b al an;exact cm.ei b al (cp.ei b al an)
    ·rintro ac W k ⟨aQ,aG,ss,cm,cp,c3,c5,l7,mM,pO⟩;exact⟨aQ,aG,ss,K0 cm k,⟨cp.os,cp.tape,cp.output,cp.size,cp.frame,cp.ei,cp.r2,cp.own⟩,c3,c5,l7,mM,pO⟩
    ·rintro W k ⟨aQ,aG,c,gN,HA,cm,cp,c3,l7,mM,pO⟩;exact⟨aQ,aG,c,gN,HA,K0 cm k,⟨cp.os,cp.tape,cp.output,cp.size,cp.frame,cp.ei,cp.r2,cp.own⟩,c3,l7,mM,pO⟩
    ·rintro ac W jT ⟨aQ,aG,ss,cm,cp,c3,c5,l7,mM,pO⟩ an;exact⟨aQ,aG,ss,X6 cm an,X7 cp an,c3,c5,X8 l7 an,(an.block _ (pL mM)).trans mM,pO⟩
    ·rintro W jT ⟨aQ,aG,c,gN,HA,cm,cp,c3,l7,mM,pO⟩ an;exact⟨aQ,aG,c,gN,HA,X6 cm an,X7 cp an,c3,X8 l7 an,(an.block _ (pL mM)).trans mM,pO⟩
    ·rintro m ac Qw x W ap apC ⟨aQ,aG,ss,cm,cp,c3,c5,l7,mM,pO⟩;have kM:=(bQ.1 ap).1;rw[jk kM,(bQ.1 ap).2]at c5;have Qx:=run_yield (P:=E.P) (args:=#[x]) mM (by rw[sq];rfl);have pw:(rec .ready o).fn=fn∧(rec .ready o).tmps=a.tmps∧(rec .ready o).params=#[I]∧(rec .ready o).assign=oN∧(rec .ready o).body=body:=by rw[sq];exact⟨rfl,rfl,rfl,rfl,rfl⟩
     obtain⟨g_,qd,HB,A9,apD⟩:=pw;rw[g_,qd,HB,A9,apD]at Qx;have apE:((#[I]:Array Tmp).zip #[x]).foldl (λ tmps (t,a)=>tmps.setIfInBounds t a) a.tmps=a.tmps.setIfInBounds I x:=aX;rw[apE]at Qx;refine⟨fn,_,oN,body,Qx,roundIn_of_wpIn rf ?_⟩;simp only[k6]at c5;have hv:fq aQ aG ss ((I,Qw)::R) (a.tmps.setIfInBounds I x):=by have p:fq aQ aG ss R ({tmps:=a.tmps,defers:=[]}:Act).tmps:=aN.mono c3;exact p.put (v:=Qw) (x:=x) (ng cp.ei (iC _) (λ c aj=>absurd aj (ti _)) _ _ apC) (j I) (λ k aA=>by cases aA;exact ax)
     cases Qy:mw (λ dQ c R H=>exec E n dQ f c R H) oN body ((I,Qw)::R) ss with
     |none=>rw[Qy]at c5;cases c5
     |some q=>
      obtain⟨du,bG⟩:=q;rw[Qy]at c5;refine apl hex Qy y0 Bl (by simpa using Hy) (by simpa using Hz) hm cm hv mM (by rw[sq]) pO λ kn ko ou g1 g2 g3 g4 g5=>?_
      obtain⟨fs,eW,ft,t1,t2⟩:=g2;have dO:Trans ad ae w kn ko ou:=(Bi (l:=w.heap.size+1) (cp.trans t1) aa).trans t2;have iz:=K3 pO mM t1;have Qz:l9 dj kn ko ou (uq w.heap.size::a.defers):=Hu (Bf (Hu l7 t1) iz _) t2;have QA:fz ad ae H kn ko bG:=λ a v r=>g3 a v (sc (c3 a v r)) (c3 a v r)
      have Yk:=run_endRound (P:=E.P) (Qt du) g4;rw[sq]at Yk;refine⟨_,_,Yk,?_⟩;have pE:∀al,(ou.putObj (w.heap.size+1) al).heap[w.heap.size+1]?=j al:=λ al=>World.putObj_heap_same (pL g4)
      cases du with
      |normal=>simp only at c5;refine .inl ⟨rfl,kn,ko,bG,Bh g1 g5,Bi dO aa,QA,c5,Bf Qz g4 _,?_,g5⟩;rw[pE,sq];rfl
      |ret=>simp only[br,bM]at c5;obtain⟨rfl,rfl,rfl⟩:=c5;refine .inr ⟨rfl,kn,ko,.ret,rfl,rfl,Bh g1 g5,Bi dO aa,QA,Bf Qz g4 _,?_,g5⟩;rw[pE,sq];rfl
      |exit id=>simp only[br,bM]at c5;obtain⟨rfl,rfl,rfl⟩:=c5;refine .inr ⟨rfl,kn,ko,.exit id,rfl,rfl,Bh g1 g5,Bi dO aa,QA,Bf Qz g4 _,?_,g5⟩;rw[pE,sq];rfl
    ·rintro e K6 ⟨⟨v,rfl⟩,(⟨aQ,aG,ss,cm,cp,c3,c5,l7,mM,pO⟩|⟨aQ,aG,c,gN,HA,cm,cp,c3,l7,mM,pO⟩)⟩
     ·rw[mN]at c5;simp only[k6,br,bM]at c5;obtain⟨rfl,rfl,rfl⟩:=c5;refine⟨o,_,by have:=run_endLoop (P:=E.P) mM (by rw[sq];simp);rw[sq]at this;exact this,?_⟩;refine fk _ _ rfl ⟨aQ,aG,Bh cm pO,Bi cp aa,λ a v _ r=>c3 a v r,aN.mono c3,Bf l7 mM _⟩
     ·subst HA;refine⟨j c,_,by have:=run_endLoop (P:=E.P) mM (by rw[sq];simp);rw[sq]at this;exact this,?_⟩;have bu:=fk {a with defers:=[uq w.heap.size]++a.defers} (K6.putObj (w.heap.size+1) (.loop {rec .done (j c)with state:=.exhausted})) rfl ⟨aQ,aG,Bh cm pO,Bi cp aa,λ a v _ r=>c3 a v r,aN.mono c3,Bf l7 mM _⟩;rw[sq]at bu;cases ex with
      |normal=>cases gN
      |ret=>cases gN;exact wpIn_ret bu
      |exit id=>cases gN;exact wpIn_exit bu
  ·cases aU
 ·cases aU
def apF(au:cf E ad ae H w){I:ay}{y:Value}(h:bf ad ae H I y){t:TypeId}{v:ay}(ao:u1 E H t I=j v):
  ∃b x,y=.pointer (j b)∧(loadVar t b).run E.P w=.ok x w∧bf ad ae H v x:=by
 obtain⟨x,p,U⟩:=Ve au h ao;have ax:∃b,y=.pointer (j b):=by
  unfold u1 at ao;split at ao
  next cells k n an _ _=>obtain⟨b,base,rfl,_⟩:=JK au h an;exact⟨_,rfl⟩
  next cells k n an _ _=>obtain⟨b,base,rfl,_⟩:=JK au h an;exact⟨_,rfl⟩
  ·cases ao
 obtain⟨b,rfl⟩:=ax;exact⟨b,x,rfl,by simpa[Instr.loadAt,Av]using p,U⟩
def K7(tmps:Array Value):ResultVar→Sem Value
 |.tmp t=>pure (tmps.getD t undef)
 |.cell a t=>do loadVar t (←asAddr (tmps.getD a undef))
def Yl(au:cf E ad ae H w){R:Fr}{tmps:Array Value}(aN:fq ad ae H R tmps):∀(l:List ResultVar) (bW:aZ),rW E R H l=j bW→
  ∃xs:k8,(l.mapM (K7 tmps)).run E.P w=.ok xs w∧xs.length=bW.length∧∀(k:Nat) (a:ay),bW[k]?=j a→bf ad ae H a (xs.toArray.getD k undef)
 |[],bW,h=>by simp only[rW,br]at h;subst h;exact⟨[],aX,rfl,λ k a h=>by simp at h⟩
 |r::l,bW,h=>by
  simp only[rW]at h;split at h
  next a0 bW p U=>
   simp only[br]at h;subst h;obtain⟨xs,ar,aM,bZ⟩:=Yl au aN l bW U;have a8:∃x,(K7 tmps r).run E.P w=.ok x w∧bf ad ae H a0 x:=by
    cases r with
    |tmp t=>simp only[As,br]at p;subst p;exact⟨_,rfl,aN t⟩
    |cell a t=>simp only[As]at p;obtain⟨b,x,bK,bJ,cL⟩:=apF au (aN a) p;refine⟨x,?_,cL⟩;simp only[K7,bK,asAddr,ep,e8,eM,bJ]
   obtain⟨x,ap,rx⟩:=a8;refine⟨x::xs,?_,by simp[aM],λ k a h=>?_⟩
   ·rw[OG,ep,ap];simp only[eM,ep,ar,e8]
   ·cases k with
    |zero=>simp at h;subst h;simpa using rx
    |succ k=>simpa using bZ k a (by simpa using h)
  ·cases h
def apG(au:cf E ad ae H w){R:Fr}{tmps:Array Value}(aN:fq ad ae H R tmps){fn:Func}{r:ay}(h:x6 E R H fn.results.toList=j r):
  ∃v,(results fn tmps).run E.P w=.ok v w∧bf ad ae H r v:=by
 unfold x6 at h;have key:∀bW,rW E R H fn.results.toList=j bW→∃xs:k8,(results fn tmps).run E.P w=.ok (if h:xs.toArray.size=1 then xs.toArray[0]else .tuple xs.toArray) w∧xs.length=bW.length∧∀(k:Nat) (a:ay),bW[k]?=j a→bf ad ae H a (xs.toArray.getD k undef):=by intro bW has;obtain⟨xs,ar,aM,bZ⟩:=Yl au aN _ bW has;refine⟨xs,?_,aM,bZ⟩;unfold results;rw[ep,Array.mapM_eq_mapM_toList,map_eq_pure_bind,ep];change ((ud E.P (List.mapM (K7 tmps) fn.results.toList) w).andThen _).andThen _=_;rw[ar];rfl
 split at h
 next a has=>
  obtain rfl:=q6 h;obtain⟨xs,ar,aM,bZ⟩:=key _ has;refine⟨_,ar,?_⟩;have ap:xs.toArray.size=1:=by simpa using aM
  rw[dif_pos ap];have:=bZ 0 _ rfl;simpa[dM,ap]using this
 next bW gE has=>
  cases h;obtain⟨xs,ar,aM,bZ⟩:=key _ has;refine⟨_,ar,?_⟩;have ap:¬xs.toArray.size=1:=λ p=>by simp only[Dq]at p;rw[aM]at p;obtain⟨a,rfl⟩:=Ym.1 p;exact gE a rfl
  rw[dif_neg ap];exact .bl _ _ (by simpa using aM) bZ
 ·cases h
def Yn:∀(l:aZ) (ac k:Nat),get (ac+k) (rV ac l)=(l[k]?).getD .dead
 |[],ac,k=>by simp[rV,get]
 |a::l,ac,0=>by simp[rV,get]
 |a::l,ac,k+1=>by have:=Yn l (ac+1) k;rw[show ac+(k+1)=ac+1+k by omega];simp only[rV,get,show¬ac+1+k=ac by omega,if_false];rw[this];simp
def Yo{n:Nat}(hex:K4 E n):oW E (jv E (exec E n)):=by
 intro f args H r aq h ad ae w vs au b9;unfold jv at h;split at h
 next fn rf=>
  split at h
  next c aj=>
   split at h
   next h9=>
    obtain⟨yl,hlen⟩:=h9;unfold At at yl;rw[rf]at yl;simp only[aj,c']at yl;split at h
    ·cases h
    next ex R H1 gE ap=>
     split at h
     next hq ak=>
      refine(callsIn_wide (n:=0)).1 (callsIn_of_wp_marks rf aj trivial ?_ rfl);have eQ:(vs++AR (fn.ntmps-vs.size) undef).size=fn.ntmps:=by have:=b9.1;simp;omega
      refine hex o 0 w.heap.size H.length f c _ H ex R H1 ap ad ae w _ _ (by rw[eQ];exact yl.1) (.inl rfl) yl.2 au (λ k=>?_) (X2 _ _ _ _) (cS _) λ b_ av aU apH=>?_
      ·have:=Yn args 0 k;simp only[cJ]at this;rw[this];cases aA:args[k]? with
       |none=>exact .dead _
       |some b=>
        have p:=b9.2 k b aA;have nk:=(bQ.1 aA).1;have:(vs++AR (fn.ntmps-vs.size) undef).getD k undef=vs.getD k undef:=by rw[dM,yD (by rw[b9.1];exact nk),←dM]
        rw[this];exact p
      ·obtain⟨fs,eW,bK,bJ,cL,e4,mL,m1,m2,m3⟩:=apH;have D6:LeavesInM A6 0 E.P fn b_.tmps (λ e av=>∃x,e=.returned x∧cz E ad ae H w aq av λ aQ aG=>bf aQ aG aq r x) b_.defers .returning av:=by
        rw[m1];refine X_ (l_:=w) (tg:=ad) (th:=ae) mL av bK bJ m2 m3 λ r3 i1 hn=>?_
        obtain⟨v,bo,iY⟩:=apG i1 e4 ak;obtain⟨kn,ko,w8,ur,w9,D5⟩:=apg i1 (B:=H.length) h iY;exact⟨v,bo,v,rfl,kn,ko,w8,hn.trans ur,λ a v r=>w9 a v (sc r) (cL a v (sc r) r),D5⟩
       cases ex with
       |normal=>exact D6
       |ret=>exact D6
       |exit id=>exact(gE id rfl).elim
     ·cases h
    ·cases h
   ·cases h
  ·cases h
 ·cases h
def apI(uk:A3 E)(hseq:Bk E)(hmk:A4 E):∀n,K4 E n∧Ya E n:=by
 intro n;induction n with
 |zero=>exact⟨λ ro nn dj B f c R H ex bY aq h=>by simp[exec]at h,λ ro nn dj B f c R H ex bY aq h=>by simp[exec]at h⟩
 |succ n a'=>
  obtain⟨tj,apJ⟩:=a';have cD:oW E (gI E (jv E (exec E n))):=anS hmk (anE (Yo tj) uk);have loop:Ya E (n+1):=by
   intro ro nn dj B f c R H ex bY aq h ad ae w a Q jU jO hm au aN jS pM fk;rw[roundsIn_succ];simp only[exec]at h;obtain⟨eI,ey,pD,hc,nS,K2⟩:=apd B (f:=f) (id:=(gj c).getD 0) au aN;split at h
   next k5 H1 p=>
    refine tj ro nn dj B f c _ _ _ k5 H1 p eI ey w a _ jU jO hm pD K2 (Hu jS hc) pM λ b_ av aU b9=>?_
    obtain⟨fs,eW,bK,bJ,cL,e4,mI⟩:=b9;refine apJ ro nn dj B f c k5 H1 ex bY aq h fs eW av b_ Q (by rw[aU];exact jU) jO hm bK e4 mI (s6 pM bJ.size) λ QB r3 s9 HC=>?_
    obtain⟨kn,ko,w8,ur,w9,D5⟩:=HC;exact fk QB r3 (s9.trans aU) ⟨kn,ko,w8,hc.trans (bJ.trans ur),nS.trans (cL.trans w9),D5⟩
   next gE=>
    refine tj ro nn dj B f c _ _ ex bY aq h eI ey w a _ jU jO hm pD K2 (Hu jS hc) pM λ b_ av aU b9=>?_
    obtain⟨fs,eW,bK,bJ,cL,e4⟩:=b9;have:=fk b_ av aU ⟨fs,eW,bK,hc.trans bJ,nS.trans cL,e4⟩;cases ex with
    |normal=>exact absurd h (gE _ _)
    |exit id=>exact this
    |ret=>exact this
  refine⟨?_,loop⟩;intro ro nn dj B f c R H ex bY aq h ad ae w a Q jU jO hm au aN jS pM fk;cases c with
  |skip=>simp only[exec,br,bM]at h;obtain⟨rfl,rfl,rfl⟩:=h;exact wpIn_skip (fk a w rfl ((cz.refl au aN).Bg jS rfl))
  |label l=>simp only[exec,br,bM]at h;obtain⟨rfl,rfl,rfl⟩:=h;exact wpIn_label (fk a w rfl ((cz.refl au aN).Bg jS rfl))
  |ret=>simp only[exec,br,bM]at h;obtain⟨rfl,rfl,rfl⟩:=h;exact wpIn_ret (fk a w rfl ((cz.refl au aN).Bg jS rfl))
  |exit id=>simp only[exec,br,bM]at h;obtain⟨rfl,rfl,rfl⟩:=h;exact wpIn_exit (fk a w rfl ((cz.refl au aN).Bg jS rfl))
  |region id ops draw=>
   simp only[codeOk,c',yq,rh]at jU;have qv:DR a.tmps.size ops.toList:=by intro al ci d aP;have:=(py.1 jU.1) al ci;rw[aP]at this;simpa using this
   cases draw with
   |false=>
    simp only[exec]at h;split at h
    next k5 H1 p=>simp only[br,bM]at h;obtain⟨rfl,rfl,rfl⟩:=h;refine wpIn_region_list (PS cD ops.toList p au aN qv λ b_ av kN aU b9=>fk b_ av aU ((b9.imp λ aQ aG _ _ h=>h.JH _).Bg jS kN))
    ·cases h
   |true=>
    simp only[exec]at h;cases HD:E.rN f id with
    |true=>
     rw[HD]at h jU;simp only at h jU;split at h
     next k5 H1 e2 p=>
      split at h
      next aA=>simp only[br,bM]at h;obtain⟨rfl,rfl,rfl⟩:=h;have aP:=jU.2.resolve_left aX;simp only[c']at aP;refine ao1 cD p aA aP.1 aP.2 hm au aN qv λ b_ av jB he kN aU b9=>fk b_ av aU ((b9.imp λ aQ aG _ _ h=>(XO he h).JH _).Bg jS kN)
      ·cases h
     ·cases h
    |false=>
    rw[HD]at h jU;simp only at h jU;split at h
    next k5 H1 e2 p=>
     split at h
     next aA=>simp only[br,bM]at h;obtain⟨rfl,rfl,rfl⟩:=h;have aP:=jU.2.resolve_left aX;simp only[c']at aP;refine aoY cD p aA aP.1 aP.2 hm au aN qv λ b_ av jB he kN aU b9=>fk b_ av aU ((b9.imp λ aQ aG _ _ h=>(XO he h).JH _).Bg jS kN)
     ·cases h
    ·cases h
  |seq x y=>
   simp only[codeOk,c']at jU;simp only[exec]at h;refine wpIn_seq ?_;have HE:ro=o∨mu x=ah:=jO.imp id λ h=>by simp only[mu,c']at h;exact h.1
   have apK:ro=o∨mu y=ah:=jO.imp id λ h=>by simp only[mu,c']at h;exact h.2
   split at h
   next k5 H1 p=>
    refine tj ro nn dj B f x _ H _ k5 H1 p ad ae w a _ jU.1 HE hm au aN jS pM λ b_ av aU b9=>?_
    obtain⟨fs,eW,bK,bJ,cL,e4,mI⟩:=b9;refine tj ro nn dj B f y k5 H1 ex bY aq h fs eW av b_ Q (by rw[aU];exact jU.2) apK hm bK e4 mI (s6 pM bJ.size) λ QB r3 s9 HC=>?_
    obtain⟨kn,ko,w8,ur,w9,D5⟩:=HC;exact fk QB r3 (s9.trans aU) ⟨kn,ko,w8,bJ.trans ur,cL.trans w9,D5⟩
   next gE=>
    refine tj ro nn dj B f x _ H ex bY aq h ad ae w a _ jU.1 HE hm au aN jS pM λ b_ av aU b9=>?_
    have:=fk b_ av aU b9;cases ex with
    |normal=>exact absurd h (gE _ _)
    |exit id=>exact this
    |ret=>exact this
  |cond c x y=>
   simp only[codeOk,c']at jU;simp only[exec]at h;split at h
   next an=>exact wpIn_cond_true (XP au aN an) (tj ro nn dj B f x R H ex bY aq h ad ae w a Q jU.1 (jO.imp id λ h=>by simp only[mu,c']at h;exact h.1) hm au aN jS pM fk)
   next an=>exact wpIn_cond_false (XP au aN an) (tj ro nn dj B f y R H ex bY aq h ad ae w a Q jU.2 (jO.imp id λ h=>by simp only[mu,c']at h;exact h.2) hm au aN jS pM fk)
   ·cases h
  |block id c=>
   simp only[codeOk]at jU;simp only[exec]at h;refine wpIn_block ?_;have HE:ro=o∨mu c=ah:=jO;split at h
   next ac k5 H1 p=>
    refine tj ro nn dj B f c R H _ k5 H1 p ad ae w a _ jU HE hm au aN jS pM λ b_ av aU b9=>?_
    show Exit.inBlock id Q (.exit ac) b_ av;unfold Exit.inBlock;split at h
    next bc=>simp only[br,bM]at h;obtain⟨rfl,rfl,rfl⟩:=h;simp only[bc,if_true];exact fk b_ av aU b9
    next bc=>simp only[br,bM]at h;obtain⟨rfl,rfl,rfl⟩:=h;simp only[bc,if_false];exact fk b_ av aU b9
   next gE=>
    refine tj ro nn dj B f c R H ex bY aq h ad ae w a _ jU HE hm au aN jS pM λ b_ av aU b9=>?_
    have:=fk b_ av aU b9;cases ex with
    |normal=>exact this
    |exit id=>exact absurd h (gE _ _ _)
    |ret=>exact this
  |loop c=>simp only[codeOk]at jU;exact wpIn_loop_rounds _ (loop ro nn dj B f c R H ex bY aq h ad ae w a Q jU jO hm au aN jS pM fk)
  |scope c=>
   simp only[codeOk]at jU;simp only[exec]at h;rcases jO with rfl|jO
   ·refine wpIn_wide.2 (wp_scope_straight (wpIn_wide.1 (tj o nn dj B f c R H ex bY aq h ad ae w a _ jU (.inl rfl) hm au aN jS pM λ b_ av aU b9=>?_)));have:=fk b_ av aU b9;cases ex<;>exact this
   ·cases jO
  |rangeFunc g bn x y=>
   simp only[codeOk,c',py,decide_eq_true_eq]at jU;obtain⟨⟨y1,y0,Bl⟩,Hy,Hz⟩:=jU;rcases jO with rfl|jO
   ·simp only[exec]at h;split at h
    next I xs apL aU=>
     have apM:bn=#[I]:=by rw[←Array.toList_inj];exact apL
     subst apM;exact apt tj hseq aU h (y1 I aX) y0 Bl Hy Hz hm au aN jS pM fk
    ·cases h
   ·cases jO
  |_=>simp[exec]at h
def apN(uk:A3 E)(hseq:Bk E)(hmk:A4 E)(n:Nat):oW E (call E n):=Yo (apI uk hseq hmk n).1
end
section
variable{E:Env}{aO kI:dY}
def pP(aO kI:dY):Prop:=∀f a H r,aO f a H=j r→kI f a H=j r
def QC(ex gK:Gd):Prop:=∀B f c R H r,ex B f c R H=j r→gK B f c R H=j r
def apO(h:pP aO kI):pP (fg E aO) (fg E kI):=by
 intro f a H r ak;unfold fg at ak⊢;split
 next g aR=>rw[aR]at ak;exact ak
 next aR=>rw[aR]at ak;exact h _ _ _ _ ak
def Yp(h:pP aO kI):pP (lX E aO) (lX E kI):=by
 intro f a H r ak;unfold lX at ak⊢;cases ax:(js E f H a)with
 |none=>rw[ax]at ak;cases ak
 |some x=>
  obtain⟨bW,H1⟩:=x;rw[ax]at ak;simp only at ak⊢;split at ak
  ·cases ak
  next iB L aj=>rw[apO h _ _ _ _ aj];exact ak
def apP(h:pP aO kI):pP (gI E aO) (gI E kI):=by
 intro f a H r ak;unfold gI at ak⊢;split
 next g aR=>rw[aR]at ak;exact ak
 next aR=>
  rw[aR]at ak;simp only at ak;split
  next U=>rw[U]at ak;obtain⟨iB,aq⟩:=r;obtain⟨rfl,az⟩:=G_ ak;rw[Yp h _ _ _ _ az];exact KK _
  next U=>rw[U]at ak;exact Yp h _ _ _ _ ak
def K8(h:pP aO kI){al:Op}{R:Fr}{H:ab}{r:ay×ab}(ak:cw E aO al R H=j r):cw E kI al R H=j r:=by
 unfold cw at ak⊢;split at ak
 ·split at ak
  ·split at ak
   next g bW aR he=>rw[if_pos he];exact apP h _ _ _ _ ak
   ·cases ak
  ·cases ak
 ·exact ak
def HF(h:pP aO kI){ops:eh}:∀{l:eh} {R:Fr} {H:ab} {r:Fr×ab},jg E aO ops l R H=j r→jg E kI ops l R H=j r
 |[],R,H,r,ak=>ak
 |al::l,R,H,r,ak=>by
  simp only[jg]at ak⊢;split at ak
  ·split at ak
   next v aq bo=>rw[K8 h bo];exact HF h ak
   ·cases ak
  ·exact HF h ak
  ·cases ak
def Yq(h:pP aO kI){ops:eh}{al:Oper}{R:Fr}{H:ab}{r:Fr×ab×cq}(ak:q3 E aO ops al R H=j r):q3 E kI ops al R H=j r:=by
 unfold q3 at ak⊢;split at ak
 ·split at ak
  next v aq bo=>rw[K8 h bo];exact ak
  ·cases ak
 ·exact ak
 ·cases ak
def K9(h:pP aO kI){ops:eh}:∀{l:eh} {R:Fr} {H:ab} {r:Fr×ab×lZ},iK E aO ops l R H=j r→iK E kI ops l R H=j r
 |[],R,H,r,ak=>ak
 |al::l,R,H,r,ak=>by
  simp only[iK]at ak⊢;split at ak
  next k5 H1 t aU=>
   rw[Yq h aU];simp only;split at ak
   next d' bG dh bA=>rw[K9 h bA];exact ak
   ·cases ak
  ·cases ak
def Yr(h:pP aO kI){c:Nat}{al:Op}{R:Fr}{H:ab}{r:ay×ab}(ak:kf E aO c al R H=j r):kf E kI c al R H=j r:=by
 unfold kf at ak⊢;cases aN:en al with
 |true=>rw[aN]at ak;exact ak
 |false=>rw[aN]at ak;exact K8 h ak
def HG(h:pP aO kI){ops:eh}:∀{l:eh} {c:Nat} {R:Fr} {H:ab} {r:Fr×ab×lZ},ju E aO ops c l R H=j r→ju E kI ops c l R H=j r
 |[],c,R,H,r,ak=>ak
 |al::l,c,R,H,r,ak=>by
  simp only[ju]at ak⊢;split at ak
  ·split at ak
   next v aq bo=>
    rw[Yr h bo];simp only;split at ak
    next d' bG dh bA=>rw[HG h bA];exact ak
    ·cases ak
   ·cases ak
  ·split at ak
   next d' bG dh bA=>rw[HG h bA];exact ak
   ·cases ak
  ·cases ak
def QD{ex gK:Gd}(h:QC ex gK):pP (jv E ex) (jv E gK):=by
 intro f a H r ak;unfold jv at ak⊢;split at ak
 next fn rf=>
  split at ak
  next c aj=>
   split at ak
   next h9=>
    simp only[h9,if_true];rw[if_pos ⟨trivial,trivial⟩];cases ap:ex H.length f c (rV 0 a) H with
    |none=>rw[ap]at ak;cases ak
    |some x=>rw[h _ _ _ _ _ _ ap,←ap];exact ak
   ·cases ak
  ·cases ak
 ·cases ak
def K_{ex gK:Nat→Code→Fr→ab→hj}(h:∀B c R H r,ex B c R H=j r→gK B c R H=j r){a b:Code}{R:Fr}{H:ab}{q:lz×ab}(ak:mw ex a b R H=j q):mw gK a b R H=j q:=by
 unfold mw at ak⊢;split at ak
 next k5 H1 p=>
  rw[h _ _ _ _ _ p];simp only;split at ak
  next e d' bG U=>rw[h _ _ _ _ _ U];exact ak
  ·cases ak
 ·cases ak
def K'{rd Ys:Fr→ab→Option (lz×ab)}(h:∀R H q,rd R H=j q→Ys R H=j q){I:Nat}{R:Fr}:∀(xs:aZ) {H:ab} {r:lz×Fr×ab},k6 rd I R xs H=j r→k6 Ys I R xs H=j r
 |[],H,r,ak=>ak
 |x::xs,H,r,ak=>by
  simp only[k6]at ak⊢;cases ap:rd ((I,x)::R) H with
  |none=>rw[ap]at ak;cases ak
  |some q=>
   rw[ap]at ak;rw[h _ _ _ ap];obtain⟨e,H1⟩:=q;cases e with
   |normal=>simp only at ak⊢;exact K' h xs ak
   |exit id=>exact ak
   |ret=>exact ak
def QE(n:Nat)(B f:Nat)(g:Operand)(bn:Array Tmp)(a b:Code)(R:Fr)(H:ab):exec E (n+1) B f (.rangeFunc g bn a b) R H=match bn.toList,tV E H (bw E R g)with
 |[I],j xs=>k6 (mw (λ dQ c R H=>exec E n dQ f c R H) a b) I R xs H
 |_,_=>o:=rfl
def apQ:∀n,QC (exec E n) (exec E (n+1)):=by
 intro n;induction n with
 |zero=>intro B f c R H r h;simp[exec]at h
 |succ n a'=>
  intro B f c R H r h;have cD:pP (jv E (exec E n)) (jv E (exec E (n+1))):=QD a';cases c with
  |region id ops draw=>
   cases draw with
   |false=>
    rw[exec]at h⊢;split at h
    next bY aq bo=>rw[HF cD bo];exact h
    ·cases h
   |true=>
    rw[exec]at h⊢;cases HD:E.rN f id with
    |true=>
     rw[HD]at h;simp only at h⊢;split at h
     next bY aq e2 bo=>rw[HG cD bo];exact h
     ·cases h
    |false=>
     rw[HD]at h;simp only at h⊢;split at h
     next bY aq e2 bo=>rw[K9 cD bo];exact h
     ·cases h
  |seq a b=>
   rw[exec]at h⊢;cases ap:exec E n B f a R H with
   |none=>rw[ap]at h;cases h
   |some x=>
    rw[ap]at h;rw[a' _ _ _ _ _ _ ap];obtain⟨ex,bY,aq⟩:=x;cases ex with
    |normal=>exact a' _ _ _ _ _ _ h
    |exit id=>exact h
    |ret=>exact h
  |cond c a b=>
   rw[exec]at h⊢;split at h
   ·exact a' _ _ _ _ _ _ h
   ·exact a' _ _ _ _ _ _ h
   ·cases h
  |block id c=>
   rw[exec]at h⊢;cases ap:exec E n B f c R H with
   |none=>rw[ap]at h;cases h
   |some x=>rw[ap]at h;rw[a' _ _ _ _ _ _ ap];exact h
  |loop c=>
   rw[exec]at h⊢;cases ap:exec E n B f c (po E B f ((gj c).getD 0) R H).1 (po E B f ((gj c).getD 0) R H).2 with
   |none=>rw[ap]at h;cases h
   |some x=>
    rw[ap]at h;rw[a' _ _ _ _ _ _ ap];obtain⟨ex,bY,aq⟩:=x;cases ex with
    |normal=>exact a' _ _ _ _ _ _ h
    |exit id=>exact h
    |ret=>exact h
  |scope c=>rw[exec]at h⊢;exact a' _ _ _ _ _ _ h
  |rangeFunc g bn a b=>
   rw[QE]at h⊢;split at h
   next I xs ax aU=>exact K' (λ R H q bu=>K_ (λ B c R H r ak=>a' _ _ _ _ _ _ ak) bu) xs h
   ·cases h
  |_=>exact h
def us{n m:Nat}(h:n≤m):QC (exec E n) (exec E m):=by
 induction h with
 |refl=>exact λ _ _ _ _ _ _ h=>h
 |step _ a'=>exact λ B f c R H r h=>apQ _ _ _ _ _ _ _ (a' B f c R H r h)
open Classical in
noncomputable def ez(E:Env):Gd:=λ B f c R H=>if h:∃n r,exec E n B f c R H=j r then j (Classical.choose (Classical.choose_spec h))else o
def iD{B:Nat}{f:FuncId}{c:Code}{R:Fr}{H:ab}{r:lz×Fr×ab}:ez E B f c R H=j r↔∃n,exec E n B f c R H=j r:=by
 unfold ez;split
 next h=>
  have aU:=Classical.choose_spec (Classical.choose_spec h);constructor
  ·intro e;exact⟨_,by rw[aU];exact e⟩
  ·rintro⟨n,aI⟩;have p:=us (y2 (Classical.choose h) n) _ _ _ _ _ _ aU;have U:=us (y5 (Classical.choose h) n) _ _ _ _ _ _ aI;rw[p]at U;exact U
 next h=>
  constructor
  ·intro e;cases e
  ·rintro⟨n,aI⟩;exact absurd ⟨n,r,aI⟩ h
noncomputable def b'(E:Env):dY:=jv E (ez E)
def La(n:Nat):pP (jv E (exec E n)) (b' E):=QD λ B f c R H r h=>iD.2 ⟨n,h⟩
def D7{n m:Nat}(h:n≤m):pP (jv E (exec E n)) (jv E (exec E m)):=QD (us h)
def Yt{f:FuncId}{a:aZ}{H:ab}{r:ay×ab}(ak:b' E f a H=j r):∃n,jv E (exec E n) f a H=j r:=by
 unfold b' jv at ak;unfold jv;split at ak
 next fn rf=>
  split at ak
  next c aj=>
   split at ak
   next h9=>
    cases ap:ez E H.length f c (rV 0 a) H with
    |none=>rw[ap]at ak;cases ak
    |some x=>obtain⟨n,aI⟩:=iD.1 ap;refine⟨n,?_⟩;rw[if_pos h9,aI,←ap];exact ak
   ·cases ak
  ·cases ak
 ·cases ak
def apR{f:FuncId}{a:aZ}{H:ab}{r:ay×ab}(ak:fg E (b' E) f a H=j r):∃n,fg E (jv E (exec E n)) f a H=j r:=by
 unfold fg at ak⊢;cases aR:E.ext f with
 |some g=>rw[aR]at ak;exact⟨0,ak⟩
 |none=>rw[aR]at ak;exact Yt ak
def Yu{f:FuncId}{a:aZ}{H:ab}{r:ay×ab}(ak:lX E (b' E) f a H=j r):∃n,lX E (jv E (exec E n)) f a H=j r:=by
 unfold lX at ak;cases ax:(js E f H a)with
 |none=>rw[ax]at ak;cases ak
 |some x=>
  obtain⟨bW,H1⟩:=x;rw[ax]at ak;simp only at ak;split at ak
  ·cases ak
  next iB L aj=>obtain⟨n,aI⟩:=apR aj;refine⟨n,?_⟩;unfold lX;rw[ax];simp only;rw[aI];exact ak
def apS{f:FuncId}{a:aZ}{H:ab}{r:ay×ab}(ak:gI E (b' E) f a H=j r):∃n,gI E (jv E (exec E n)) f a H=j r:=by
 unfold gI at ak⊢;cases aR:E.pj f with
 |some g=>rw[aR]at ak;exact⟨0,ak⟩
 |none=>
  rw[aR]at ak;simp only at ak⊢;cases U:E.tL f with
  |true=>rw[U]at ak;obtain⟨iB,aq⟩:=r;obtain⟨rfl,az⟩:=G_ ak;obtain⟨n,aI⟩:=Yu az;exact⟨n,by rw[aI];exact KK _⟩
  |false=>rw[U]at ak;exact Yu ak
def QF{al:Op}{R:Fr}{H:ab}{r:ay×ab}(ak:cw E (b' E) al R H=j r):∃n,cw E (jv E (exec E n)) al R H=j r:=by
 unfold cw at ak;split at ak
 next f args fx=>
  split at ak
  next g bW aR=>
   split at ak
   next he=>obtain⟨n,aI⟩:=apS ak;refine⟨n,?_⟩;simp only[cw,aR,he,if_true,aI]
   ·cases ak
  ·cases ak
 next DK=>
  refine⟨0,?_⟩;unfold cw;split
  ·exact absurd rfl (DK _ _ _)
  ·exact ak
def QG{ops:eh}:∀{l:eh} {R:Fr} {H:ab} {r:Fr×ab},jg E (b' E) ops l R H=j r→∃n,jg E (jv E (exec E n)) ops l R H=j r
 |[],R,H,r,ak=>⟨0,ak⟩
 |al::l,R,H,r,ak=>by
  simp only[jg]at ak⊢;cases aR:gZ ops R al with
  |none=>rw[aR]at ak;cases ak
  |some b=>
   rw[aR]at ak;cases b with
   |false=>exact QG ak
   |true=>
    simp only at ak⊢;split at ak
    next v aq bo=>obtain⟨n,aI⟩:=QF bo;obtain⟨m,hm⟩:=QG ak;refine⟨max n m,?_⟩;rw[K8 (D7 (y2 n m)) aI];exact HF (D7 (y5 n m)) hm
    ·cases ak
def apT{ops:eh}{al:Oper}{R:Fr}{H:ab}{r:Fr×ab×cq}(ak:q3 E (b' E) ops al R H=j r):∃n,q3 E (jv E (exec E n)) ops al R H=j r:=by
 unfold q3 at ak;cases aR:gZ ops R al with
 |none=>rw[aR]at ak;cases ak
 |some b=>
  rw[aR]at ak;cases b with
  |false=>exact⟨0,by unfold q3;rw[aR];exact ak⟩
  |true=>
   simp only at ak;split at ak
   next v aq bo=>obtain⟨n,aI⟩:=QF bo;refine⟨n,?_⟩;unfold q3;rw[aR,aI];exact ak
   ·cases ak
def Yv{ops:eh}:∀{l:eh} {R:Fr} {H:ab} {r:Fr×ab×lZ},iK E (b' E) ops l R H=j r→∃n,iK E (jv E (exec E n)) ops l R H=j r
 |[],R,H,r,ak=>⟨0,ak⟩
 |al::l,R,H,r,ak=>by
  simp only[iK]at ak⊢;split at ak
  next k5 H1 t aU=>
   split at ak
   next d' bG dh bA=>obtain⟨n,aI⟩:=apT aU;obtain⟨m,hm⟩:=Yv bA;refine⟨max n m,?_⟩;rw[Yq (D7 (y2 n m)) aI];simp only;rw[K9 (D7 (y5 n m)) hm];exact ak
   ·cases ak
  ·cases ak
def QH{ops:eh}:∀{l:eh} {c:Nat} {R:Fr} {H:ab} {r:Fr×ab×lZ},ju E (b' E) ops c l R H=j r→∃n,ju E (jv E (exec E n)) ops c l R H=j r
 |[],c,R,H,r,ak=>⟨0,ak⟩
 |al::l,c,R,H,r,ak=>by
  simp only[ju]at ak⊢;cases aR:gZ ops R al with
  |none=>rw[aR]at ak;cases ak
  |some b=>
   rw[aR]at ak;cases b with
   |false=>
    simp only at ak⊢;split at ak
    next d' bG dh bA=>obtain⟨m,hm⟩:=QH bA;refine⟨m,?_⟩;rw[hm];exact ak
    ·cases ak
   |true=>
    simp only at ak⊢;split at ak
    next v aq bo=>
     split at ak
     next d' bG dh bA=>
      have aI:∃n,kf E (jv E (exec E n)) c al.op R H=j (v,aq):=by
       unfold kf at bo⊢;cases aN:en al.op with
       |true=>rw[aN]at bo;exact⟨0,bo⟩
       |false=>rw[aN]at bo;exact QF bo
      obtain⟨n,aI⟩:=aI;obtain⟨m,hm⟩:=QH bA;refine⟨max n m,?_⟩;rw[Yr (D7 (y2 n m)) aI];simp only;rw[HG (D7 (y5 n m)) hm];exact ak
     ·cases ak
    ·cases ak
variable{B:Nat}{f:FuncId}{R:Fr}{H:ab}{id:Nat}
def apU:ez E B f .skip R H=j (.normal,R,H):=iD.2 ⟨1,rfl⟩
def apV(l:Nat):ez E B f (.label l) R H=j (.normal,R,H):=iD.2 ⟨1,rfl⟩
def apW:ez E B f .ret R H=j (.ret,R,H):=iD.2 ⟨1,rfl⟩
def apX(id:Nat):ez E B f (.exit id) R H=j (.exit id,R,H):=iD.2 ⟨1,rfl⟩
def HH(E:Env)(f:FuncId)(id:Nat)(r:Option (Fr×ab)):hj:=match r with
 |some (bY,aq)=>j (.normal,norm (E.k0 f id) bY,aq)
 |none=>o
def D8(E:Env)(f:FuncId)(id:Nat)(r:Option (Fr×ab×lZ)):hj:=match r with
 |some (bY,aq,e2)=>if(E.eg f id).all (tS e2)=ah then j (.normal,norm (E.k0 f id) bY,aq)else o
 |none=>o
def apY(id:Nat)(ops:Array Oper):ez E B f (.region id ops J) R H=HH E f id (jg E (b' E) ops.toList ops.toList R H):=by
 refine y7 λ r=>?_
 rw[iD];constructor
 ·rintro⟨n,h⟩;cases n with
  |zero=>simp[exec]at h
  |succ n=>
   simp only[exec]at h;split at h
   next bY aq bo=>rw[HF (La n) bo];exact h
   ·cases h
 ·intro h;cases bo:jg E (b' E) ops.toList ops.toList R H with
  |none=>rw[bo]at h;cases h
  |some x=>obtain⟨n,aI⟩:=QG bo;refine⟨n+1,?_⟩;rw[bo]at h;simp only[exec];rw[aI];exact h
def Yw(aV:E.rN f id=J)(ops:Array Oper):ez E B f (.region id ops ah) R H=D8 E f id (iK E (b' E) ops.toList ops.toList R H):=by
 refine y7 λ r=>?_
 rw[iD];constructor
 ·rintro⟨n,h⟩;cases n with
  |zero=>simp[exec]at h
  |succ n=>
   simp only[exec,aV]at h;split at h
   next bY aq e2 bo=>rw[K9 (La n) bo];exact h
   ·cases h
 ·intro h;cases bo:iK E (b' E) ops.toList ops.toList R H with
  |none=>rw[bo]at h;cases h
  |some x=>obtain⟨n,aI⟩:=Yv bo;refine⟨n+1,?_⟩;rw[bo]at h;simp only[exec,aV];rw[aI];exact h
def apZ(aV:E.rN f id=ah)(ops:Array Oper):ez E B f (.region id ops ah) R H=D8 E f id (ju E (b' E) ops.toList H.length ops.toList R (H++cH (qc ops.toList) nL)):=by
 refine y7 λ r=>?_
 rw[iD];constructor
 ·rintro⟨n,h⟩;cases n with
  |zero=>simp[exec]at h
  |succ n=>
   simp only[exec,aV]at h;split at h
   next bY aq e2 bo=>rw[HG (La n) bo];exact h
   ·cases h
 ·intro h;cases bo:ju E (b' E) ops.toList H.length ops.toList R (H++cH (qc ops.toList) nL)with
  |none=>rw[bo]at h;cases h
  |some x=>obtain⟨n,aI⟩:=QH bo;refine⟨n+1,?_⟩;rw[bo]at h;simp only[exec,aV];rw[aI];exact h
def QI{aO:dY}{ops:eh}:∀(l:eh) (R:Fr) (H:ab),(iK E aO ops l R H).map (λ x=>(x.1,x.2.1))=jg E aO ops l R H
 |[],R,H=>rfl
 |al::l,R,H=>by
  simp only[iK,q3,jg];cases gZ ops R al with
  |none=>rfl
  |some b=>
   cases b with
   |false=>simp only;rw[←QI l];cases iK E aO ops l (ee al.dst (.bl []) R) H<;>rfl
   |true=>
    simp only;cases cw E aO al.op R H with
    |none=>rfl
    |some x=>simp only;rw[←QI l];cases iK E aO ops l (ee al.dst x.1 R) x.2<;>rfl
def ap0(aV:E.rN f id=J)(h_:E.eg f id=[])(ops:Array Oper):ez E B f (.region id ops ah) R H=HH E f id (jg E (b' E) ops.toList ops.toList R H):=by
 rw[Yw aV,←QI];cases iK E (b' E) ops.toList ops.toList R H with
 |none=>rfl
 |some x=>obtain⟨bY,aq,e2⟩:=x;simp only[D8,h_,List.all_nil,if_true,eH,HH]
def w_(k:Fr→ab→hj)(r:hj):hj:=match r with
 |some (.normal,bY,aq)=>k bY aq
 |r=>r
def ap1(a b:Code):ez E B f (.seq a b) R H=w_ (ez E B f b) (ez E B f a R H):=by
 refine y7 λ r=>?_
 rw[iD];constructor
 ·rintro⟨n,h⟩;cases n with
  |zero=>simp[exec]at h
  |succ n=>
   rw[exec]at h;cases ap:exec E n B f a R H with
   |none=>rw[ap]at h;cases h
   |some x=>
    rw[ap]at h;rw[iD.2 ⟨n,ap⟩];obtain⟨ex,bY,aq⟩:=x;cases ex with
    |normal=>exact iD.2 ⟨n,h⟩
    |exit id=>exact h
    |ret=>exact h
 ·intro h;cases ap:ez E B f a R H with
  |none=>rw[ap]at h;cases h
  |some x=>
   rw[ap]at h;obtain⟨n,aI⟩:=iD.1 ap;obtain⟨ex,bY,aq⟩:=x;cases ex with
   |normal=>obtain⟨m,hm⟩:=iD.1 h;refine⟨max n m+1,?_⟩;rw[exec,us (y2 n m) _ _ _ _ _ _ aI];exact us (y5 n m) _ _ _ _ _ _ hm
   |exit id=>exact⟨n+1,by rw[exec,aI];exact h⟩
   |ret=>exact⟨n+1,by rw[exec,aI];exact h⟩
def Yx(c:Code):ez E B f (.loop c) R H=w_ (ez E B f (.loop c)) (ez E B f c (po E B f ((gj c).getD 0) R H).1 (po E B f ((gj c).getD 0) R H).2):=by
 refine y7 λ r=>?_
 rw[iD];constructor
 ·rintro⟨n,h⟩;cases n with
  |zero=>simp[exec]at h
  |succ n=>
   rw[exec]at h;cases ap:exec E n B f c (po E B f ((gj c).getD 0) R H).1 (po E B f ((gj c).getD 0) R H).2 with
   |none=>rw[ap]at h;cases h
   |some x=>
    rw[ap]at h;rw[iD.2 ⟨n,ap⟩];obtain⟨ex,bY,aq⟩:=x;cases ex with
    |normal=>exact iD.2 ⟨n,h⟩
    |exit id=>exact h
    |ret=>exact h
 ·intro h;cases ap:ez E B f c (po E B f ((gj c).getD 0) R H).1 (po E B f ((gj c).getD 0) R H).2 with
  |none=>rw[ap]at h;cases h
  |some x=>
   rw[ap]at h;obtain⟨n,aI⟩:=iD.1 ap;obtain⟨ex,bY,aq⟩:=x;cases ex with
   |normal=>obtain⟨m,hm⟩:=iD.1 h;refine⟨max n m+1,?_⟩;rw[exec,us (y2 n m) _ _ _ _ _ _ aI];exact us (y5 n m) _ _ _ _ _ _ hm
   |exit id=>exact⟨n+1,by rw[exec,aI];exact h⟩
   |ret=>exact⟨n+1,by rw[exec,aI];exact h⟩
def w'(v:ay)(a b:hj):hj:=match v with
 |.i (.v (.bool ah))=>a
 |.i (.v (.bool J))=>b
 |_=>o
def Yy(I:Prop) [Decidable I](a b:hj):w' (.i (.v (.bool (decide I)))) a b=if I then a else b:=by by_cases h:I<;>simp[h,w']
def ap2(c:Operand)(a b:Code):ez E B f (.cond c a b) R H=w' (bw E R c) (ez E B f a R H) (ez E B f b R H):=by
 refine y7 λ r=>?_
 rw[iD];constructor
 ·rintro⟨n,h⟩;cases n with
  |zero=>simp[exec]at h
  |succ n=>
   rw[exec]at h;split at h
   next aj=>rw[aj];exact iD.2 ⟨n,h⟩
   next aj=>rw[aj];exact iD.2 ⟨n,h⟩
   ·cases h
 ·intro h;unfold w' at h;split at h
  next aj=>obtain⟨n,aI⟩:=iD.1 h;exact⟨n+1,by rw[exec,aj];exact aI⟩
  next aj=>obtain⟨n,aI⟩:=iD.1 h;exact⟨n+1,by rw[exec,aj];exact aI⟩
  ·cases h
def Lb(id:Nat)(r:hj):hj:=match r with
 |some (.exit ac,bY,aq)=>if ac=id then j (.normal,bY,aq)else j (.exit ac,bY,aq)
 |r=>r
def ap3(id:Nat)(c:Code):ez E B f (.block id c) R H=Lb id (ez E B f c R H):=by
 refine y7 λ r=>?_
 rw[iD];constructor
 ·rintro⟨n,h⟩;cases n with
  |zero=>simp[exec]at h
  |succ n=>
   rw[exec]at h;cases ap:exec E n B f c R H with
   |none=>rw[ap]at h;cases h
   |some x=>rw[ap]at h;rw[iD.2 ⟨n,ap⟩];exact h
 ·intro h;cases ap:ez E B f c R H with
  |none=>rw[ap]at h;cases h
  |some x=>rw[ap]at h;obtain⟨n,aI⟩:=iD.1 ap;exact⟨n+1,by rw[exec,aI];exact h⟩
def ap4(c:Code):ez E B f (.scope c) R H=ez E B f c R H:=by
 refine y7 λ r=>?_
 rw[iD,iD];constructor
 ·rintro⟨n,h⟩;cases n with
  |zero=>simp[exec]at h
  |succ n=>exact⟨n,by simpa only[exec]using h⟩
 ·rintro⟨n,h⟩;exact⟨n+1,by simpa only[exec]using h⟩
def ap5{f:FuncId}{a b:Code}{R:Fr}{H:ab}{q:lz×ab}(ak:mw (λ dQ c R H=>ez E dQ f c R H) a b R H=j q):∃n,mw (λ dQ c R H=>exec E n dQ f c R H) a b R H=j q:=by
 unfold mw at ak;split at ak
 next k5 H1 p=>
  split at ak
  next e d' bG U=>obtain⟨n,aI⟩:=iD.1 p;obtain⟨m,hm⟩:=iD.1 U;refine⟨max n m,?_⟩;have bK:=us (y2 n m) _ _ _ _ _ _ aI;have bJ:=us (y5 n m) _ _ _ _ _ _ hm;unfold mw;simp only[bK,bJ];exact ak
  ·cases ak
 ·cases ak
def Yz{f:FuncId}{a b:Code}{I:Nat}{R:Fr}:∀(xs:aZ) {H:ab} {r:lz×Fr×ab},k6 (mw (λ dQ c R H=>ez E dQ f c R H) a b) I R xs H=j r→
  ∃n,k6 (mw (λ dQ c R H=>exec E n dQ f c R H) a b) I R xs H=j r
 |[],H,r,ak=>⟨0,ak⟩
 |x::xs,H,r,ak=>by
  simp only[k6]at ak;cases ap:mw (λ dQ c R H=>ez E dQ f c R H) a b ((I,x)::R) H with
  |none=>rw[ap]at ak;cases ak
  |some q=>
   rw[ap]at ak;obtain⟨n,aI⟩:=ap5 ap;obtain⟨e,H1⟩:=q;cases e with
   |normal=>simp only at ak;obtain⟨m,hm⟩:=Yz xs ak;refine⟨max n m,?_⟩;have p:=K_ (λ B c R H r ak=>us (y2 n m) _ _ _ _ _ _ ak) aI;have U:=K' (λ R H q bu=>K_ (λ B c R H r ak=>us (y5 n m) _ _ _ _ _ _ ak) bu) xs hm;simp only[k6];rw[p];exact U
   |exit id=>exact⟨n,by simp only[k6];rw[aI];exact ak⟩
   |ret=>exact⟨n,by simp only[k6];rw[aI];exact ak⟩
def Lc(rd:Fr→ab→Option (lz×ab))(I:Nat)(R:Fr)(H:ab):mZ→hj
 |some xs=>k6 rd I R xs H
 |none=>o
def ap6(g:Operand)(I:Nat)(a b:Code):ez E B f (.rangeFunc g #[I] a b) R H=Lc (mw (λ dQ c R H=>ez E dQ f c R H) a b) I R H (tV E H (bw E R g)):=by
 apply y7;intro r;rw[iD];constructor
 ·rintro⟨n,aI⟩;cases n with
  |zero=>simp[exec]at aI
  |succ n=>
   rw[QE]at aI;cases aU:tV E H (bw E R g)with
   |none=>rw[aU]at aI;cases aI
   |some xs=>rw[aU]at aI;exact K' (λ R H q bu=>K_ (λ B c R H r ak=>iD.2 ⟨n,ak⟩) bu) xs aI
 ·intro h;cases aU:tV E H (bw E R g)with
  |none=>rw[aU]at h;cases h
  |some xs=>rw[aU]at h;obtain⟨n,aI⟩:=Yz xs h;exact⟨n+1,by rw[QE,aU];exact aI⟩
def xa(E:Env)(f:FuncId)(B:Nat)(gu:List ResultVar)(r:hj):dE:=match r with
 |some (.exit _,_,_)=>o
 |some (_,R,aq)=>match x6 E R aq gu with
  |some r=>r0 E f B aq r
  |none=>o
 |none=>o
def QJ{fn:Func}{c:Code}{args:aZ}(aN:E.P.funcs[f]?=j fn)(aj:fn.body=j c)(h9:At E f=ah)(ao:args.length≤fn.ntmps):
  b' E f args H=xa E f H.length fn.results.toList (ez E H.length f c (rV 0 args) H):=by
 unfold b' jv xa;rw[aN];simp only[aj];rw[if_pos ⟨h9,ao⟩];cases ez E H.length f c (rV 0 args) H with
 |none=>rfl
 |some x=>obtain⟨ex,R,aq⟩:=x;cases ex<;>rfl
def ap7(uk:A3 E)(hseq:Bk E)(hmk:A4 E):oW E (b' E):=by intro f args H r aq h;obtain⟨n,aI⟩:=Yt h;exact apN uk hseq hmk n f args H r aq aI
def YA{n:Nat}{args:aZ}{r:ay×ab}(h:call E n f args H=j r):b' E f args H=j r:=La n _ _ _ _ h
end
end Go.VI
namespace Go.VI
open Go.ChangeShapes
open Go.WideShapes
set_option maxRecDepth 100000
set_option maxHeartbeats 40000000
set_option linter.unusedVariables false
set_option linter.unusedSimpArgs false
set_option linter.defProp false
section
variable{E:Env}
def nV(w:World):cn:=λ b=>w.heap[b]?
def y8:cj:=λ _=>o
def ap8(w:World)(aR:∀g cells,E.fv g=j cells→u_ (nV w) g cells):cf E (nV w) y8 [] w:=
 ⟨λ b al h=>h,λ c x h=>by simp at h,λ c cv b n dT h=>by simp[y8]at h,λ c b n h=>by simp[y8]at h,aR⟩
structure D9 (w av:World):Prop where
 os:av.os=w.os
 output:av.output=w.output
 heap:∀b,b<w.heap.size→av.heap[b]?=w.heap[b]?
def D9.kept{w av:World}(h:D9 w av)(may:MemPlace→Prop):w.keptBut av may:=by
 refine⟨h.os,h.output,λ i aB=>?_⟩;rw[h.heap i aB];cases aV:w.heap[i]? with
 |none=>rfl
 |some al=>cases al<;>simp
def ap9{w av:World}{aQ:cn}{aG:cj}(dO:Trans (nV w) y8 w aQ aG av):D9 w av:=
 ⟨dO.os,dO.output,λ b an=>dO.frame b an λ c n h=>by simp[y8]at h⟩
def law_calls{f:FuncId}{args:aZ}{vs:Array Value}{w:World}{aq:ab}(h:b' E f args []=j (.i (.v (.bool ah)),aq))(uk:A3 E)(aR:∀g cells,E.fv g=j cells→u_ (nV w) g cells)
  (b9:pF (nV w) y8 [] args vs)(hseq:Bk E:=by exact Go.VI.apj λ _=>rfl)(hmk:A4 E:=by exact Go.VI.anI λ _=>rfl):Calls E.P f vs w λ e av=>e=.returned (.bool ah)∧D9 w av:=
 (ap7 uk hseq hmk f args [] _ aq h _ _ w vs (ap8 w aR) b9).mono λ e av he=>by obtain⟨x,rfl,fs,eW,_,bJ,_,e4⟩:=he;exact⟨congrArg _ (ga e4),ap9 bJ⟩
def ap_{ad ae H}:pF ad ae H [] #[]:=⟨rfl,λ k a h=>by simp at h⟩
def YB(ad:cn)(ae:cj)(H:ab):aZ→k8→Prop
 |[],[]=>True
 |a::bW,v::vs=>bf ad ae H a v∧YB ad ae H bW vs
 |_,_=>False
def args_of{ad ae H}:∀{bW:aZ} {vs:k8},YB ad ae H bW vs→pF ad ae H bW vs.toArray
 |[],[],_=>ap_
 |a::bW,v::vs,h=>by
  have a':=args_of h.2;refine⟨by simpa using a'.1,λ k b aA=>?_⟩;cases k with
  |zero=>simp at aA;subst aA;simpa using h.1
  |succ k=>simpa using a'.2 k b (by simpa using aA)
 |[],_::_,h=>h.elim
 |_::_,[],h=>h.elim
def post_of_old{H:Type}{enc:TypeId×Value→H}{P:Program}{f:Func}{s:ChangeSpec}{apart fresh handsOn:Bool}{W jT:World}{args:Array Value}{v:Value}{c4 gs:List (DataW H)}{before pa pv:List MemPlace}
  (rn:DataW.Whole enc P f.params.toList s.vars apart W args.toList c4 gs before)
  (ap':∀(b:Nat) (l':Nat→Bool) (aP:Bool),DataW.TrodAll enc P jT b l' aP f.resultTypes.toList (v.resultList f.resultTypes.size) (s.fn H (c4++gs)).results [])
  (qp:∀l':Nat→Bool,(∀I∈before,l' I.block=ah)→DataW.TrodAll enc P jT 0 l' ah f.params.toList args.toList (s.fn H (c4++gs)).args pa)
  (aqa:∀l':Nat→Bool,(∀I∈before,l' I.block=ah)→DataW.TrodVars enc P jT l' s.vars (s.fn H (c4++gs)).vars pv)
  (hold:D9 W jT)(y1:before=pa++pv):s.post enc P f apart fresh handsOn J W args v jT:=by
 have bg:∀I∈before,(λ b=>decide (b<W.heap.size)) I.block=ah:=λ I ax=>by simpa using rn.lt I ax
 exact⟨c4,gs,before,[],pa,pv,rn,ap' _ _ _,qp _ bg,aqa _ bg,hold.kept _,λ h=>by cases h⟩
end
end Go.VI
namespace Go.VI
set_option maxRecDepth 100000
set_option maxHeartbeats 40000000
set_option linter.unusedVariables false
set_option linter.unusedSimpArgs false
set_option linter.defProp false
section
variable{E:Env}{aO:dY}{ops:eh}{R:Fr}{H:ab}{f:FuncId}
noncomputable def Bo(E:Env)(aO:dY)(ops:eh)(dst:cu)(r:eh)(R:Fr):dE→Option (Fr×ab)
 |some (v,aq)=>jg E aO ops r (ee dst v R) aq
 |none=>o
def Ld(want:Bool):ay→Option Bool
 |.i (.v (.bool b))=>j (b==want)
 |.bl []=>j J
 |_=>o
def xb(ops:eh)(R:Fr)(ac:Nat)(want:Bool):Option Bool:=
 match(ops[ac]?).bind (·.dst)with
 |some d=>Ld want (get d R)
 |none=>o
noncomputable def xc(E:Env)(aO:dY)(ops:eh)(dst:cu)(op:Op)(r:eh)(R:Fr)(H:ab):Option Bool→Option (Fr×ab)
 |some ah=>Bo E aO ops dst r R (cw E aO op R H)
 |some J=>jg E aO ops r (ee dst (.bl []) R) H
 |none=>o
def aqb(dst:cu)(r:eh)(v:ay)(aq:ab):Bo E aO ops dst r R (j (v,aq))=jg E aO ops r (ee dst v R) aq:=rfl
def aqc(dst:cu)(op:Op)(r:eh):xc E aO ops dst op r R H (j ah)=Bo E aO ops dst r R (cw E aO op R H):=rfl
def aqd(dst:cu)(op:Op)(r:eh):xc E aO ops dst op r R H (j J)=jg E aO ops r (ee dst (.bl []) R) H:=rfl
def aqe(b want:Bool):Ld want (.i (.v (.bool b)))=j (b==want):=rfl
def aqf(want:Bool):Ld want (.bl [])=j J:=rfl
def aqg:jg E aO ops [] R H=j (R,H):=rfl
def aqh(dst:cu)(op:Op)(eG:TypeId)(pos:String)(st:Array Edge)(r:eh):jg E aO ops (⟨dst,op,eG,pos,st,o⟩::r) R H=Bo E aO ops dst r R (cw E aO op R H):=by
 simp only[jg,gZ];cases cw E aO op R H with
 |none=>rfl
 |some x=>rfl
def QK(dst:cu)(op:Op)(eG:TypeId)(pos:String)(st:Array Edge)(ac:Nat)(w:Bool):gZ ops R ⟨dst,op,eG,pos,st,j (ac,w)⟩=xb ops R ac w:=by
 simp only[gZ,xb];cases (ops[ac]?).bind (·.dst)with
 |none=>rfl
 |some d=>simp only[Ld];rfl
def aqi(dst:cu)(op:Op)(eG:TypeId)(pos:String)(st:Array Edge)(ac:Nat)(w:Bool)(r:eh):jg E aO ops (⟨dst,op,eG,pos,st,j (ac,w)⟩::r) R H=xc E aO ops dst op r R H (xb ops R ac w):=by
 simp only[jg,QK];cases xb ops R ac w with
 |none=>rfl
 |some b=>
  cases b with
  |false=>rfl
  |true=>
   simp only[xc];cases cw E aO op R H with
   |none=>rfl
   |some x=>rfl
def nx(t:cq):Option (Fr×ab×lZ)→Option (Fr×ab×lZ)
 |some (d',bG,dh)=>j (d',bG,t::dh)
 |none=>o
noncomputable def xd(E:Env)(aO:dY)(ops:eh)(dst:cu)(op:Op)(r:eh)(R:Fr)(H:ab):dE→Option (Fr×ab×lZ)
 |some (v,aq)=>nx (df E R H op++ms H.length (aq.length-H.length)) (iK E aO ops r (ee dst v R) aq)
 |none=>o
noncomputable def vx(E:Env)(aO:dY)(ops:eh)(dst:cu)(op:Op)(r:eh)(R:Fr)(H:ab):Option Bool→Option (Fr×ab×lZ)
 |some ah=>xd E aO ops dst op r R H (cw E aO op R H)
 |some J=>nx [] (iK E aO ops r (ee dst (.bl []) R) H)
 |none=>o
def aqj(t:cq)(d':Fr)(bG:ab)(dh:lZ):nx t (j (d',bG,dh))=j (d',bG,t::dh):=rfl
def aqk(dst:cu)(op:Op)(r:eh)(v:ay)(aq:ab):xd E aO ops dst op r R H (j (v,aq))=nx (df E R H op++ms H.length (aq.length-H.length)) (iK E aO ops r (ee dst v R) aq):=rfl
def aql(dst:cu)(op:Op)(r:eh):vx E aO ops dst op r R H (j ah)=xd E aO ops dst op r R H (cw E aO op R H):=rfl
def aqm(dst:cu)(op:Op)(r:eh):vx E aO ops dst op r R H (j J)=nx [] (iK E aO ops r (ee dst (.bl []) R) H):=rfl
def aqn:iK E aO ops [] R H=j (R,H,[]):=rfl
def aqo(dst:cu)(op:Op)(eG:TypeId)(pos:String)(st:Array Edge)(r:eh):iK E aO ops (⟨dst,op,eG,pos,st,o⟩::r) R H=xd E aO ops dst op r R H (cw E aO op R H):=by
 simp only[iK,q3,gZ];cases cw E aO op R H with
 |none=>rfl
 |some x=>simp only[xd,nx];rfl
def aqp(dst:cu)(op:Op)(eG:TypeId)(pos:String)(st:Array Edge)(ac:Nat)(w:Bool)(r:eh):iK E aO ops (⟨dst,op,eG,pos,st,j (ac,w)⟩::r) R H=vx E aO ops dst op r R H (xb ops R ac w):=by
 simp only[iK,q3,QK];cases xb ops R ac w with
 |none=>rfl
 |some b=>
  cases b with
  |false=>simp only[vx,nx];rfl
  |true=>
   simp only[vx];cases cw E aO op R H with
   |none=>rfl
   |some x=>simp only[xd,nx];rfl
noncomputable def y9(E:Env)(aO:dY)(ops:eh)(c:Nat)(dst:cu)(op:Op)(r:eh)(R:Fr)(H:ab):dE→Option (Fr×ab×lZ)
 |some (v,aq)=>nx (tT E c R H op++ms H.length (aq.length-H.length)) (ju E aO ops (oe c op) r (ee dst v R) aq)
 |none=>o
noncomputable def y_(E:Env)(aO:dY)(ops:eh)(c:Nat)(dst:cu)(op:Op)(r:eh)(R:Fr)(H:ab):Option Bool→Option (Fr×ab×lZ)
 |some ah=>y9 E aO ops c dst op r R H (kf E aO c op R H)
 |some J=>nx [] (ju E aO ops (oe c op) r (ee dst (.bl []) R) H)
 |none=>o
def aqq(c:Nat)(dst:cu)(op:Op)(r:eh)(v:ay)(aq:ab):y9 E aO ops c dst op r R H (j (v,aq))=nx (tT E c R H op++ms H.length (aq.length-H.length)) (ju E aO ops (oe c op) r (ee dst v R) aq):=rfl
def aqr(c:Nat)(dst:cu)(op:Op)(r:eh):y_ E aO ops c dst op r R H (j ah)=y9 E aO ops c dst op r R H (kf E aO c op R H):=rfl
def aqs(c:Nat)(dst:cu)(op:Op)(r:eh):y_ E aO ops c dst op r R H (j J)=nx [] (ju E aO ops (oe c op) r (ee dst (.bl []) R) H):=rfl
def YC(c:Nat)(dst:cu)(op:Op)(r:eh)(I:Prop) [Decidable I]:y_ E aO ops c dst op r R H (j (decide I))=if I then y9 E aO ops c dst op r R H (kf E aO c op R H)else nx [] (ju E aO ops (oe c op) r (ee dst (.bl []) R) H):=by by_cases h:I<;>simp[h,y_]
def YD(c:Nat)(dst:cu)(op:Op)(r:eh)(b:Bool):y_ E aO ops c dst op r R H (j b)=if b=ah then y9 E aO ops c dst op r R H (kf E aO c op R H)else nx [] (ju E aO ops (oe c op) r (ee dst (.bl []) R) H):=by cases b<;>rfl
def aqt(c:Nat):ju E aO ops c [] R H=j (R,H,[]):=rfl
def aqu(c:Nat)(dst:cu)(op:Op)(eG:TypeId)(pos:String)(st:Array Edge)(r:eh):ju E aO ops c (⟨dst,op,eG,pos,st,o⟩::r) R H=y9 E aO ops c dst op r R H (kf E aO c op R H):=by
 simp only[ju,gZ];cases kf E aO c op R H with
 |none=>rfl
 |some x=>simp only[y9,nx];rfl
def aqv(c:Nat)(dst:cu)(op:Op)(eG:TypeId)(pos:String)(st:Array Edge)(ac:Nat)(w:Bool)(r:eh):ju E aO ops c (⟨dst,op,eG,pos,st,j (ac,w)⟩::r) R H=y_ E aO ops c dst op r R H (xb ops R ac w):=by
 simp only[ju,QK];cases xb ops R ac w with
 |none=>rfl
 |some b=>
  cases b with
  |false=>simp only[y_,nx];rfl
  |true=>
   simp only[y_];cases kf E aO c op R H with
   |none=>rfl
   |some x=>simp only[y9,nx];rfl
def aqw(c:Nat)(r:Option (Option cu×Chunk)):Gj c H r (j (.af 0 0 [] ah))=match r with|some (k,ch)=>j (u7 c k,H.set c ch)|none=>o:=rfl
def su(args:aZ):m_→cq
 |some (bW,H1)=>bI args++reach H1 64 (bI bW) []
 |none=>[]
def aqx(args bW:aZ)(H1:ab):su args (j (bW,H1))=bI args++reach H1 64 (bI bW) []:=rfl
def vy{f:FuncId}(args:aZ):rY E f args H=su args (js E f H args):=by unfold rY su;cases js E f H args<;>rfl
def y'{f:FuncId}(h:E.pj f=o)(U:E.tL f=J)(args:aZ):jM E f args H=rY E f args H:=by unfold jM;rw[h,U]
def YE{f:FuncId}(h:E.pj f=o)(U:E.tL f=ah)(args:aZ):jM E f args H=(rY E f args H).map (·+lA):=by unfold jM;rw[h,U]
def YF{f fn:FuncId}(h:E.pj f=j fn)(args:aZ):jM E f args H=[]:=by unfold jM;rw[h]
def aqy(n:Nat)(seen:cq):reach H n [] seen=seen:=by cases n<;>rfl
def QL(E:Env)(H:ab)(args:aZ):ay→cq
 |.aS (.func g) first fZ=>jM E g (first++args++fZ) H
 |_=>[]
def aqz(args:aZ)(g:Nat)(first fZ:aZ):QL E H args (.aS (.func g) first fZ)=jM E g (first++args++fZ) H:=rfl
def aqA(x:Operand)(args:Array Operand)(fx:Array TypeId):df E R H (.call ⟨.value x,args,fx⟩)=QL E H (args.toList.map (bw E R)) (bw E R x):=by
 simp only[df,ya,QL];split
 next g bW aR=>
  split at aR
  ·rename_i a6 first fZ ap
   simp only[br,bM]at aR;obtain⟨rfl,rfl⟩:=aR;rw[ap]
  ·cases aR
 next aR=>
  split at aR
  ·cases aR
  next gE=>
   split
   next g first fZ ap=>exact absurd ap (gE _ _ _)
   ·rfl
def aqB(b:Builtin)(args:Array Operand)(fx:Array TypeId):df E R H (.call ⟨.builtin b,args,fx⟩)=bI (args.toList.map (bw E R)):=rfl
def aqC(t:TypeId)(x:Operand):df E R H (.load t x)=bj (bw E R x):=rfl
def aqD(t:TypeId)(x i:Operand):df E R H (.indexAddr t x i)=bj (bw E R x):=rfl
def aqE(t:TypeId)(x:Operand)(b5 aB lv:Option Operand):df E R H (.slice t x b5 aB lv)=bj (bw E R x):=rfl
def aqF(t:TypeId)(a x:Operand):df E R H (.store t a x)=bj (bw E R a)++bj (bw E R x):=rfl
def aqG(t:TypeId)(n:Nat)(bn:Array (Nat×Operand)):df E R H (.buildSlice t n bn)=nb E t n (bn.toList.map λ I=>(I.1,bw E R I.2)):=rfl
def aqH(x:Operand):df E R H (.move x)=[]:=rfl
def aqI(x:Operand):df E R H (.assign x)=[]:=rfl
def aqJ(a b c:Operand):df E R H (.pick a b c)=[]:=rfl
def aqK(op:BinOp)(t u:TypeId)(x y:Operand):df E R H (.binOp op t x y u)=[]:=rfl
def aqL(op:UnOp)(t:TypeId)(x:Operand):df E R H (.unOp op t x)=[]:=rfl
def aqM(s d:TypeId)(x:Operand):df E R H (.convert s d x)=bj (bw E R x):=rfl
def aqN(t:TypeId)(x:Operand):df E R H (.range t x)=[]:=rfl
def aqO(it:Operand)(b:Bool):df E R H (.next it b)=bj (bw E R it):=rfl
def aqP(fn:Fn)(a b:Array Operand):df E R H (.makeFunc fn a b)=[]:=rfl
def aqQ(t:TypeId)(x:Operand)(k:Nat):df E R H (.field t x k)=[]:=rfl
def aqR(t:TypeId)(x:Operand)(k:Nat):df E R H (.fieldAddr t x k)=[]:=rfl
def aqS(t:TypeId)(x y:Operand):df E R H (.index t x y)=[]:=rfl
def aqT(x:Operand)(n:Nat):df E R H (.extract x n)=[]:=rfl
def aqU(x:Operand):df E R H (.nilCheck x)=[]:=rfl
def aqV(t:TypeId)(bn:Array (Nat×Operand)):df E R H (.build t bn)=[]:=rfl
def aqW(t:TypeId):df E R H (.alloc t)=[]:=rfl
def QM(a:ay):cq→cq
 |[]=>[]
 |_::_=>bj a
def aqX(a:ay):QM a []=[]:=rfl
def aqY(a:ay)(ac:Nat)(r:cq):QM a (ac::r)=bj a:=rfl
def aqZ(t:TypeId)(x:Operand):df E R H (.box t x)=QM (bw E R x) (E.tM t):=by simp only[df];cases E.tM t<;>rfl
def aq0(t:TypeId)(x y:Operand):df E R H (.makeSlice t x y)=[]:=rfl
def aq1(k:Fr→ab→hj)(bY:Fr)(aq:ab):w_ k (j (.normal,bY,aq))=k bY aq:=rfl
def aq2(k:Fr→ab→hj)(id:Nat)(bY:Fr)(aq:ab):w_ k (j (.exit id,bY,aq))=j (.exit id,bY,aq):=rfl
def aq3(k:Fr→ab→hj)(bY:Fr)(aq:ab):w_ k (j (.ret,bY,aq))=j (.ret,bY,aq):=rfl
def aq4(id:Nat)(bY:Fr)(aq:ab):HH E f id (j (bY,aq))=j (.normal,norm (E.k0 f id) bY,aq):=rfl
def aq5(id:Nat)(bY:Fr)(aq:ab)(e2:lZ):D8 E f id (j (bY,aq,e2))=if(E.eg f id).all (tS e2)=ah then j (.normal,norm (E.k0 f id) bY,aq)else o:=rfl
def aq6(a b:hj):w' (.i (.v (.bool ah))) a b=a:=rfl
def aq7(a b:hj):w' (.i (.v (.bool J))) a b=b:=rfl
def aq8(id:Nat)(bY:Fr)(aq:ab):Lb id (j (.normal,bY,aq))=j (.normal,bY,aq):=rfl
def aq9(id:Nat)(bY:Fr)(aq:ab):Lb id (j (.ret,bY,aq))=j (.ret,bY,aq):=rfl
def aq_(id ac:Nat)(bY:Fr)(aq:ab):Lb id (j (.exit ac,bY,aq))=if ac=id then j (.normal,bY,aq)else j (.exit ac,bY,aq):=rfl
def HI(E:Env)(f:FuncId)(B:Nat)(H:ab):dX→dE
 |some r=>r0 E f B H r
 |none=>o
def aq'(B:Nat)(r:ay):HI E f B H (j r)=r0 E f B H r:=rfl
def ara(B:Nat)(gu:List ResultVar)(bY:Fr)(aq:ab):xa E f B gu (j (.ret,bY,aq))=HI E f B aq (x6 E bY aq gu):=by simp only[xa,HI]<;>rfl
def arb(B:Nat)(gu:List ResultVar)(bY:Fr)(aq:ab):xa E f B gu (j (.normal,bY,aq))=HI E f B aq (x6 E bY aq gu):=by simp only[xa,HI]<;>rfl
def HJ(E:Env)(f:FuncId)(B:Nat)(H:ab)(vs:aZ):Bool→m_
 |true=>j (ff B (e6 (E.mm f) vs H).2 (e6 (E.mm f) vs H).1,e0 B (e6 (E.mm f) vs H).2 0 (e6 (E.mm f) vs H).2)
 |false=>match dP H vs with
  |some (bW,H1)=>j (ff B H1 (oJ (E.mm f) bW),e0 B H1 0 H1)
  |none=>o
def QN(E:Env)(f:FuncId)(B:Nat):m_→m_
 |some (bW,H1)=>j (ff B H1 (oJ (E.mm f) bW),e0 B H1 0 H1)
 |none=>o
def arc(B:Nat)(vs:aZ):q4 E f B H vs=HJ E f B H vs (E.own f):=by unfold q4 HJ;cases E.own f<;>rfl
def ard(B:Nat)(vs:aZ):HJ E f B H vs J=QN E f B (dP H vs):=by unfold HJ QN;rfl
def are(B:Nat)(vs:aZ):HJ E f B H vs ah=j (ff B (e6 (E.mm f) vs H).2 (e6 (E.mm f) vs H).1,e0 B (e6 (E.mm f) vs H).2 0 (e6 (E.mm f) vs H).2):=rfl
def arf(B:Nat)(bW:aZ)(H1:ab):QN E f B (j (bW,H1))=j (ff B H1 (oJ (E.mm f) bW),e0 B H1 0 H1):=rfl
def arh(B:Nat)(vs:aZ):r0 E f B H (.bl vs)=JF (q4 E f B H vs):=rfl
def ari(B:Nat)(x:bx):r0 E f B H (.i x)=u9 (q4 E f B H [.i x]):=rfl
def arj(B:Nat)(l:aZ):r0 E f B H (.agg l)=u9 (q4 E f B H [.agg l]):=rfl
def ark(B c g al n:Nat):r0 E f B H (.ref c g al n)=u9 (q4 E f B H [.ref c g al n]):=rfl
def arl(B c g r k:Nat):r0 E f B H (.ptr c g r k)=u9 (q4 E f B H [.ptr c g r k]):=rfl
def arm(B:Nat)(fn:Fn)(a b:aZ):r0 E f B H (.aS fn a b)=u9 (q4 E f B H [.aS fn a b]):=rfl
def arn(a:ay)(H1:ab):u9 (j ([a],H1))=j (a,H1):=rfl
def aro(bW:aZ)(H1:ab):JF (j (bW,H1))=j (.bl bW,H1):=rfl
def YG(x:bx):iS o x=x:=by cases x<;>rfl
def arp(k:cu)(x:Value):iS k (.v x)=.v x:=by cases k<;>rfl
def arq(k:cu)(x:bm):iS k (.str x)=.str x:=by cases k<;>rfl
def arr(k:cu)(x:cZ)(al:Nat):iS k (.gR x al)=.gR x al:=by cases k<;>rfl
def ars(z:Nat)(rows:cb)(ex:Bool):iS (j z) (.af z rows ex)=.af z rows J:=by simp[iS]
def art(z aD:Nat)(ex:Bool):iS (j z) (.af aD [] ex)=.af z [] J:=by simp only[iS];split<;>rfl
def aru(l:cZ):iJ [] l=l:=by cases l<;>rfl
def arv(bB:dI):iJ bB []=[]:=by cases bB<;>rfl
def arw(k:cu)(bB:dI)(x:bx)(r:cZ):iJ (k::bB) (x::r)=iS k x::iJ bB r:=rfl
def arx(l:aZ):ke [] l=l:=by cases l<;>rfl
def ary(bB:dI):ke bB []=[]:=by cases bB<;>rfl
def arz(k:cu)(bB:dI)(x:bx)(r:aZ):ke (k::bB) (.i x::r)=.i (iS k x)::ke bB r:=rfl
def arA(k:cu)(bB:dI)(c g al n:Nat)(r:aZ):ke (k::bB) (.ref c g al n::r)=.ref c g al n::ke bB r:=rfl
def arB(k:cu)(bB:dI)(c g al n:Nat)(r:aZ):ke (k::bB) (.ptr c g al n::r)=.ptr c g al n::ke bB r:=rfl
def arC(k:cu)(bB:dI)(f:Fn)(a b:aZ)(r:aZ):ke (k::bB) (.aS f a b::r)=.aS f a b::ke bB r:=rfl
def arD(k:cu)(bB:dI)(x:bx):sV (k::bB) (.i x)=.i (iS k x):=rfl
def arE(x:bx):sV [] (.i x)=.i x:=by show ay.i (iS o x)=_;rw[YG]
def arF(bB:dI)(l:aZ):sV bB (.agg l)=.agg (ke bB l):=rfl
def arG(bB:dI)(c g al n:Nat):sV bB (.ref c g al n)=.ref c g al n:=rfl
def arH(bB:dI)(c g al n:Nat):sV bB (.ptr c g al n)=.ptr c g al n:=rfl
def arI(bB:dI)(fn:Fn)(a b:aZ):sV bB (.aS fn a b)=.aS fn a b:=rfl
def arJ(bB:dI)(l:aZ):sV bB (.bl l)=.bl l:=rfl
def arK(l:aZ):oJ [] l=l:=by cases l<;>rfl
def arL(bB:List dI):oJ bB []=[]:=by cases bB<;>rfl
def arM(k:dI)(bB:List dI)(a:ay)(r:aZ):oJ (k::bB) (a::r)=sV k a::oJ bB r:=rfl
def arN(z:Nat):Al H z ah=(.ref H.length 0 0 0,H++[.af z 0 [] J]):=rfl
def arO(z:Nat):Al H z J=(.x (.d H.length 0 0 0),H++[.aE (z-1000) 0 0 []]):=rfl
def arP(z aD:Nat):jL z H (.i (.af aD [] ah))=Al H z (decide (z<1000)):=rfl
def arQ(z:Nat)(k:de):jL z H (.x k)=(.x k,H):=rfl
def arR(z aD:Nat)(rows:cb):jL z H (.i (.af aD rows J))=(.i (.af aD rows J),H):=by cases rows<;>rfl
def arS(z c g al n:Nat):jL z H (.ref c g al n)=(.ref c g al n,H):=rfl
def arT(z:Nat)(a:ay):lW [j z] H a=jL z H a:=rfl
def arU(a:ay):lW [o] H a=(a,H):=rfl
def arV(a:ay):lW [] H a=(a,H):=rfl
def arW(k dr:cu)(bB:dI)(a:ay):lW (k::dr::bB) H a=(a,H):=by cases k<;>rfl
def arX(l:aZ):e6 [] l H=(l,H):=by cases l<;>rfl
def arY(bB:List dI):e6 bB [] H=([],H):=by cases bB<;>rfl
def arZ(k:dI)(bB:List dI)(a:ay)(r:aZ):e6 (k::bB) (a::r) H=((lW k H a).1::(e6 bB r (lW k H a).2).1,(e6 bB r (lW k H a).2).2):=rfl
def YH:sW [] R H=(R,H):=rfl
def ar0(k z:Nat)(r:iI):sW ((k,z)::r) R H=sW r ((k,(jL z H (get k R)).1)::R) (jL z H (get k R)).2:=rfl
def YI:wm [] R H=H:=rfl
def ar1(k ac z:Nat)(r:List (Nat×Nat×Nat)):wm ((k,ac,z)::r) R H=wm r R (Gb ac z H (get k R)):=rfl
def ar2(ac z c g r k:Nat):Gb ac z H (.ptr c g r k)=C0 ac z c H H[c]?:=rfl
def QO(ac z c:Nat)(H:ab)(cells:aZ):dX→ab
 |some a=>(jL z H a).2.set c (.box (cells.set ac (jL z H a).1))
 |none=>H
def ar3(ac z c:Nat)(cells:aZ):C0 ac z c H (j (.box cells))=QO ac z c H cells cells[ac]?:=by unfold C0 QO;simp only;cases cells[ac]?<;>rfl
def ar4(ac z c:Nat)(cells:aZ)(a:ay):QO ac z c H cells (j a)=(jL z H a).2.set c (.box (cells.set ac (jL z H a).1)):=rfl
def YJ:rR [] R H=(R,H):=rfl
def ar5(k z:Nat)(r:iI):rR ((k,z)::r) R H=rR r (Am k z R H (freeze H (get k R))).1 (Am k z R H (freeze H (get k R))).2:=rfl
def ar6(k z:Nat)(x:bx)(H1:ab):Am k z R H (j (x,H1))=((k,.i (iS (j z) x))::R,H1):=rfl
def ar7(B:Nat)(x:bx):eL B H (.i x)=.i x:=by simp[eL]
def ar8(B:Nat):eL B H .dead=.dead:=by simp[eL]
def ar9(B:Nat)(l:aZ):eL B H (.agg l)=.agg (ff B H l):=by simp[eL]
def ar_(B:Nat)(l:aZ):eL B H (.bl l)=.bl (ff B H l):=by simp[eL]
def ar'(B:Nat)(f:Fn)(a b:aZ):eL B H (.aS f a b)=.aS f (ff B H a) (ff B H b):=by simp[eL]
def asa(B c g al n:Nat):eL B H (.ref c g al n)=if c<B then .ref c g al n else Gc c g al n H[c]?:=by simp[eL]
def asb(B c g r k:Nat):eL B H (.ptr c g r k)=if c<B then .ptr c g r k else tQ c g r k H[c]?:=by simp[eL]
def asc(c g al n aD a6:Nat)(rows:cb)(ex:Bool):Gc c g al n (j (.af aD a6 rows ex))=if g=a6 then .ref c 0 al n else .dead:=rfl
def asd(c g al n aD a6:Nat)(rows:cb)(ex:Bool):Gc c g al n (j (.bs aD a6 rows ex))=if g=a6 then .i (.af aD ((rows.drop al).take n) (ex &&decide (al+n=rows.length)))else .dead:=rfl
def ase(c g r k aD a6:Nat)(rows:cb)(ex:Bool):tQ c g r k (j (.af aD a6 rows ex))=if g=a6 then .ptr c 0 r k else .dead:=rfl
def asf(c g r k aD a6:Nat)(rows:cb)(ex:Bool):tQ c g r k (j (.bs aD a6 rows ex))=.ptr c g r k:=rfl
def asg(c g r k:Nat)(cells:aZ):tQ c g r k (j (.box cells))=.ptr c g r k:=rfl
def ash(c g r k:Nat)(s:bm)(I:Nat):tQ c g r k (j (.iter s I))=.ptr c g r k:=rfl
def asi(B:Nat):ff B H []=[]:=by simp[ff]
def asj(B:Nat)(a:ay)(r:aZ):ff B H (a::r)=eL B H a::ff B H r:=by simp[ff]
def asl(B c:Nat)(cells:aZ):el B H c (.box cells)=.box (ff B H cells):=rfl
def asm(B c aD g:Nat)(rows:cb)(ex:Bool):el B H c (.af aD g rows ex)=if c<B then .af aD g rows ex else .af aD 0 rows J:=rfl
def asn(B c aD g:Nat)(rows:cb)(ex:Bool):el B H c (.bs aD g rows ex)=.bs aD g rows ex:=rfl
def aso(B c:Nat)(s:bm)(I:Nat):el B H c (.iter s I)=.iter s I:=rfl
def asp(B c:Nat):e0 B H c []=[]:=rfl
def asq(B c:Nat)(x:Chunk)(r:ab):e0 B H c (x::r)=el B H c x::e0 B H (c+1) r:=rfl
def asr(B:Nat):od B H []=[]:=rfl
def ass(B k:Nat)(a:ay)(r:Fr):od B H ((k,a)::r)=(k,eL B H a)::od B H r:=rfl
def HK(B:Nat):oM B R H=gc B (od B H R) (e0 B H 0 H):=rfl
def uu(E:Env)(g:FuncId):m_→m_
 |some (bW,H1)=>j (oJ (E.gH g) bW,H1)
 |none=>o
def ast(g:FuncId)(bW:aZ)(H1:ab):uu E g (j (bW,H1))=j (oJ (E.gH g) bW,H1):=rfl
def Le{g:FuncId}(an:E.Ai g=J)(args:aZ):js E g H args=uu E g (dP H args):=by unfold js uu;rw[an];rfl
def Bp{g:FuncId}(an:E.Ai g=ah)(args:aZ):js E g H args=j (e6 (E.gH g) args H):=by unfold js;rw[an]
def sv(a:ay):m_→m_
 |some (bW,bG)=>j (a::bW,bG)
 |none=>o
def HL(r:aZ):Option (bx×ab)→m_
 |some (x,H1)=>sv (.i x) (dP H1 r)
 |none=>o
def Lf(l r:aZ)(H:ab):Option (cZ×ab)→m_
 |some (xs,H1)=>sv (.agg (lu xs)) (dP H1 r)
 |none=>sv (.agg l) (dP H r)
def asu(a:ay)(bW:aZ)(bG:ab):sv a (j (bW,bG))=j (a::bW,bG):=rfl
def asv(r:aZ)(x:bx)(H1:ab):HL r (j (x,H1))=sv (.i x) (dP H1 r):=rfl
def asw(l r:aZ)(xs:cZ)(H1:ab):Lf l r H (j (xs,H1))=sv (.agg (lu xs)) (dP H1 r):=rfl
def asx(l r:aZ):Lf l r H o=sv (.agg l) (dP H r):=rfl
def asy:dP H []=j ([],H):=rfl
def asz(x:bx)(r:aZ):dP H (.i x::r)=sv (.i x) (dP H r):=by simp only[dP];cases dP H r<;>rfl
def asA(r:aZ):dP H (.dead::r)=sv .dead (dP H r):=by simp only[dP];cases dP H r<;>rfl
def asB(c g al n:Nat)(r:aZ):dP H (.ptr c g al n::r)=sv (.ptr c g al n) (dP H r):=by simp only[dP];cases dP H r<;>rfl
def asC(f:Fn)(a b:aZ)(r:aZ):dP H (.aS f a b::r)=sv (.aS f a b) (dP H r):=by simp only[dP];cases dP H r<;>rfl
def asD(l:aZ)(r:aZ):dP H (.bl l::r)=sv (.bl l) (dP H r):=by simp only[dP];cases dP H r<;>rfl
def asE(c g al n:Nat)(r:aZ):dP H (.ref c g al n::r)=HL r (freeze H (.ref c g al n)):=by
 simp only[dP,HL];cases freeze H (.ref c g al n)with
 |none=>rfl
 |some I=>simp only;cases dP I.2 r<;>rfl
def asF(l:aZ)(r:aZ):dP H (.agg l::r)=Lf l r H (f' H l):=by
 simp only[dP,Lf];cases f' H l with
 |none=>simp only;cases dP H r<;>rfl
 |some I=>simp only;cases dP I.2 r<;>rfl
def Lg(c g al n:Nat)(H:ab):gS→Option (bx×ab)
 |some (.af aD a6 rows ex)=>if g=a6 then j (.af aD ((rows.drop al).take n) (ex &&decide (al+n=rows.length)),H.set c (.bs aD g rows ex))else o
 |some (.bs aD a6 rows ex)=>if g=a6 then j (.af aD ((rows.drop al).take n) (ex &&decide (al+n=rows.length)),H)else o
 |_=>o
def YK(x:bx):freeze H (.i x)=j (x,H):=rfl
def asG(c g al n:Nat):freeze H (.ref c g al n)=Lg c g al n H H[c]?:=by
 simp only[freeze,Lg];cases H[c]? with
 |none=>rfl
 |some x=>cases x<;>rfl
def asH(c g al n:Nat):freeze H (.ptr c g al n)=o:=rfl
def asI(f:Fn)(a b:aZ):freeze H (.aS f a b)=o:=rfl
def asJ(c g al n aD a6:Nat)(rows:cb)(ex:Bool):Lg c g al n H (j (.af aD a6 rows ex))=if g=a6 then j (.af aD ((rows.drop al).take n) (ex &&decide (al+n=rows.length)),H.set c (.bs aD g rows ex))else o:=rfl
def asK(c g al n aD a6:Nat)(rows:cb)(ex:Bool):Lg c g al n H (j (.bs aD a6 rows ex))=if g=a6 then j (.af aD ((rows.drop al).take n) (ex &&decide (al+n=rows.length)),H)else o:=rfl
def Lh(x:bx):Option (cZ×ab)→Option (cZ×ab)
 |some (xs,bG)=>j (x::xs,bG)
 |none=>o
def Li(r:aZ):Option (bx×ab)→Option (cZ×ab)
 |some (x,H1)=>Lh x (f' H1 r)
 |none=>o
def YL(x:bx)(xs:cZ)(bG:ab):Lh x (j (xs,bG))=j (x::xs,bG):=rfl
def asL(x:bx):Lh x o=o:=rfl
def YM(r:aZ)(x:bx)(H1:ab):Li r (j (x,H1))=Lh x (f' H1 r):=rfl
def asM(r:aZ):Li r o=o:=rfl
def QP:f' H []=j ([],H):=rfl
def YN(a:ay)(r:aZ):f' H (a::r)=Li r (freeze H a):=by
 simp only[f',Li];cases freeze H a with
 |none=>rfl
 |some I=>simp only;cases f' I.2 r<;>rfl
def QQ:∀(l:cZ),f' H (l.map .i)=j (l,H)
 |[]=>rfl
 |a::l=>by simp only[fC,YN,YK,YM,QQ l,YL]
def hN(H:ab):dX→dE
 |some v=>j (v,H)
 |none=>o
def asN(v:ay):hN H (j v)=j (v,H):=rfl
def ov(al:dX):(al.map λ v=>(v,H))=hN H al:=by cases al<;>rfl
def asO(x:Operand):cw E aO (.move x) R H=j (bw E R x,H):=rfl
end
end Go.VI
