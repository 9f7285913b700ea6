import Derived.Test.YtflnccklneafnaaGreatDoorZTNQ4
import Derived.Lib.ItoaLen
open BitVec renaming ofInt→rO
open Bool renaming false_eq_true→gk,and_eq_true→c',and_self→PB,not_eq_true'→rh,and_eq_false_iff→Ql,true_and→ks,false_and→mb,and_true→Bw,and_false→zk,not_true→LO,not_false→sD,not_eq_true→Iq,true→ah,false→J
open Eq renaming trans→gB
open Go.Code renaming loop→uU
open Go.IntKind renaming i64→ni,i32→tu
open Go.Lib renaming indexByte→LA,itoa→Bt
open Go.Utf8 renaming encode→JA
open Int renaming toNat_natCast→ny,cast_ofNat_Int→Ru,natCast_zero→gO,eq_ofNat_of_zero_le→jC,natCast_one→M4,natCast_add→E9,tmod_eq_emod_of_nonneg→aiD,reduceEq→IF
open List renaming replicate→cH,range→hB,range'→ms,map_cons→fC,mem_cons→mx,getElem?_eq_some_iff→bQ,getElem?_drop→s8,getElem?_append_left→eO,getElem?_append_right→hK,getElem?_eq_getElem→eC,length_append→dK,replicate_succ→Gv,drop_drop→JX,foldl_cons→vd,getElem_mem→oi,length_cons→da,append_assoc→eo,getElem?_set_ne→dW,set_getElem_self→Dm,getElem?_set_self→k9,append_nil→dC,set_append_right→AG,set_set→wI,nil_append→hb,length_map→mE,mem_of_getElem?→jP,length_nil→dS,length_set→kl,take→eP,getElem?_cons_zero→rc,mem_cons_of_mem→vk,length_take→hV,length_replicate→mG,length_drop→j6,getElem?_replicate→O8,mem_append→gA,getElem?_eq_none→sd,length_pos_iff→Pt,ext_getElem?→DF,getElem?_cons_succ→kp,length→DX,mem_map→D0,map_nil→fN,take_zero→nU,take_succ_cons→w6,getD_eq_getElem?_getD→pN,drop_zero→i6,drop_eq_getElem_cons→jk,drop_length→mN,length_eq_one_iff→Ym,take_append_drop→Lo,all_cons→Ea,append_eq_nil_iff→Q0,flatMap_nil→tp,map_map→vC,flatMap_cons→zi,not_mem_nil→zj,cons_append→vF,set_cons_zero→HW,take_of_length_le→xq,drop→e_,any_eq_false→MH,map_append→pW,map_set→tC,map_drop→tD,take_succ_eq_append_getElem→Iz,mem_of_mem_drop→vW,filter→sN,mem_of_mem_take→Fk,mem_replicate→TF,mem_cons_self→Fq,getD→IW,take_length→Ny,getElem?_take_of_lt→Ub,mem_singleton→Co
open List.cons renaming injEq→Dr
open Nat renaming le_refl→cS,le_trans→s6,zero_add→cJ,sub_self→r7,not_le→fH,add_comm→rl,zero_le→iC,not_lt_zero→ti,mod_eq_of_lt→EW,reduceAdd→dl
open Ne renaming symm→bi
open Option renaming map_eq_some_iff→dp,getD_some→jQ,map_some→eH,map→IK,some→j,none→o
open Option.some renaming inj→q6,injEq→br
open UInt8 renaming ofNat→iR,toNat_ofNat'→S3
namespace Go.VI
open Go.Proofs
open Go.Proofs.Tryz
set_option maxRecDepth 100000
set_option maxHeartbeats 40000000
set_option linter.unusedVariables false
set_option linter.unusedSimpArgs false
set_option linter.defProp false
def aLG(g:cQ)(aR:g.length<1000000)(n:Nat)(aI:n<1000000)(H:ab):cF 207 [.i (.af 1 (cg g) J),n] H (.i (.af 1 (cg (vV g n)) J)):=cI (by
 have hL:¬(n:Int)<0:=aa;have hm:max 0 ((g.length:Int)-n)=((g.length-n:Nat):Int):=aa;have ao:=gn g;have aP:(cg g).drop (g.length-n)=cg (vV g n):=aLF _ _;have fS:=gn (vV g n);have B0:(vV g n).length=g.length-(g.length-n):=by rw[vV,j6]
 generalize vV g n=z at*;refine bE agZ ?_;simp(disch:=omega)only[aw,simprocAttr,aI0,ej,hL,hm,aP,ao];exact be)
def aLH(g:cQ)(aR:g.length≤1000)(ak:∀r∈g,r.length≤132):∀(m k:Nat),k+m=g.length→
  ie EP 0 [(3,.x (.d 0 0 0 g.length)),(9,.i (.af 1 (cg g) J)),(10,g.length),(11,k)] [.aE 5 0 0 (pb g k)] 0 [(3,.x (.d 0 0 0 g.length)),(9,.i (.af 1 (cg g) J)),(10,g.length),(11,g.length),(12,J)] [.aE 5 0 0 (a7 g)]:=by
 intro m;induction m with
 |zero=>intro k aA;obtain rfl:k=g.length:=aa;rw[ail];have aP:=hf g;generalize a7 g=x at*;refine(cO EP 0).trans ?_;simp(disch:=omega)only[aw,simprocAttr,St,ej,dd,gn,SM]
 |succ m a'=>
  intro k aA;have bg:k<g.length:=aa;have b2:=zG (eC bg);have qz:=aim bg;have ki:=ain bg;have fM:=ak _ (oi bg);have cD:=λ H=>Tf (cl (g[k]'bg)) (by rw[fo];omega) H
  have ao:=fo (g[k]'bg);have fS:=aij (g:=g) (k:=k) aa;have e:=a' (k+1) aa;refine gB ?_ e;clear e a';rw[←ki];generalize pb g k=y at*;generalize cl g[k]=z at*;refine(cO EP 0).trans ?_;simp(disch:=omega)only[aw,simprocAttr,St,ej,dd,b2,qz,cD,ao,ne_eq,gn,SM]
def Fc(g:cQ):rQ 5 (a7 g)=j (g.map λ r=>bx.af 5 (cl r) J):=by have h:=Rk 5 (g.map cl);rw[vC,vC]at h;exact h
def aLI(g:cQ)(aR:g.length≤1000)(ak:∀r∈g,r.length≤132)(H:ab):cF 206 [.i (.af 1 (cg g) J)] H (.i (.af 1 (cg g) J)):=cI (by
 have ao:=aLH g aR ak g.length 0 aa;rw[aik]at ao;simp only[gO]at ao;have aP:=hf g;have yy:(cH g.length [bx.af 5 [] J]).map q0=cH g.length (.ek (.af 5 [] J)):=by simp[q0]
 have aN:=Fc g;have hm:=Fb g;generalize g.map (λ r=>bx.af 5 (cl r) J)=X at*;generalize a7 g=y at*;refine bE EP ?_;simp(disch:=first|omega|(simp only[cR,gn,aP];omega))only[aw,simprocAttr,St,ej,dd,ao,yy,aN,hm,gn,SM];exact be)
def uK(b al:cQ):cQ:=vV (b++al) 500
def aLJ(b al:cQ)(an:b.length≤500)(ci:al.length≤60)(ak:∀r∈b++al,r.length≤132)(H:ab):
  cF 145 [.i (.af 1 (cg b) J),.i (.af 1 (cg al) J)] H (.i (.af 1 (cg (uK b al)) J)):=cI (by
 have ar:=λ H=>aLE b al aa H
 have aM:∀H:ab,dy E (b' E) 207 [.i (.af 1 (cg (b++al)) J),.i (.v (.int .i64 (500)))] H=j (.i (.af 1 (cg (uK b al)) J),H):=λ H=>aLG (b++al) (by rw[dK];omega) 500 aa H
 have bZ:=λ H=>aLI (uK b al) (s6 (aiw _ _) aa) (λ r h=>ak r (vW h)) H
 generalize uK b al=z at*;generalize b++al=y at*;refine bE ago ?_;simp(disch:=omega)only[aw,simprocAttr,aIr,ox,ej,ar,aM,bZ];exact be)
structure gG where
 r:Int
 c:Int
 I:Bool
 deriving DecidableEq
structure hg where
 w:Int
 h:Int
 cW:Int
 ck:Int
 dq:Bool
def jc(b:hg):Prop:=(1≤b.w∧b.w≤132)∧(1≤b.h∧b.h≤60)∧0≤b.cW∧b.cW<b.ck∧b.ck≤b.h
def e'(n b5 aB:Int):Int:=max b5 (min n aB)
def sK{n b5 aB:Int}(h:b5≤aB):b5≤e' n b5 aB∧e' n b5 aB≤aB:=by unfold e';omega
def zK{b:hg}(h:jc b)(H:ab):cF 60 [.agg [b.w,b.h,b.cW,b.ck,b.dq]] H (↑(0:Int)):=cI (by
 obtain⟨⟨p,U⟩,⟨az,bh⟩,bF,dN,g'⟩:=h;refine bE afD ?_;simp(disch:=omega)only[aw,simprocAttr,aHP];exact be)
def uL(a b c:Int)(H:ab):cF 118 [a,b,c] H (↑(e' a b c)):=cI (by
 refine bE aga ?_;simp(disch:=omega)only[aw,simprocAttr,aIh];exact be)
def gQ(c:gG)(b:hg):gG:=⟨e' c.r 0 (b.h-1),e' c.c 0 (b.w-1),c.I⟩
def Fe(c:gG){b:hg}(h:jc b)(H:ab):cF 61 [.agg [c.r,c.c,c.I],.agg [b.w,b.h,b.cW,b.ck,b.dq]] H (.agg [↑((gQ c b).r),↑((gQ c b).c),c.I]):=cI (by
 obtain⟨⟨p,U⟩,⟨az,bh⟩,bF,dN,g'⟩:=h;have ar:=λ H=>uL c.r 0 (b.h-1) H
 have aM:=λ H=>uL c.c 0 (b.w-1) H
 refine bE afE ?_;simp(disch:=omega)only[aw,simprocAttr,aHQ,ar,aM];exact be)
def IE(r:Int)(b:hg):Bool:=decide (b.cW≤r) &&decide (r<b.ck)
def aLK(r:Int)(b:hg)(H:ab):cF 205 [r,.agg [b.w,b.h,b.cW,b.ck,b.dq]] H (↑(IE r b)):=cI (by
 unfold IE;by_cases p:b.cW≤r<;>by_cases U:r<b.ck<;>simp only[p,U,decide_true,decide_false,Bw,zk,ks,mb]<;>(
 refine bE agY ?_;simp(disch:=omega)only[aw,simprocAttr,aIZ,p,U];exact be))
def aLL(x y z:bx):∃L,b' E 200 [.ptr 0 0 0 0,.aS (.func 118) [] []] [.box [.i x,.i y,.i z]]=j (.bl [],.box [.i x,.i y,.i z]::L):=by rw[bz agV];simp(disch:=omega)only[aw,simprocAttr,aIW];exact be
def aLM(x y z:bx)(A B C:Chunk):cF 200 [.ptr 3 0 0 0,.aS (.func 118) [] []] [A,B,C,.box [.i x,.i y,.i z]] (.bl []):=by obtain⟨L,h⟩:=aLL x y z;unfold cF dy;simp[fg,az0,bI,bj,reach,Chunk.refs,cP,cB,bD,Chunk.c2,h,dG,ev]
def aLN(x y z:bx):∃L,b' E 142 [.ptr 0 0 0 0,.aS (.func 118) [] []] [.box [.i x,.i y,.i z]]=j (.bl [],.box [.i x,.i y,.i z]::L):=by rw[bz agm];simp(disch:=omega)only[aw,simprocAttr,aIp];exact be
def aLO(x y z:bx)(A B C:Chunk):cF 142 [.ptr 3 0 0 0,.aS (.func 118) [] []] [A,B,C,.box [.i x,.i y,.i z]] (.bl []):=by obtain⟨L,h⟩:=aLN x y z;unfold cF dy;simp[fg,azY,bI,bj,reach,Chunk.refs,cP,cB,bD,Chunk.c2,h,dG,ev]
def aLP(c:gG){b:hg}(h:jc b)(H:ab):cF 141 [.agg [c.r,c.c,c.I],.agg [b.w,b.h,b.cW,b.ck,b.dq],.aS (.func 200) [] []] H (.agg [↑((gQ c b).r),↑((gQ c b).c),J]):=cI (by
 have ar:=λ H=>zK h H
 have aM:=λ H=>Fe c h H
 refine bE EH ?_;simp(disch:=omega)only[aw,simprocAttr,Ie,aFJ,ar,aM,aLM];exact be)
def aLQ(c:gG){b:hg}(h:jc b)(H:ab):cF 141 [.agg [c.r,c.c,c.I],.agg [b.w,b.h,b.cW,b.ck,b.dq],.aS (.func 142) [] []] H (.agg [↑((gQ c b).r),↑((gQ c b).c),J]):=cI (by
 have ar:=λ H=>zK h H
 have aM:=λ H=>Fe c h H
 refine bE EH ?_;simp(disch:=omega)only[aw,simprocAttr,Ie,aE',ar,aM,aLO];exact be)
def Ff(r:Int)(b:hg):Int:=if IE r b=ah then b.cW else 0
def Fg(r:Int)(b:hg):Int:=if IE r b=ah then b.ck-1 else b.h-1
def xD(r n:Int)(b:hg):Int:=e' (r-e' n (-1000) 1000) (Ff r b) (Fg r b)
def aLR(r c n:Int){b:hg}(h:jc b)(ak:0≤r∧r<b.h):∃L,b' E 204 [.ptr 0 0 0 0,.aS (.func 118) [] [],.ptr 1 0 0 0,.ptr 2 0 0 0] [.box [.i (.v (.int .i64 (r))),.i (.v (.int .i64 (c))),.i (.v (.bool (J)))],.box [.i (.v (.int .i64 (b).w)),.i (.v (.int .i64 (b).h)),.i (.v (.int .i64 (b).cW)),.i (.v (.int .i64 (b).ck)),.i (.v (.bool (b).dq))],.box [.i (.v (.int .i64 (n)))]]=j (.bl [],.box [.i (.v (.int .i64 (xD r n b))),.i (.v (.int .i64 (c))),.i (.v (.bool (J)))]::.box [.i (.v (.int .i64 (b).w)),.i (.v (.int .i64 (b).h)),.i (.v (.int .i64 (b).cW)),.i (.v (.int .i64 (b).ck)),.i (.v (.bool (b).dq))]::.box [.i (.v (.int .i64 (n)))]::L):=by
 obtain⟨⟨p,U⟩,⟨az,bh⟩,bF,dN,g'⟩:=h;have ar:=λ H=>aLK r b H
 have aM:=λ H=>uL n (-1000) 1000 H
 have bZ:=λ H=>uL (r-e' n (-1000) 1000) (Ff r b) (Fg r b) H
 have dx:=sK (n:=n) (show(-1000:Int)≤1000 by decide);unfold xD;unfold Ff Fg at*;generalize e' n (-1000) 1000=q at*;cases aR:IE r b<;>simp only[aR,if_true,if_false,gk]at ar bZ⊢<;>(
 rw[bz agX];simp(disch:=omega)only[aw,simprocAttr,aIY,L1,ar,aM,bZ];exact be)
def aLS(r c n:Int){b:hg}(h:jc b)(ak:0≤r∧r<b.h)(A B C:Chunk):
  cE 204 [.ptr 5 0 0 0,.aS (.func 118) [] [],.ptr 0 0 0 0,.ptr 1 0 0 0] [.box [b.w,b.h,b.cW,b.ck,b.dq],.box [n],A,B,C,.box [r,c,J]] (.bl []) [.box [b.w,b.h,b.cW,b.ck,b.dq],.box [n],A,B,C,.box [↑(xD r n b),c,J]]:=by
 obtain⟨L,h⟩:=aLR r c n h ak;unfold cE dy;simp[fg,az3,bI,bj,reach,Chunk.refs,cP,cB,bD,Chunk.c2,h,dG,ev]
def zL(c:gG){b:hg}(h:jc b):(0≤(gQ c b).r∧(gQ c b).r<b.h)∧0≤(gQ c b).c∧(gQ c b).c<b.w:=by obtain⟨⟨p,U⟩,⟨az,bh⟩,_⟩:=h;have ar:=sK (n:=c.r) (show 0≤b.h-1 by omega);have aM:=sK (n:=c.c) (show 0≤b.w-1 by omega);simp only[gQ];omega
def aLT(c:gG)(n:Int){b:hg}(h:jc b):∃L,b' E 141 [.agg [.i (.v (.int .i64 (c.r))),.i (.v (.int .i64 (c.c))),.i (.v (.bool (c.I)))],.agg [.i (.v (.int .i64 (b).w)),.i (.v (.int .i64 (b).h)),.i (.v (.int .i64 (b).cW)),.i (.v (.int .i64 (b).ck)),.i (.v (.bool (b).dq))],.aS (.func 204) [] [.ptr 0 0 0 0,.ptr 1 0 0 0]] [.box [.i (.v (.int .i64 (b).w)),.i (.v (.int .i64 (b).h)),.i (.v (.int .i64 (b).cW)),.i (.v (.int .i64 (b).ck)),.i (.v (.bool (b).dq))],.box [.i (.v (.int .i64 (n)))]]=
  j (.agg [.i (.v (.int .i64 (xD (gQ c b).r n b))),.i (.v (.int .i64 ((gQ c b).c))),.i (.v (.bool (J)))],.box [.i (.v (.int .i64 (b).w)),.i (.v (.int .i64 (b).h)),.i (.v (.int .i64 (b).cW)),.i (.v (.int .i64 (b).ck)),.i (.v (.bool (b).dq))]::.box [.i (.v (.int .i64 (n)))]::L):=by
 have ar:=λ H=>zK h H
 have aM:=λ H=>Fe c h H
 have bZ:=λ A B C=>aLS (gQ c b).r (gQ c b).c n h (zL c h).1 A B C
 rw[bz EH];simp(disch:=omega)only[aw,simprocAttr,Ie,aff,ar,aM,bZ];exact be
def aLU(c:gG)(n:Int){b:hg}(h:jc b)(A C:Chunk):
  cF 141 [.agg [c.r,c.c,c.I],.agg [b.w,b.h,b.cW,b.ck,b.dq],.aS (.func 204) [] [.ptr 2 0 0 0,.ptr 1 0 0 0]] [A,.box [n],.box [b.w,b.h,b.cW,b.ck,b.dq],C] (.agg [↑(xD (gQ c b).r n b),↑((gQ c b).c),J]):=by
 obtain⟨L,h⟩:=aLT c n h;unfold cF dy;simp[fg,Ry,bI,bj,reach,Chunk.refs,cP,cB,bD,Chunk.c2,h,dG,ev]
def jn(c:gG)(n:Int)(b:hg):gG:=⟨xD (gQ c b).r n b,(gQ c b).c,J⟩
def Ts(c:gG)(n:Int){b:hg}(h:jc b)(H:ab):cF 143 [.agg [c.r,c.c,c.I],n,.agg [b.w,b.h,b.cW,b.ck,b.dq]] H (.agg [↑((jn c n b).r),↑((jn c n b).c),↑((jn c n b).I)]):=cI (by
 have ar:=λ A C=>aLU c n h A C
 refine bE agn ?_;simp(disch:=omega)only[aw,simprocAttr,aIq,ar];exact be)
def xE(c n:Int)(b:hg):Int:=e' (c+e' n (-1000) 1000) 0 (b.w-1)
def aLV(r c n:Int){b:hg}(h:jc b)(aj:0≤c∧c<b.w):∃L,b' E 203 [.ptr 0 0 0 0,.aS (.func 118) [] [],.ptr 1 0 0 0,.ptr 2 0 0 0] [.box [.i (.v (.int .i64 (r))),.i (.v (.int .i64 (c))),.i (.v (.bool (J)))],.box [.i (.v (.int .i64 (n)))],.box [.i (.v (.int .i64 (b).w)),.i (.v (.int .i64 (b).h)),.i (.v (.int .i64 (b).cW)),.i (.v (.int .i64 (b).ck)),.i (.v (.bool (b).dq))]]=j (.bl [],.box [.i (.v (.int .i64 (r))),.i (.v (.int .i64 (xE c n b))),.i (.v (.bool (J)))]::.box [.i (.v (.int .i64 (n)))]::.box [.i (.v (.int .i64 (b).w)),.i (.v (.int .i64 (b).h)),.i (.v (.int .i64 (b).cW)),.i (.v (.int .i64 (b).ck)),.i (.v (.bool (b).dq))]::L):=by
 obtain⟨⟨p,U⟩,⟨az,bh⟩,bF,dN,g'⟩:=h;have aM:=λ H=>uL n (-1000) 1000 H
 have bZ:=λ H=>uL (c+e' n (-1000) 1000) 0 (b.w-1) H
 have dx:=sK (n:=n) (show(-1000:Int)≤1000 by decide);unfold xE;generalize e' n (-1000) 1000=q at*;rw[bz agW];simp(disch:=omega)only[aw,simprocAttr,aIX,L1,aM,bZ];exact be
def aLW(r c n:Int){b:hg}(h:jc b)(aj:0≤c∧c<b.w)(A B C:Chunk):
  cE 203 [.ptr 5 0 0 0,.aS (.func 118) [] [],.ptr 0 0 0 0,.ptr 1 0 0 0] [.box [n],.box [b.w,b.h,b.cW,b.ck,b.dq],A,B,C,.box [r,c,J]] (.bl []) [.box [n],.box [b.w,b.h,b.cW,b.ck,b.dq],A,B,C,.box [r,↑(xE c n b),J]]:=by
 obtain⟨L,h⟩:=aLV r c n h aj;unfold cE dy;simp[fg,az2,bI,bj,reach,Chunk.refs,cP,cB,bD,Chunk.c2,h,dG,ev]
def aLX(c:gG)(n:Int){b:hg}(h:jc b):∃L,b' E 141 [.agg [.i (.v (.int .i64 (c.r))),.i (.v (.int .i64 (c.c))),.i (.v (.bool (c.I)))],.agg [.i (.v (.int .i64 (b).w)),.i (.v (.int .i64 (b).h)),.i (.v (.int .i64 (b).cW)),.i (.v (.int .i64 (b).ck)),.i (.v (.bool (b).dq))],.aS (.func 203) [] [.ptr 0 0 0 0,.ptr 1 0 0 0]] [.box [.i (.v (.int .i64 (n)))],.box [.i (.v (.int .i64 (b).w)),.i (.v (.int .i64 (b).h)),.i (.v (.int .i64 (b).cW)),.i (.v (.int .i64 (b).ck)),.i (.v (.bool (b).dq))]]=
  j (.agg [.i (.v (.int .i64 ((gQ c b).r))),.i (.v (.int .i64 (xE (gQ c b).c n b))),.i (.v (.bool (J)))],.box [.i (.v (.int .i64 (n)))]::.box [.i (.v (.int .i64 (b).w)),.i (.v (.int .i64 (b).h)),.i (.v (.int .i64 (b).cW)),.i (.v (.int .i64 (b).ck)),.i (.v (.bool (b).dq))]::L):=by
 have ar:=λ H=>zK h H
 have aM:=λ H=>Fe c h H
 have bZ:=λ A B C=>aLW (gQ c b).r (gQ c b).c n h (zL c h).2 A B C
 rw[bz EH];simp(disch:=omega)only[aw,simprocAttr,Ie,afe,ar,aM,bZ];exact be
def aLY(c:gG)(n:Int){b:hg}(h:jc b)(A C:Chunk):
  cF 141 [.agg [c.r,c.c,c.I],.agg [b.w,b.h,b.cW,b.ck,b.dq],.aS (.func 203) [] [.ptr 1 0 0 0,.ptr 2 0 0 0]] [A,.box [n],.box [b.w,b.h,b.cW,b.ck,b.dq],C] (.agg [↑((gQ c b).r),↑(xE (gQ c b).c n b),J]):=by
 obtain⟨L,h⟩:=aLX c n h;unfold cF dy;simp[fg,Ry,bI,bj,reach,Chunk.refs,cP,cB,bD,Chunk.c2,h,dG,ev]
def n2(c:gG)(n:Int)(b:hg):gG:=⟨(gQ c b).r,xE (gQ c b).c n b,J⟩
def aLZ(c:gG)(n:Int){b:hg}(h:jc b)(H:ab):cF 140 [.agg [c.r,c.c,c.I],n,.agg [b.w,b.h,b.cW,b.ck,b.dq]] H (.agg [↑((n2 c n b).r),↑((n2 c n b).c),↑((n2 c n b).I)]):=cI (by
 have ar:=λ A C=>aLY c n h A C
 refine bE agl ?_;simp(disch:=omega)only[aw,simprocAttr,aIo,ar];exact be)
def toR(row:Int)(b:hg):Int:=if b.dq=ah then e' (b.cW+(e' row 1 1000-1)) b.cW (b.ck-1)else e' (e' row 1 1000-1) 0 (b.h-1)
def lS(bk:Int)(b:hg):Int:=e' (e' bk 1 1000-1) 0 (b.w-1)
def aL0(r c row bk:Int)(I:Bool){b:hg}(h:jc b):∃L,b' E 223 [.ptr 0 0 0 0,.aS (.func 118) [] [],.ptr 1 0 0 0,.ptr 2 0 0 0,.ptr 3 0 0 0] [.box [.i (.v (.int .i64 (r))),.i (.v (.int .i64 (c))),.i (.v (.bool (I)))],.box [.i (.v (.int .i64 (row)))],.box [.i (.v (.int .i64 (bk)))],.box [.i (.v (.int .i64 (b).w)),.i (.v (.int .i64 (b).h)),.i (.v (.int .i64 (b).cW)),.i (.v (.int .i64 (b).ck)),.i (.v (.bool (b).dq))]]=j (.bl [],.box [.i (.v (.int .i64 (toR row b))),.i (.v (.int .i64 (lS bk b))),.i (.v (.bool (I)))]::.box [.i (.v (.int .i64 (row)))]::.box [.i (.v (.int .i64 (bk)))]::.box [.i (.v (.int .i64 (b).w)),.i (.v (.int .i64 (b).h)),.i (.v (.int .i64 (b).cW)),.i (.v (.int .i64 (b).ck)),.i (.v (.bool (b).dq))]::L):=by
 obtain⟨⟨p,U⟩,⟨az,bh⟩,bF,dN,g'⟩:=h;have ar:=λ H=>uL row 1 1000 H
 have aM:=λ H=>uL bk 1 1000 H
 have bZ:=λ H=>uL (e' bk 1 1000-1) 0 (b.w-1) H
 have dx:=λ H=>uL (e' row 1 1000-1) 0 (b.h-1) H
 have pz:=λ H=>uL (b.cW+(e' row 1 1000-1)) b.cW (b.ck-1) H
 have KV:=sK (n:=row) (show(1:Int)≤1000 by decide);have Tt:=sK (n:=bk) (show(1:Int)≤1000 by decide);unfold toR lS;generalize e' row 1 1000=q at*;generalize e' bk 1 1000=cN at*;cases aR:b.dq<;>simp only[if_true,if_false,gk]<;>(
 rw[bz ag8];simp(disch:=omega)only[aw,simprocAttr,aI8,L1,ar,aM,bZ,dx,pz,aR];exact be)
def aL1(r c row bk:Int)(I:Bool){b:hg}(h:jc b)(A B C:Chunk):
  cE 223 [.ptr 6 0 0 0,.aS (.func 118) [] [],.ptr 0 0 0 0,.ptr 1 0 0 0,.ptr 2 0 0 0] [.box [row],.box [bk],.box [b.w,b.h,b.cW,b.ck,b.dq],A,B,C,.box [r,c,I]] (.bl []) [.box [row],.box [bk],.box [b.w,b.h,b.cW,b.ck,b.dq],A,B,C,.box [↑(toR row b),↑(lS bk b),I]]:=by
 obtain⟨L,h⟩:=aL0 r c row bk I h;unfold cE dy;simp[fg,az6,bI,bj,reach,Chunk.refs,cP,cB,bD,Chunk.c2,h,dG,ev]
def aL2(c:gG)(row bk:Int){b:hg}(h:jc b):∃L,b' E 141 [.agg [.i (.v (.int .i64 (c.r))),.i (.v (.int .i64 (c.c))),.i (.v (.bool (c.I)))],.agg [.i (.v (.int .i64 (b).w)),.i (.v (.int .i64 (b).h)),.i (.v (.int .i64 (b).cW)),.i (.v (.int .i64 (b).ck)),.i (.v (.bool (b).dq))],.aS (.func 223) [] [.ptr 0 0 0 0,.ptr 1 0 0 0,.ptr 2 0 0 0]] [.box [.i (.v (.int .i64 (row)))],.box [.i (.v (.int .i64 (bk)))],.box [.i (.v (.int .i64 (b).w)),.i (.v (.int .i64 (b).h)),.i (.v (.int .i64 (b).cW)),.i (.v (.int .i64 (b).ck)),.i (.v (.bool (b).dq))]]=
  j (.agg [.i (.v (.int .i64 (toR row b))),.i (.v (.int .i64 (lS bk b))),.i (.v (.bool (J)))],.box [.i (.v (.int .i64 (row)))]::.box [.i (.v (.int .i64 (bk)))]::.box [.i (.v (.int .i64 (b).w)),.i (.v (.int .i64 (b).h)),.i (.v (.int .i64 (b).cW)),.i (.v (.int .i64 (b).ck)),.i (.v (.bool (b).dq))]::L):=by
 have ar:=λ H=>zK h H
 have aM:=λ H=>Fe c h H
 have bZ:=λ A B C=>aL1 (gQ c b).r (gQ c b).c row bk J h A B C
 rw[bz EH];simp(disch:=omega)only[aw,simprocAttr,Ie,afi,ar,aM,bZ];exact be
def aL3(c:gG)(row bk:Int){b:hg}(h:jc b)(A C:Chunk):
  cF 141 [.agg [c.r,c.c,c.I],.agg [b.w,b.h,b.cW,b.ck,b.dq],.aS (.func 223) [] [.ptr 1 0 0 0,.ptr 2 0 0 0,.ptr 3 0 0 0]] [A,.box [row],.box [bk],.box [b.w,b.h,b.cW,b.ck,b.dq],C] (.agg [↑(toR row b),↑(lS bk b),J]):=by
 obtain⟨L,h⟩:=aL2 c row bk h;unfold cF dy;simp[fg,Ry,bI,bj,reach,Chunk.refs,cP,cB,bD,Chunk.c2,h,dG,ev]
def aL4(c:gG)(row bk:Int){b:hg}(h:jc b)(H:ab):cF 210 [.agg [c.r,c.c,c.I],row,bk,.agg [b.w,b.h,b.cW,b.ck,b.dq]] H (.agg [↑(toR row b),↑(lS bk b),J]):=cI (by
 have ar:=λ A C=>aL3 c row bk h A C
 refine bE ag1 ?_;simp(disch:=omega)only[aw,simprocAttr,aI2,ar];exact be)
def zM(c:gG)(b:hg):gG:=⟨(gQ c b).r,(gQ c b).c,c.I &&decide ((gQ c b).c=b.w-1)⟩
def aL5(c:gG){b:hg}(h:jc b)(H:ab):cF 26 [.agg [c.r,c.c,c.I],.agg [b.w,b.h,b.cW,b.ck,b.dq]] H (.agg [↑((zM c b).r),↑((zM c b).c),↑((zM c b).I)]):=cI (by
 have ar:=λ H=>zK h H
 have aM:=λ H=>Fe c h H
 have bZ:=zL c h;obtain⟨⟨p,U⟩,⟨az,bh⟩,bF,dN,g'⟩:=h;unfold zM;cases ax:c.I<;>by_cases bu:(gQ c b).c=b.w-1<;>simp only[bu,decide_true,decide_false,ks,mb]<;>rw[ax]at aM<;>(
 refine bE afr ?_;simp(disch:=omega)only[aw,simprocAttr,aHE,ar,aM,bu];exact be))
def aix(a b:gG):k2 prog .eql 30 (.agg [.i (.v (.int .i64 (a.r))),.i (.v (.int .i64 (a.c))),.i (.v (.bool (a.I)))]) (.agg [.i (.v (.int .i64 (b.r))),.i (.v (.int .i64 (b.c))),.i (.v (.bool (b.I)))])=j (.i (.v (.bool (decide (a=b))))):=by rw[Y9];unfold j0;simp only;rw[if_neg (by simp only[Bz];decide)];simp only[Bx,By];obtain⟨r,c,I⟩:=a;obtain⟨hq,cv,l0⟩:=b;by_cases p:r=hq<;>by_cases U:c=cv<;>by_cases az:I=l0<;>simp[p9,qX,p8,sT,ay.bool,p,U,az]
def j'(c:gG)(b:hg):gG:=⟨(gQ c b).r,(gQ c b).c,J⟩
def p0(c:gG)(b:hg):gG×Bool:=if jn (j' c b) (-1) b=j' c b∧(j' c b).r=b.ck-1 then(j' c b,ah)else(jn (j' c b) (-1) b,J)
def sL(c:gG)(b:hg):gG×Bool:=if jn (j' c b) 1 b=j' c b∧(j' c b).r=b.cW then(j' c b,ah)else(jn (j' c b) 1 b,J)
def aL6(c:gG){b:hg}(h:jc b)(H:ab):cF 135 [.agg [c.r,c.c,c.I],.agg [b.w,b.h,b.cW,b.ck,b.dq]] H (.bl [.agg [↑((p0 c b).1.r),↑((p0 c b).1.c),↑((p0 c b).1.I)],.i (.v (.int .i64 (if(p0 c b).2=ah then 1 else 0)))]):=cI (by
 have ar:=λ H=>aLP c h H
 have aM:=λ H=>Ts (j' c b) (-1) h H
 have bZ:=aix (jn (j' c b) (-1) b) (j' c b);have dx:=λ H=>zK h H
 have pz:=(zL c h).1;rw[show(gQ c b).r=(j' c b).r from rfl]at ar pz;rw[show(gQ c b).c=(j' c b).c from rfl,show J=(j' c b).I from rfl]at ar;unfold p0;obtain⟨⟨p,U⟩,⟨az,bh⟩,bF,dN,g'⟩:=h;generalize j' c b=al at*;generalize jn al (-1) b=vo at*;by_cases bu:vo=al
 ·simp only[bu,decide_true,true_and]at aM bZ⊢;by_cases ak:al.r=b.ck-1
  ·simp only[ak,if_true];simp only[ak]at ar aM bZ;refine bE Mj ?_;simp(disch:=omega)only[aw,simprocAttr,Sg,ar,aM,bZ,dx];exact be
  ·simp only[ak,if_false,gk];refine bE Mj ?_;simp(disch:=omega)only[aw,simprocAttr,Sg,ar,aM,bZ,dx,ak];exact be
 ·simp only[bu,decide_false,false_and,if_false,gk]at bZ⊢;refine bE Mj ?_;simp(disch:=omega)only[aw,simprocAttr,Sg,ar,aM,bZ,dx];exact be)
def aL7(c:gG){b:hg}(h:jc b)(H:ab):cF 105 [.agg [c.r,c.c,c.I],.agg [b.w,b.h,b.cW,b.ck,b.dq]] H (.bl [.agg [↑((sL c b).1.r),↑((sL c b).1.c),↑((sL c b).1.I)],.i (.v (.int .i64 (if(sL c b).2=ah then 1 else 0)))]):=cI (by
 have ar:=λ H=>aLQ c h H
 have aM:=λ H=>Ts (j' c b) 1 h H
 have bZ:=aix (jn (j' c b) 1 b) (j' c b);have dx:=λ H=>zK h H
 rw[show(gQ c b).r=(j' c b).r from rfl,show(gQ c b).c=(j' c b).c from rfl,show J=(j' c b).I from rfl]at ar;unfold sL;generalize j' c b=al at*;generalize jn al 1 b=vo at*;by_cases bu:vo=al
 ·simp only[bu,decide_true,true_and]at aM bZ⊢;by_cases ak:al.r=b.cW
  ·simp only[ak,if_true];simp only[ak]at ar aM bZ;refine bE Mf ?_;simp(disch:=omega)only[aw,simprocAttr,Sa,ar,aM,bZ,dx];exact be
  ·simp only[ak,if_false,gk];refine bE Mf ?_;simp(disch:=omega)only[aw,simprocAttr,Sa,ar,aM,bZ,dx,ak];exact be
 ·simp only[bu,decide_false,false_and,if_false,gk]at bZ⊢;refine bE Mf ?_;simp(disch:=omega)only[aw,simprocAttr,Sa,ar,aM,bZ,dx];exact be)
def eZ(l:lh):cb:=l.map λ b=>[.v (.bool b)]
def n5(l:lh):(eZ l).length=l.length:=by simp[eZ]
def Nj{l:lh}{k:Nat}(h:k<l.length):(eZ l)[k]?=j [.v (.bool l[k])]:=by simp[eZ,h]
def aiy(l:lh)(k:Nat)(b:Bool):(eZ l).set k [.v (.bool b)]=eZ (l.set k b):=by simp[eZ,tC]
def xF:lh→Nat→Int→cu
 |[],_,_=>o
 |b::r,k,bk=>if bk<k∧b=ah then j k else xF r (k+1) bk
def pc(l:lh)(bk:Int):Int:=match xF l 0 bk with
 |some k=>k
 |none=>max 0 ((l.length:Int)-1)
def aiz:∀{l:lh} {k:Nat} {bk:Int} {i:Nat},xF l k bk=j i→i<k+l.length
 |b::r,k,bk,i,h=>by
  simp only[xF]at h;split at h
  ·cases h;simp
  ·have:=aiz h;simp only[da];omega
def aL8(l:lh)(bk:Int)(ao:l.length≤1000):∀m k,k+m=l.length→
  ew E 0 100 (fu f100 0) [(0,.i (.af 1 (eZ l) J)),(1,.i (.v (.int .i64 (bk)))),(7,.i (.v (.int .i64 (l.length)))),(8,.i (.v (.int .i64 (k))))] []=(match xF (l.drop k) k bk with
   |some i=>j (.ret,[(4,.i (.v (.int .i64 (i))))],[])
   |none=>j (.exit 0,[(0,.i (.af 1 (eZ l) J)),(1,.i (.v (.int .i64 (bk)))),(7,.i (.v (.int .i64 (l.length)))),(8,.i (.v (.int .i64 (l.length)))),(9,.i (.v (.bool (J))))],[])):=by
 intro m;induction m with
 |zero=>intro k aA;obtain rfl:k=l.length:=aa;rw[mN];simp only[xF];rw[cO BJ 0];simp(disch:=omega)only[aw,simprocAttr,H8,fI,n5,Il]
 |succ m a'=>
  intro k aA;have bg:k<l.length:=aa;have b2:=Nj bg;have e:=a' (k+1) aa;rw[jk bg];simp only[xF];by_cases p:bk<k
  ·cases an:l[k]with
   |true=>rw[an]at b2;simp only[p,and_self,if_true];clear e a';rw[cO BJ 0];simp(disch:=omega)only[aw,simprocAttr,H8,fI,b2,p,n5,Il]
   |false=>rw[an]at b2;simp only[gk,and_false,if_false];refine gB ?_ e;clear e a';rw[cO BJ 0];simp(disch:=omega)only[aw,simprocAttr,H8,fI,b2,p,n5,Il]
  ·simp only[p,false_and,if_false];refine gB ?_ e;clear e a';rw[cO BJ 0];simp(disch:=omega)only[aw,simprocAttr,H8,fI,b2,p,n5,Il]
def aiA(l:lh)(bk:Int)(ao:l.length≤1000)(H:ab):cF 100 [.i (.af 1 (eZ l) J),bk] H (↑(pc l bk)):=cI (by
 have h:=aL8 l bk ao l.length 0 aa;rw[i6]at h;simp only[gO]at h;unfold pc;cases aI:xF l 0 bk<;>rw[aI]at h<;>simp only at h⊢<;>(
 refine bE BJ ?_;simp(disch:=omega)only[aw,simprocAttr,H8,fI,h,n5,Il];exact be))
def sM(l:lh):Nat→Int
 |0=>0
 |n+1=>if l.getD n J=ah then n else sM l n
def aiB(l:lh):∀n:Nat,0≤sM l n∧sM l n≤n
 |0=>by simp[sM]
 |n+1=>by have:=aiB l n;simp only[sM];split<;>omega
def aL9(l:lh)(ao:l.length≤1000)(n:Nat)(aI:n≤l.length):∀m k,k+m=n→
  ie EN 0 [(0,.i (.af 1 (eZ l) J)),(5,↑(sM l k)),(11,n),(12,k)] [] 0 [(0,.i (.af 1 (eZ l) J)),(5,↑(sM l n)),(11,n),(12,n),(13,J)] []:=by
 intro m;induction m with
 |zero=>intro k aA;obtain rfl:k=n:=aa;generalize sM l k=x at*;refine(cO EN 0).trans ?_;simp(disch:=omega)only[aw,simprocAttr,Sm,fI,n5,SL]
 |succ m a'=>
  intro k aA;have bg:k<l.length:=aa;have Vk:k<n:=aa;have b2:=Nj bg;have e:=a' (k+1) aa;simp only[sM]at e;have aP:l.getD k J=l[k]:=by simp[bg]
  rw[aP]at e;refine gB ?_ e;clear e a';generalize sM l k=x at*;cases an:l[k]<;>rw[an]at b2<;>simp only[if_true,if_false,gk]<;>(
  refine(cO EN 0).trans ?_;simp(disch:=omega)only[aw,simprocAttr,Sm,fI,b2,n5,SL])
def rz(l:lh)(bk:Int):Int:=sM l (min l.length (max bk 0).toNat)
def aL_(l:lh)(bk:Int)(ao:l.length≤1000)(H:ab):cF 174 [.i (.af 1 (eZ l) J),bk] H (↑(rz l bk)):=cI (by
 have h:=aL9 l ao (min l.length (max bk 0).toNat) aa (min l.length (max bk 0).toNat) 0 aa;have hm:min (l.length:Int) (max bk 0)=((min l.length (max bk 0).toNat:Nat):Int):=aa;rw[show sM l 0=0 from rfl]at h;simp only[gO]at h;unfold rz;generalize min l.length (max bk 0).toNat=n at*;generalize sM l n=x at*;refine bE EN ?_;simp(disch:=omega)only[aw,simprocAttr,Sm,fI,h,hm,n5,SL];exact be)
def aL'(rows:cb)(h:rows.length≤1000000000)(H:ab):dy E (b' E) 46 [.i (.af 1 rows J)] H=j (.ref H.length 0 0 rows.length,H++[.af 1 0 rows J]):=by rw[HO (show E.ext 46=j (mP 1)from rfl)];exact xe (E:={E with ext:=λ _=>o}) (c:=0) (x:=.af 1 0 rows J) rfl rfl rfl ⟨[.af 1 0 rows J],by simp[mP,h],rfl⟩
def aiC(l:lh)(bk:Nat)(aj:bk<l.length)(ao:l.length≤1000)(on:Bool)(H:ab):cF 108 [.i (.af 1 (eZ l) J),bk,on] H (.i (.af 1 (eZ (l.set bk on)) J)):=cI (by
 have cD:=λ h H=>aL' (eZ l) h H
 rw[n5]at cD;have b2:=Nj aj;have ki:=aiy l bk on;have iz:=n5 (l.set bk on);rw[kl]at iz;generalize eZ (l.set bk on)=y at*;refine bE af6 ?_;simp(disch:=omega)only[aw,simprocAttr,aIc,fI,cD,b2,ki,n5];exact be)
def kV(w k:Nat):lh:=(hB w).map λ i=>decide (i<k) &&decide (i%8=0)
def B1(w k:Nat):(kV w k).length=w:=by simp[kV]
def aMa(w:Nat):cH w [bx.v (.bool J)]=eZ (kV w 0):=by
 apply DF;intro i;by_cases h:i<w
 ·rw[O8,if_pos h];simp[eZ,kV,h]
 ·rw[O8,if_neg h];simp[eZ,kV,h]
def aMb{w k:Nat}(h:k<w):(eZ (kV w k)).set k [.v (.bool (decide (k%8=0)))]=eZ (kV w (k+1)):=by
 rw[aiy]
 congr 1
 apply DF;intro i;by_cases aB:i=k
 ·subst aB;rw[k9 (by rw[B1];exact h)];simp[kV,h]
 ·rw[dW (bi aB)];by_cases hw:i<w
  ·have:decide (i<k)=decide (i<k+1):=by by_cases p:i<k<;>simp[p]<;>omega
   simp[kV,hw,this]
  ·simp[kV,hw]
def aMc(w:Nat)(hw:w≤132):∀(m k:Nat),k+m=w→
  ie Em 0 [(3,.ref 0 0 0 w),(10,w),(11,k)] [.af 1 0 (eZ (kV w k)) J] 0 [(3,.ref 0 0 0 w),(10,w),(11,w),(12,J)] [.af 1 0 (eZ (kV w w)) J]:=by
 intro m;induction m with
 |zero=>
  intro k aA;obtain rfl:k=w:=aa;have ao:(eZ (kV k k)).length=k:=by rw[n5,B1]
  generalize eZ (kV k k)=x at*;refine(cO Em 0).trans ?_;simp(disch:=omega)only[aw,simprocAttr,R1,fI,Sy]
 |succ m a'=>
  intro k aA;have hU:k<w:=aa;have e:=a' (k+1) aa;have aF:=Nj (l:=kV w k) (k:=k) (by rw[B1];exact hU);have aU:=aMb hU;have ao:(eZ (kV w k)).length=w:=by rw[n5,B1]
  have hm:Int.tmod (k:Int) 8=((k%8:Nat):Int):=by rw[aiD aa];omega
  have aP:decide (((k%8:Nat):Int)=0)=decide (k%8=0):=by by_cases h:k%8=0<;>simp[h]<;>omega
  refine gB ?_ e;clear e a';generalize eZ (kV w (k+1))=y at*;generalize eZ (kV w k)=x at*;generalize k%8=q at*;refine(cO Em 0).trans ?_;simp(disch:=omega)only[aw,simprocAttr,R1,fI,aF,aU,ao,hm,aP,Sy]
def aMd(w:Nat)(hw:w≤132)(H:ab):cE 18 [w] H (.ref H.length 0 0 w) (H++[.af 1 0 (eZ (kV w w)) J]):=xe (c:=0) rfl rfl rfl (by
 have h:=aMc w hw w 0 aa;simp only[gO]at h;have ao:(eZ (kV w w)).length=w:=by rw[n5,B1]
 have a8:=aMa w;generalize eZ (kV w w)=y at*;generalize eZ (kV w 0)=x at*;have ar:min (w:Int) 1000=w:=aa;have aM:max (0:Int) w=w:=aa;rw[oz func18 rfl Em.1];simp(disch:=omega)only[aw,simprocAttr,R1,fI,h,a8,ao,ar,aM,Sy];exact⟨_,rfl,by rfl⟩)
structure li where
 (ins jd lj dq wr jo gq lk:Bool) (dJ s1 ef:Int)
 deriving DecidableEq
def Tu(m:li)(on:Bool):Nat→li
 |0=>{m with ins:=on}|1=>{m with jd:=on}|2=>{m with lj:=on}|3=>{m with dq:=on}
 |4=>{m with wr:=on}|5=>{m with jo:=on}|6=>{m with gq:=on}|7=>{m with lk:=on}|_=>m
def zN(I n:Int):cu:=
 if I=0 then(if n=4 then j 0 else if n=20 then j 1 else o)
 else if I=63 then(if n=1 then j 2 else if n=6 then j 3 else if n=7 then j 4 else if n=25 then j 5 else if n=47∨n=1047∨n=1049 then j 6 else if n=2048 then j 7 else o)
 else o
def hP(I:Int)(on:Bool)(m:li)(n:Int):li:=match zN I n with
 |some k=>Tu m on k
 |none=>m
def aMe{I n:Int}{k:Nat}(h:zN I n=j k):k<8:=by
 unfold zN at h
 repeat' split at h
 all_goals first|cases h|skip
 all_goals omega
def aMf(I n:Int):(I=0∧n=4)∨(I=0∧n=20)∨(I=0∧n≠4∧n≠20)∨(I≠0∧I≠63)∨(I=63∧n=1)∨(I=63∧n=6)∨(I=63∧n=7)∨(I=63∧n=25)∨(I=63∧n=47)∨(I=63∧n=1047)∨(I=63∧n=1049)∨(I=63∧n=2048)∨
 (I=63∧n≠1∧n≠6∧n≠7∧n≠25∧n≠47∧n≠1047∧n≠1049∧n≠2048):=aa
def Fh(c:Nat):cu→ay
 |some k=>.ptr c 0 0 k
 |none=>.i (.v (.pointer o))
def aMg(I n:Int)(m:li):∃L,b' E 209 [.i (.v (.int .i64 (n))),.ptr 0 0 0 0,.ptr 1 0 0 0] [.box [.i (.v (.int .u8 I))],.box [.i (.v (.bool (m).ins)),.i (.v (.bool (m).jd)),.i (.v (.bool (m).lj)),.i (.v (.bool (m).dq)),.i (.v (.bool (m).wr)),.i (.v (.bool (m).jo)),.i (.v (.bool (m).gq)),.i (.v (.bool (m).lk)),.i (.v (.int .u8 (m).dJ)),.i (.v (.int .u8 (m).s1)),.i (.v (.int .i64 (m).ef))]]=j (Fh 1 (zN I n),.box [.i (.v (.int .u8 I))]::.box [.i (.v (.bool (m).ins)),.i (.v (.bool (m).jd)),.i (.v (.bool (m).lj)),.i (.v (.bool (m).dq)),.i (.v (.bool (m).wr)),.i (.v (.bool (m).jo)),.i (.v (.bool (m).gq)),.i (.v (.bool (m).lk)),.i (.v (.int .u8 (m).dJ)),.i (.v (.int .u8 (m).s1)),.i (.v (.int .i64 (m).ef))]::L):=by
 rcases aMf I n with⟨rfl,rfl⟩|⟨rfl,rfl⟩|⟨rfl,p,U⟩|⟨p,U⟩|⟨rfl,rfl⟩|⟨rfl,rfl⟩|⟨rfl,rfl⟩|⟨rfl,rfl⟩|⟨rfl,rfl⟩|⟨rfl,rfl⟩|⟨rfl,rfl⟩|⟨rfl,rfl⟩|⟨rfl,p,U,az,bh,bF,dN,g',hC⟩
 all_goals simp only[zN, *,IF,if_true,if_false,or_true,true_or,or_false,false_or,ne_eq,not_false_eq_true]
 all_goals (
  rw[bz ag0];simp(disch:=omega)only[aw,simprocAttr,aI1];exact be)
structure aMh where
 (aJ:gG) (a:eA) (dq:Bool) (dJ s1 ef:Int)
structure M where
 (w h:Nat) (G O:List (List fO)) (aJ:gG) (b3:aMh) (a:eA) (md:li) (cW ck:Int) (c9:List Bool) (gD:Bool) (back:List (List fO)) (bn:dz) (eX:List Int) (dL:List UInt8)
def IG:Bool→cQ→bx
 |true,[]=>.af 0 [] ah
 |true,a::l=>.af 1 (cg (a::l)) J
 |false,l=>.af 1 (cg l) J
def aMi:∀(b:Bool) (l:cQ),iS (j 1) (IG b l)=.af 1 (cg l) J
 |true,[]=>rfl
 |true,_::_=>rfl
 |false,_=>rfl
def aW(m:M)(a ag b ai:Nat):aZ:=[.i (.v (.int .i64 m.w)),.i (.v (.int .i64 m.h)),.x (.d a ag 0 m.h),.i (.v (.int .i64 m.w)),.i (.v (.int .i64 m.h)),.x (.d b ai 0 m.h),.i (.v (.int .i64 m.aJ.r)),.i (.v (.int .i64 m.aJ.c)),.i (.v (.bool m.aJ.I)),.i (.v (.int .i64 m.b3.aJ.r)),.i (.v (.int .i64 m.b3.aJ.c)),.i (.v (.bool m.b3.aJ.I)),.i (.v (.int .i64 m.b3.a.cX)),.i (.v (.int .i64 m.b3.a.bd)),.i (.v (.int .i64 m.b3.a.co)),.i (.v (.bool m.b3.dq)),.i (.v (.int .u8 m.b3.dJ)),.i (.v (.int .u8 m.b3.s1)),.i (.v (.int .i64 m.b3.ef)),.i (.v (.int .i64 m.a.cX)),.i (.v (.int .i64 m.a.bd)),.i (.v (.int .i64 m.a.co)),.i (.v (.bool m.md.ins)),.i (.v (.bool m.md.jd)),.i (.v (.bool m.md.lj)),.i (.v (.bool m.md.dq)),.i (.v (.bool m.md.wr)),.i (.v (.bool m.md.jo)),.i (.v (.bool m.md.gq)),.i (.v (.bool m.md.lk)),.i (.v (.int .u8 m.md.dJ)),.i (.v (.int .u8 m.md.s1)),.i (.v (.int .i64 m.md.ef)),.i (.v (.int .i64 m.cW)),.i (.v (.int .i64 m.ck)),.i (.af 1 (eZ m.c9) J),.i (IG m.gD m.back),.i (.v (.int .i64 m.bn.bO)),.i (.str m.bn.cd),.i (.str m.bn.ca),.i (.str (ec m.eX)),.i (.str m.dL)]
def aMj(m:M)(a ag b ai:Nat):(aW m a ag b ai).length=42:=rfl
def aMk(m:M)(a ag b ai:Nat):(aW m a ag b ai).all one=ah:=rfl
def bV(m:M)(a ag b ai:Nat):bI (aW m a ag b ai)=[a,b]:=rfl
def aMl(m:M)(a ag b ai:Nat):(aW m a ag b ai)[0]?=j (.i (.v (.int .i64 m.w))):=rfl
def aMm(m:M)(a ag b ai:Nat):(aW m a ag b ai)[1]?=j (.i (.v (.int .i64 m.h))):=rfl
def aMn(m:M)(a ag b ai:Nat):(aW m a ag b ai)[2]?=j (.x (.d a ag 0 m.h)):=rfl
def aMo(m:M)(a ag b ai:Nat):(aW m a ag b ai)[5]?=j (.x (.d b ai 0 m.h)):=rfl
def aMp(m:M)(a ag b ai:Nat):(aW m a ag b ai)[6]?=j (.i (.v (.int .i64 m.aJ.r))):=rfl
def aMq(m:M)(a ag b ai:Nat):(aW m a ag b ai)[7]?=j (.i (.v (.int .i64 m.aJ.c))):=rfl
def aMr(m:M)(a ag b ai:Nat):(aW m a ag b ai)[8]?=j (.i (.v (.bool m.aJ.I))):=rfl
def aMs(m:M)(a ag b ai:Nat):(aW m a ag b ai)[9]?=j (.i (.v (.int .i64 m.b3.aJ.r))):=rfl
def aMt(m:M)(a ag b ai:Nat):(aW m a ag b ai)[10]?=j (.i (.v (.int .i64 m.b3.aJ.c))):=rfl
def aMu(m:M)(a ag b ai:Nat):(aW m a ag b ai)[11]?=j (.i (.v (.bool m.b3.aJ.I))):=rfl
def aMv(m:M)(a ag b ai:Nat):(aW m a ag b ai)[12]?=j (.i (.v (.int .i64 m.b3.a.cX))):=rfl
def aMw(m:M)(a ag b ai:Nat):(aW m a ag b ai)[13]?=j (.i (.v (.int .i64 m.b3.a.bd))):=rfl
def aMx(m:M)(a ag b ai:Nat):(aW m a ag b ai)[14]?=j (.i (.v (.int .i64 m.b3.a.co))):=rfl
def aMy(m:M)(a ag b ai:Nat):(aW m a ag b ai)[15]?=j (.i (.v (.bool m.b3.dq))):=rfl
def aMz(m:M)(a ag b ai:Nat):(aW m a ag b ai)[16]?=j (.i (.v (.int .u8 m.b3.dJ))):=rfl
def aMA(m:M)(a ag b ai:Nat):(aW m a ag b ai)[17]?=j (.i (.v (.int .u8 m.b3.s1))):=rfl
def aMB(m:M)(a ag b ai:Nat):(aW m a ag b ai)[18]?=j (.i (.v (.int .i64 m.b3.ef))):=rfl
def aMC(m:M)(a ag b ai:Nat):(aW m a ag b ai)[19]?=j (.i (.v (.int .i64 m.a.cX))):=rfl
def aMD(m:M)(a ag b ai:Nat):(aW m a ag b ai)[20]?=j (.i (.v (.int .i64 m.a.bd))):=rfl
def aME(m:M)(a ag b ai:Nat):(aW m a ag b ai)[21]?=j (.i (.v (.int .i64 m.a.co))):=rfl
def aMF(m:M)(a ag b ai:Nat):(aW m a ag b ai)[22]?=j (.i (.v (.bool m.md.ins))):=rfl
def aMG(m:M)(a ag b ai:Nat):(aW m a ag b ai)[23]?=j (.i (.v (.bool m.md.jd))):=rfl
def aMH(m:M)(a ag b ai:Nat):(aW m a ag b ai)[25]?=j (.i (.v (.bool m.md.dq))):=rfl
def aMI(m:M)(a ag b ai:Nat):(aW m a ag b ai)[26]?=j (.i (.v (.bool m.md.wr))):=rfl
def aMJ(m:M)(a ag b ai:Nat):(aW m a ag b ai)[28]?=j (.i (.v (.bool m.md.gq))):=rfl
def aMK(m:M)(a ag b ai:Nat):(aW m a ag b ai)[33]?=j (.i (.v (.int .i64 m.cW))):=rfl
def aML(m:M)(a ag b ai:Nat):(aW m a ag b ai)[34]?=j (.i (.v (.int .i64 m.ck))):=rfl
def aMM(m:M)(a ag b ai:Nat):(aW m a ag b ai)[35]?=j (.i (.af 1 (eZ m.c9) J)):=rfl
def aMN(m:M)(a ag b ai:Nat):(aW m a ag b ai)[36]?=j (.i (IG m.gD m.back)):=rfl
def aMO(m:M)(a ag b ai:Nat):(aW m a ag b ai)[37]?=j (.i (.v (.int .i64 m.bn.bO))):=rfl
def aMP(m:M)(a ag b ai:Nat):(aW m a ag b ai)[38]?=j (.i (.str m.bn.cd)):=rfl
def aMQ(m:M)(a ag b ai:Nat):(aW m a ag b ai)[39]?=j (.i (.str m.bn.ca)):=rfl
def aMR(m:M)(a ag b ai:Nat):(aW m a ag b ai)[40]?=j (.i (.str (ec m.eX))):=rfl
def aMS(m:M)(a ag b ai:Nat):(aW m a ag b ai)[41]?=j (.i (.str m.dL)):=rfl
def aMT(m:M)(a ag b ai:Nat):eP 3 (e_ 6 (aW m a ag b ai))=[.i (.v (.int .i64 m.aJ.r)),.i (.v (.int .i64 m.aJ.c)),.i (.v (.bool m.aJ.I))]:=rfl
def aMU(m:M)(a ag b ai:Nat):eP 3 (e_ 9 (aW m a ag b ai))=[.i (.v (.int .i64 m.b3.aJ.r)),.i (.v (.int .i64 m.b3.aJ.c)),.i (.v (.bool m.b3.aJ.I))]:=rfl
def aMV(m:M)(a ag b ai:Nat):eP 3 (e_ 12 (aW m a ag b ai))=[.i (.v (.int .i64 m.b3.a.cX)),.i (.v (.int .i64 m.b3.a.bd)),.i (.v (.int .i64 m.b3.a.co))]:=rfl
def aMW(m:M)(a ag b ai:Nat):eP 2 (e_ 16 (aW m a ag b ai))=[.i (.v (.int .u8 m.b3.dJ)),.i (.v (.int .u8 m.b3.s1))]:=rfl
def aMX(m:M)(a ag b ai:Nat):eP 3 (e_ 19 (aW m a ag b ai))=[.i (.v (.int .i64 m.a.cX)),.i (.v (.int .i64 m.a.bd)),.i (.v (.int .i64 m.a.co))]:=rfl
def aMY(m:M)(a ag b ai:Nat):eP 11 (e_ 22 (aW m a ag b ai))=[.i (.v (.bool m.md.ins)),.i (.v (.bool m.md.jd)),.i (.v (.bool m.md.lj)),.i (.v (.bool m.md.dq)),.i (.v (.bool m.md.wr)),.i (.v (.bool m.md.jo)),.i (.v (.bool m.md.gq)),.i (.v (.bool m.md.lk)),.i (.v (.int .u8 m.md.dJ)),.i (.v (.int .u8 m.md.s1)),.i (.v (.int .i64 m.md.ef))]:=rfl
def aMZ(m:M)(a ag b ai:Nat):eP 2 (e_ 30 (aW m a ag b ai))=[.i (.v (.int .u8 m.md.dJ)),.i (.v (.int .u8 m.md.s1))]:=rfl
def aM0(m:M)(a ag b ai:Nat):eP 3 (aW m a ag b ai)=[.i (.v (.int .i64 m.w)),.i (.v (.int .i64 m.h)),.x (.d a ag 0 m.h)]:=rfl
def aM1(m:M)(a ag b ai:Nat):eP 3 (e_ 3 (aW m a ag b ai))=[.i (.v (.int .i64 m.w)),.i (.v (.int .i64 m.h)),.x (.d b ai 0 m.h)]:=rfl
def aM2(m:M)(a ag b ai:Nat):eP 3 (e_ 37 (aW m a ag b ai))=[.i (.v (.int .i64 m.bn.bO)),.i (.str m.bn.cd),.i (.str m.bn.ca)]:=rfl
def aM3(m:M)(a ag b ai:Nat):eP 42 (aW m a ag b ai)=aW m a ag b ai:=rfl
def aM4(m:M)(a ag b ai:Nat)(c gc:Nat):.i (.v (.int .i64 m.w))::.i (.v (.int .i64 m.h))::.x (.d c gc 0 m.h)::e_ 3 (aW m a ag b ai)=aW m c gc b ai:=rfl
def aM5(m:M)(a ag b ai:Nat)(c gc:Nat):eP 3 (aW m a ag b ai)++[.i (.v (.int .i64 m.w)),.i (.v (.int .i64 m.h)),.x (.d c gc 0 m.h)]++e_ 6 (aW m a ag b ai)=aW m a ag c gc:=rfl
def aM6(m:M)(a ag b ai:Nat)(x:Int):eP 6 (aW m a ag b ai)++[.i (.v (.int .i64 x))]++e_ 7 (aW m a ag b ai)=aW {m with aJ:={m.aJ with r:=x}} a ag b ai:=rfl
def aM7(m:M)(a ag b ai:Nat)(x:Int):eP 7 (aW m a ag b ai)++[.i (.v (.int .i64 x))]++e_ 8 (aW m a ag b ai)=aW {m with aJ:={m.aJ with c:=x}} a ag b ai:=rfl
def aM8(m:M)(a ag b ai:Nat)(x:Bool):eP 8 (aW m a ag b ai)++[.i (.v (.bool x))]++e_ 9 (aW m a ag b ai)=aW {m with aJ:={m.aJ with I:=x}} a ag b ai:=rfl
def aM9(m:M)(a ag b ai:Nat)(x y:Int)(z:Bool):eP 6 (aW m a ag b ai)++[.i (.v (.int .i64 x)),.i (.v (.int .i64 y)),.i (.v (.bool z))]++e_ 9 (aW m a ag b ai)=aW {m with aJ:=⟨x,y,z⟩} a ag b ai:=rfl
def aM_(m:M)(a ag b ai:Nat)(r c:Int)(I:Bool)(x y z:Int)(al:Bool)(s t u:Int):eP 9 (aW m a ag b ai)++[.i (.v (.int .i64 r)),.i (.v (.int .i64 c)),.i (.v (.bool I)),.i (.v (.int .i64 x)),.i (.v (.int .i64 y)),.i (.v (.int .i64 z)),.i (.v (.bool al)),.i (.v (.int .u8 s)),.i (.v (.int .u8 t)),.i (.v (.int .i64 u))]++e_ 19 (aW m a ag b ai)=aW {m with b3:=⟨⟨r,c,I⟩,⟨x,y,z⟩,al,s,t,u⟩} a ag b ai:=rfl
def aM'(m:M)(a ag b ai:Nat)(x y z:Int):eP 19 (aW m a ag b ai)++[.i (.v (.int .i64 x)),.i (.v (.int .i64 y)),.i (.v (.int .i64 z))]++e_ 22 (aW m a ag b ai)=aW {m with a:=⟨x,y,z⟩} a ag b ai:=rfl
def aNa(m:M)(a ag b ai:Nat)(gM gU n3 n4 aiE n6 aiF aiG:Bool)(x y z:Int):eP 22 (aW m a ag b ai)++[.i (.v (.bool gM)),.i (.v (.bool gU)),.i (.v (.bool n3)),.i (.v (.bool n4)),.i (.v (.bool aiE)),.i (.v (.bool n6)),.i (.v (.bool aiF)),.i (.v (.bool aiG)),.i (.v (.int .u8 x)),.i (.v (.int .u8 y)),.i (.v (.int .i64 z))]++e_ 33 (aW m a ag b ai)=aW {m with md:=⟨gM,gU,n3,n4,aiE,n6,aiF,aiG,x,y,z⟩} a ag b ai:=rfl
def aNb(m:M)(a ag b ai:Nat)(x:Bool):eP 25 (aW m a ag b ai)++[.i (.v (.bool x))]++e_ 26 (aW m a ag b ai)=aW {m with md:={m.md with dq:=x}} a ag b ai:=rfl
def aNc(m:M)(a ag b ai:Nat)(x y:Int):eP 30 (aW m a ag b ai)++[.i (.v (.int .u8 x)),.i (.v (.int .u8 y))]++e_ 32 (aW m a ag b ai)=aW {m with md:={m.md with dJ:=x,s1:=y}} a ag b ai:=rfl
def aNd(m:M)(a ag b ai:Nat)(x:Int):eP 32 (aW m a ag b ai)++[.i (.v (.int .i64 x))]++e_ 33 (aW m a ag b ai)=aW {m with md:={m.md with ef:=x}} a ag b ai:=rfl
def aNe(m:M)(a ag b ai:Nat)(x:Int):eP 33 (aW m a ag b ai)++[.i (.v (.int .i64 x))]++e_ 34 (aW m a ag b ai)=aW {m with cW:=x} a ag b ai:=rfl
def aNf(m:M)(a ag b ai:Nat)(x:Int):eP 34 (aW m a ag b ai)++[.i (.v (.int .i64 x))]++e_ 35 (aW m a ag b ai)=aW {m with ck:=x} a ag b ai:=rfl
def aNg(m:M)(a ag b ai:Nat)(x:lh):eP 35 (aW m a ag b ai)++[.i (.af 1 (eZ x) J)]++e_ 36 (aW m a ag b ai)=aW {m with c9:=x} a ag b ai:=rfl
def aNh(m:M)(a ag b ai:Nat)(x:cQ):eP 36 (aW m a ag b ai)++[.i (.af 1 (cg x) J)]++e_ 37 (aW m a ag b ai)=aW {m with gD:=J,back:=x} a ag b ai:=rfl
def aNi(m:M)(a ag b ai:Nat):eP 36 (aW m a ag b ai)++[.i (.af 0 [] ah)]++e_ 37 (aW m a ag b ai)=aW {m with gD:=ah,back:=[]} a ag b ai:=rfl
def aNj(m:M)(a ag b ai:Nat)(x:Int)(y z:bm):eP 37 (aW m a ag b ai)++[.i (.v (.int .i64 x)),.i (.str y),.i (.str z)]++e_ 40 (aW m a ag b ai)=aW {m with bn:=⟨x,y,z⟩} a ag b ai:=rfl
def aNk(m:M)(a ag b ai:Nat)(x:bX):eP 40 (aW m a ag b ai)++[.i (.str (ec x))]++e_ 41 (aW m a ag b ai)=aW {m with eX:=x} a ag b ai:=rfl
def aNl(m:M)(a ag b ai:Nat)(x:bm):eP 41 (aW m a ag b ai)++[.i (.str x)]++e_ 42 (aW m a ag b ai)=aW {m with dL:=x} a ag b ai:=rfl
def b1:=gl @aMj @aMk @aMl @aMm @aMn @aMo @aMp @aMq @aMr @aMs @aMt @aMu @aMv @aMw @aMx (gl @aMy @aMz @aMA @aMB @aMC @aMD @aME @aMF @aMG @aMH @aMI @aMJ @aMK @aML @aMM (gl @aMN @aMO @aMP @aMQ @aMR @aMS @aMT @aMU @aMV @aMW @aMX @aMY @aMZ @aM0 @aM1 (gl @aM2 @aM3 @aM4 @aM5 @aM6 @aM7 @aM8 @aM9 @aM_ @aM' @aNa @aNb @aNc @aNd @aNe (bq @aNf @aNg @aNh (bq @aNi @aMi @aNj (aC @aNk @aNl))))))
def ka(aY:Nat→cu)(m:M)(a ag b ai b_ b0:Nat)(p:aY a=j b_)(U:aY b=j b0):cP aY (aW m a ag b ai)=aW m b_ ag b0 ai:=by simp[aW,cP,cB,de.c,de.to,p,U]
def b7{B:Nat}{H:ab}{m:M}{a ag b ai:Nat}(p:a<B)(U:b<B):ff B H (aW m a ag b ai)=aW m a ag b ai:=by simp[aW,ff,eL,de.c,p,U]
def kw(c:aZ):(Chunk.box c).refs=bI c:=rfl
def jp(aY:Nat→cu)(c:aZ):(Chunk.box c).c2 aY=.box (cP aY c):=rfl
def Tv{m:M}{a ag b ai:Nat}{T:ab}{X Y:Chunk}(p:T[a]?=j X)(U:T[b]?=j Y)(az:X.refs=[])(bh:Y.refs=[])(dc:a≠b):
  reach (.box (aW m (a+1) ag (b+1) ai)::T) 64 [0] []=[0,a+1,b+1]:=by
 have bK:=fH.2 (bQ.1 p).1;have bJ:=fH.2 (bQ.1 U).1;simp[reach,kw,bV,p,U,az,bh,bK,bJ,bi dc]
def B2{f:Nat}{bC:aZ}{r:ay}{m b6:M}{X Y:Chunk}{a ag b ai:Nat}{T:ab}(he:E.ext f=o)(aF:bI bC=[])(ak:bj r=[])
  (h:∃L,b' E f (.ptr 0 0 0 0::bC) [.box (aW m 1 ag 2 ai),X,Y]=j (r,.box (aW b6 1 ag 2 ai)::X::Y::L))
  (p:T[a]?=j X)(U:T[b]?=j Y)(az:X.refs=[])(bh:Y.refs=[])(dc:a≠b):
  cE f (.ptr 0 0 0 0::bC) (.box (aW m (a+1) ag (b+1) ai)::T) r (.box (aW b6 (a+1) ag (b+1) ai)::T):=by
 obtain⟨L,h⟩:=h;have bK:=(bQ.1 p).1;have bJ:=(bQ.1 U).1;have xx:∀aY,cP aY bC=bC:=λ aY=>(gx aY).2 bC aF
 have iW:∀aY,cB aY r=r:=λ aY=>(gx aY).1 r ak
 have o8:=λ aY=>lR az aY
 have uM:=λ aY=>lR bh aY
 have dA:=Tv (m:=m) (ag:=ag) (ai:=ai) p U az bh dc;have nT:bD [0,a+1,b+1] (a+1)=j 1:=by simp[bD]
 have sh:bD [0,a+1,b+1] (b+1)=j 2:=by simp[bD,bi dc]
 have k7:bD [0,a+1,b+1] 0=j 0:=rfl;have ar:=ka (bD [0,a+1,b+1]) m (a+1) ag (b+1) ai 1 2 nT sh;have aM:=ka (dG [0,a+1,b+1] (T.length+1) []) b6 1 ag 2 ai (a+1) (b+1) rfl rfl;have B3:reach (.box (aW b6 1 ag 2 ai)::X::Y::L) 64 [1,2] []=[1,2]:=by simp[reach,az,bh]
 have s1:=zI p;have s2:=zI U;unfold cE dy;simp only[fg,he,bI,bj,aF,dC,dA];simp[cP,cB,xx,k7,p,U,jp,o8,uM,ar,h,kw,bV,ak,az,bh,B3,aM,iW,ev,s1,s2]
def aiH{m:M}{ag ai aH aL:Nat}{x y:c0}:∃L,b' E 91 [.ptr 0 0 0 0] [.box (aW (m) 1 ag 2 ai),.aE 5 ag aH x,.aE 5 ai aL y]=j (.bl [],.box (aW ({m with aJ:={m.aJ with c:=0,I:=J}}) 1 ag 2 ai)::.aE 5 ag aH x::.aE 5 ai aL y::L):=by rw[bz afU];simp(disch:=omega)only[aw,simprocAttr,aH4,b1];exact be
def IH{m:M}{a b ag ai aH aL:Nat}{x y:c0}{T:ab}(p:T[a]?=j (.aE 5 ag aH x))(U:T[b]?=j (.aE 5 ai aL y))(dc:a≠b):cE 91 [.ptr 0 0 0 0] (.box (aW (m) (a+1) ag (b+1) ai)::T) (.bl []) (.box (aW ({m with aJ:={m.aJ with c:=0,I:=J}}) (a+1) ag (b+1) ai)::T):=B2 rfl rfl rfl aiH p U rfl rfl dc
def aiI{m:M}{ag ai aH aL:Nat}{x y:c0}:∃L,b' E 106 [.ptr 0 0 0 0] [.box (aW (m) 1 ag 2 ai),.aE 5 ag aH x,.aE 5 ai aL y]=j (.agg [.i (.v (.int .i64 ((m).w))),.i (.v (.int .i64 ((m).h))),.i (.v (.int .i64 ((m).cW))),.i (.v (.int .i64 ((m).ck))),.i (.v (.bool ((m).md.dq)))],.box (aW (m) 1 ag 2 ai)::.aE 5 ag aH x::.aE 5 ai aL y::L):=by rw[bz af5];simp(disch:=omega)only[aw,simprocAttr,aIb,b1];exact be
def II{m:M}{a b ag ai aH aL:Nat}{x y:c0}{T:ab}(p:T[a]?=j (.aE 5 ag aH x))(U:T[b]?=j (.aE 5 ai aL y))(dc:a≠b):cF 106 [.ptr 0 0 0 0] (.box (aW (m) (a+1) ag (b+1) ai)::T) (.agg [m.w,m.h,m.cW,m.ck,m.md.dq]):=B2 rfl rfl rfl aiI p U rfl rfl dc
def cx(m:M):hg:=⟨m.w,m.h,m.cW,m.ck,m.md.dq⟩
def aNm{m:M}{ag ai aH aL:Nat}{x y:c0}(n:Int):∃L,b' E 93 [.ptr 0 0 0 0,.i (.v (.int .i64 (n)))] [.box (aW (m) 1 ag 2 ai),.aE 5 ag aH x,.aE 5 ai aL y]=j (.bl [],.box (aW ({m with aJ:={m.aJ with c:=n,I:=J}}) 1 ag 2 ai)::.aE 5 ag aH x::.aE 5 ai aL y::L):=by rw[bz afW];simp(disch:=omega)only[aw,simprocAttr,aH5,b1];exact be
def Nk{m:M}{a b ag ai aH aL:Nat}{x y:c0}{T:ab}(p:T[a]?=j (.aE 5 ag aH x))(U:T[b]?=j (.aE 5 ai aL y))(dc:a≠b)(n:Int):cE 93 [.ptr 0 0 0 0,n] (.box (aW (m) (a+1) ag (b+1) ai)::T) (.bl []) (.box (aW ({m with aJ:={m.aJ with c:=n,I:=J}}) (a+1) ag (b+1) ai)::T):=B2 rfl rfl rfl (aNm n) p U rfl rfl dc
def aNn{m:M}{ag ai aH aL:Nat}{x y:c0}(h:jc (cx m))(n:Int):∃L,b' E 159 [.ptr 0 0 0 0,.i (.v (.int .i64 (n)))] [.box (aW (m) 1 ag 2 ai),.aE 5 ag aH x,.aE 5 ai aL y]=j (.bl [],.box (aW ({m with aJ:=jn m.aJ n (cx m)}) 1 ag 2 ai)::.aE 5 ag aH x::.aE 5 ai aL y::L):=by
 have ar:=II (m:=m) (a:=0) (b:=1) (ag:=ag) (ai:=ai) (T:=[.aE 5 ag aH x,.aE 5 ai aL y]) rfl rfl bU;simp only[cJ]at ar;have aM:=λ H=>Ts m.aJ n h H
 simp only[cx]at aM;rw[bz agu];simp(disch:=omega)only[aw,simprocAttr,aIw,b1,ar,aM,cx];exact be
def aiJ{m:M}{ag ai aH aL:Nat}{x y:c0}(h:jc (cx m))(n:Int):∃L,b' E 99 [.ptr 0 0 0 0,.i (.v (.int .i64 (n)))] [.box (aW (m) 1 ag 2 ai),.aE 5 ag aH x,.aE 5 ai aL y]=j (.bl [],.box (aW ({m with aJ:=n2 m.aJ n (cx m)}) 1 ag 2 ai)::.aE 5 ag aH x::.aE 5 ai aL y::L):=by
 have ar:=II (m:=m) (a:=0) (b:=1) (ag:=ag) (ai:=ai) (T:=[.aE 5 ag aH x,.aE 5 ai aL y]) rfl rfl bU;simp only[cJ]at ar;have aM:=λ H=>aLZ m.aJ n h H
 simp only[cx]at aM;rw[bz af1];simp(disch:=omega)only[aw,simprocAttr,aH9,b1,ar,aM,cx];exact be
def aNo{m:M}{a b ag ai aH aL:Nat}{x y:c0}{T:ab}(p:T[a]?=j (.aE 5 ag aH x))(U:T[b]?=j (.aE 5 ai aL y))(dc:a≠b)(h:jc (cx m))(n:Int):cE 99 [.ptr 0 0 0 0,n] (.box (aW (m) (a+1) ag (b+1) ai)::T) (.bl []) (.box (aW ({m with aJ:=n2 m.aJ n (cx m)}) (a+1) ag (b+1) ai)::T):=B2 rfl rfl rfl (aiJ h n) p U rfl rfl dc
def Tw{m:M}{ag ai aH aL:Nat}{x y:c0}(h:jc (cx m))(r c:Int):∃L,b' E 147 [.ptr 0 0 0 0,.i (.v (.int .i64 (r))),.i (.v (.int .i64 (c)))] [.box (aW (m) 1 ag 2 ai),.aE 5 ag aH x,.aE 5 ai aL y]=j (.bl [],.box (aW ({m with aJ:=⟨toR r (cx m),lS c (cx m),J⟩}) 1 ag 2 ai)::.aE 5 ag aH x::.aE 5 ai aL y::L):=by
 have ar:=II (m:=m) (a:=0) (b:=1) (ag:=ag) (ai:=ai) (T:=[.aE 5 ag aH x,.aE 5 ai aL y]) rfl rfl bU;simp only[cJ]at ar;have aM:=λ H=>aL4 m.aJ r c h H
 simp only[cx]at aM;rw[bz agp];simp(disch:=omega)only[aw,simprocAttr,aIs,b1,ar,aM,cx];exact be
def aiK{m:M}{a b ag ai aH aL:Nat}{x y:c0}{T:ab}(p:T[a]?=j (.aE 5 ag aH x))(U:T[b]?=j (.aE 5 ai aL y))(dc:a≠b)(h:jc (cx m))(r c:Int):cE 147 [.ptr 0 0 0 0,r,c] (.box (aW (m) (a+1) ag (b+1) ai)::T) (.bl []) (.box (aW ({m with aJ:=⟨toR r (cx m),lS c (cx m),J⟩}) (a+1) ag (b+1) ai)::T):=B2 rfl rfl rfl (Tw h r c) p U rfl rfl dc
def aiL{m:M}{ag ai aH aL:Nat}{x y:c0}:∃L,b' E 103 [.ptr 0 0 0 0] [.box (aW (m) 1 ag 2 ai),.aE 5 ag aH x,.aE 5 ai aL y]=j (.bl [],.box (aW ({m with b3:=⟨m.aJ,m.a,m.md.dq,m.md.dJ,m.md.s1,m.md.ef⟩}) 1 ag 2 ai)::.aE 5 ag aH x::.aE 5 ai aL y::L):=by rw[bz af3];simp(disch:=omega)only[aw,simprocAttr,aH',b1];exact be
def aiM{m:M}{a b ag ai aH aL:Nat}{x y:c0}{T:ab}(p:T[a]?=j (.aE 5 ag aH x))(U:T[b]?=j (.aE 5 ai aL y))(dc:a≠b):cE 103 [.ptr 0 0 0 0] (.box (aW (m) (a+1) ag (b+1) ai)::T) (.bl []) (.box (aW ({m with b3:=⟨m.aJ,m.a,m.md.dq,m.md.dJ,m.md.s1,m.md.ef⟩}) (a+1) ag (b+1) ai)::T):=B2 rfl rfl rfl (aiL) p U rfl rfl dc
def aiN{m:M}{ag ai aH aL:Nat}{x y:c0}:∃L,b' E 104 [.ptr 0 0 0 0] [.box (aW (m) 1 ag 2 ai),.aE 5 ag aH x,.aE 5 ai aL y]=j (.bl [],.box (aW ({m with aJ:=m.b3.aJ,a:=m.b3.a,md:={m.md with dq:=m.b3.dq,dJ:=m.b3.dJ,s1:=m.b3.s1,ef:=m.b3.ef}}) 1 ag 2 ai)::.aE 5 ag aH x::.aE 5 ai aL y::L):=by rw[bz af4];simp(disch:=omega)only[aw,simprocAttr,aIa,b1];exact be
def aiO{m:M}{a b ag ai aH aL:Nat}{x y:c0}{T:ab}(p:T[a]?=j (.aE 5 ag aH x))(U:T[b]?=j (.aE 5 ai aL y))(dc:a≠b):cE 104 [.ptr 0 0 0 0] (.box (aW (m) (a+1) ag (b+1) ai)::T) (.bl []) (.box (aW ({m with aJ:=m.b3.aJ,a:=m.b3.a,md:={m.md with dq:=m.b3.dq,dJ:=m.b3.dJ,s1:=m.b3.s1,ef:=m.b3.ef}}) (a+1) ag (b+1) ai)::T):=B2 rfl rfl rfl (aiN) p U rfl rfl dc
def h3(al:Nat)(m:M)(A ag B ai:Nat)(T:ab):Prop:=∃a b aH aL,A=a+al∧B=b+al∧T[a]?=j (.aE 5 ag aH (a7 m.G))∧T[b]?=j (.aE 5 ai aL (a7 m.O))∧a≠b∧2≤T.length∧(∀x,T[0]?=j x→x.refs=[])∧(∀x,T[1]?=j x→x.refs=[])
def aiP:∀(a1:cq) (xs:List Chunk) (H:ab) (qm:cq) (di:List Chunk),a1.length=xs.length→ev H (a1++qm) (xs++di)=ev (ev H a1 xs) qm di
 |[],[],H,qm,di,_=>rfl
 |c::a1,x::xs,H,qm,di,h=>by simp only[vF,ev];exact aiP a1 xs _ qm di (by simpa using h)
def aiQ:∀(a1:cq) (xs:List Chunk) (H:ab),a1.map (λ c=>H[c]?)=xs.map j→ev H a1 xs=H
 |[],[],H,_=>rfl
 |c::a1,x::xs,H,h=>by simp only[fC,Dr]at h;simp only[ev];rw[zI h.1];exact aiQ a1 xs H h.2
 |[],x::xs,H,h=>by simp at h
 |c::a1,[],H,h=>rfl
def rA(I:Nat)(m:M)(H:ab):Prop:=∃A ag B ai aH aL,H[I]?=j (.box (aW m A ag B ai))∧H[A]?=j (.aE 5 ag aH (a7 m.G))∧H[B]?=j (.aE 5 ai aL (a7 m.O))∧A≠B
def iN:Chunk→Prop
 |.aE ..=>False
 |_=>True
def tE(I:Nat)(H aq:ab):Prop:=H.length≤aq.length∧(∀k x,H[k]?=j x→k≠I→iN x→aq[k]?=j x)∧∀k x,H[k]?=j x→k≠I→x.refs=[]→∃nN,aq[k]?=j nN∧nN.refs=[]
def Tx{c:Nat}:∀(a1 S:cq),c∉a1→bD (a1++S) c=(bD S c).map (·+a1.length)
 |[],S,_=>aX
 |d::a1,S,h=>by
  simp only[mx,not_or]at h;simp only[vF,bD,if_neg h.1,Tx a1 S h.2,da,Option.map_map]
  congr 1
def aNp{a1:cq}{n:Nat}{K:cq}{i c:Nat}(h:a1[i]?=j c):dG a1 n K i=j c:=by unfold dG;rw[h]
def aNq{a1:cq}{n:Nat}{K:cq}{i:Nat}(h:a1.length≤i):dG a1 n K i=(bD K i).map (·+n):=by unfold dG;rw[sd h]
def zO{f:Nat}{bC vX:aZ}{r:ay}{m b6:M}{a1 Z:cq}{X:List Chunk}{I A ag B ai aH aL:Nat}{H:ab}
  (he:E.ext f=o)(ak:bj r=[])
  (ax:H[I]?=j (.box (aW m A ag B ai)))(b9:H[A]?=j (.aE 5 ag aH (a7 m.G)))(c_:H[B]?=j (.aE 5 ai aL (a7 m.O)))(jq:A≠B)
  (dA:reach H 64 (bI bC) []=a1++[I,A,B])(hA:cP (bD (a1++[I,A,B])) bC=vX)
  (o8:a1.map (λ c=>((H[c]?).map (Chunk.c2 (bD (a1++[I,A,B])))).getD (.iter [] 0))=X)
  (aVp:I∉a1)(aNr:A∉a1)(aNs:B∉a1)
  (aNt:∀back:Nat→cu,(∀i c,(a1++[I])[i]?=j c→back i=j c)→a1.map (λ c=>H[c]?)=(X.map (Chunk.c2 back)).map j)
  (xG:∀z∈Z,z<a1.length+3)
  (j7:∀fJ c6 dQ c7 dk,h3 (a1.length+1) b6 fJ c6 dQ c7 dk→reach (X++.box (aW b6 fJ c6 dQ c7)::dk) 64 (X.flatMap Chunk.refs++[fJ,dQ]) []=Z++[fJ,dQ])
  (h:∀ag aH ai aL,∃fJ c6 dQ c7 dk,b' E f vX (X++[.box (aW m (a1.length+1) ag (a1.length+2) ai),.aE 5 ag aH (a7 m.G),.aE 5 ai aL (a7 m.O)])=j (r,X++.box (aW b6 fJ c6 dQ c7)::dk)∧h3 (a1.length+1) b6 fJ c6 dQ c7 dk):
  ∃aq,cE f bC H r aq∧rA I b6 aq∧tE I H aq:=by
 obtain⟨fJ,c6,dQ,c7,dk,h,cr⟩:=h ag aH ai aL;have j7:=j7 fJ c6 dQ c7 dk cr;obtain⟨a,b,p1,oD,rfl,rfl,aF,an,dc,ao,a8,p⟩:=cr;have aiR:I≠A:=λ e=>by rw[e,b9]at ax;cases ax
 have aiS:I≠B:=λ e=>by rw[e,c_]at ax;cases ax
 have Nl:X.length=a1.length:=by rw[←o8,mE]
 match dk,ao,aF,an,a8,p,h,j7 with
 |t0::t1::hn,ao,aF,an,a8,p,h,j7=>
  have a8:=a8 t0 rfl;have p:=p t1 rfl;have iW:∀aY,cB aY r=r:=λ aY=>(gx aY).1 r ak
  have cy:bD (a1++[I,A,B]) A=j (a1.length+1):=by rw[Tx a1 _ aNr];simp[bD,bi aiR,rl]
  have cN:bD (a1++[I,A,B]) B=j (a1.length+2):=by rw[Tx a1 _ aNs];simp[bD,bi aiS,bi jq,rl]
  have hm:(a1++[I,A,B]).map (λ c=>((H[c]?).map (Chunk.c2 (bD (a1++[I,A,B])))).getD (.iter [] 0))=X++[.box (aW m (a1.length+1) ag (a1.length+2) ai),.aE 5 ag aH (a7 m.G),.aE 5 ai aL (a7 m.O)]:=by rw[pW,o8];simp only[fC,fN,ax,b9,c_,eH,jQ,jp,ka _ m A ag B ai _ _ cy cN];rfl
  have yM:(a1++[I,A,B]).length=a1.length+3:=aX;have aNu:¬(X++.box (aW b6 (a+(a1.length+1)) c6 (b+(a1.length+1)) c7)::t0::t1::hn).length<a1.length+3:=by simp[Nl]
  have qJ:(X++.box (aW b6 (a+(a1.length+1)) c6 (b+(a1.length+1)) c7)::t0::t1::hn).take (a1.length+3)=X++[.box (aW b6 (a+(a1.length+1)) c6 (b+(a1.length+1)) c7),t0,t1]:=by rw[List.take_append,xq aa,Nl,show a1.length+3-a1.length=3 by omega];rfl
  have aNv:(X++[.box (aW b6 (a+(a1.length+1)) c6 (b+(a1.length+1)) c7),t0,t1]).flatMap Chunk.refs=X.flatMap Chunk.refs++[a+(a1.length+1),b+(a1.length+1)]:=by simp[kw,bV,a8,p]
  unfold cE dy;simp only[fg,he,dA,hA,hm,h,yM,aNu,if_false,qJ,ak,hb,aNv,j7,iW];have hE:(Z++[a+(a1.length+1),b+(a1.length+1)]).filter (λ i=>decide (a1.length+3≤i))=[a+(a1.length+1),b+(a1.length+1)].filter (λ i=>decide (a1.length+3≤i)):=by rw[List.filter_append,List.filter_eq_nil_iff.2 (λ z bp=>by have:=xG z bp;simp;omega),hb]
  rw[hE];generalize B4:[a+(a1.length+1),b+(a1.length+1)].filter (λ i=>decide (a1.length+3≤i))=K;generalize fR:dG (a1++[I,A,B]) H.length K=back;have ql:∀i c,(a1++[I,A,B])[i]?=j c→back i=j c:=λ i c h=>by rw[←fR];exact aNp h
  have k':∀i,a1.length+3≤i→back i=(bD K i).map (·+H.length):=λ i h=>by rw[←fR];exact aNq (by rw[yM];exact h)
  have hid:=aiQ _ _ H (aNt back λ i c aB=>ql i c (by rw[show a1++[I,A,B]=(a1++[I])++[A,B]by simp,eO (bQ.1 aB).1];exact aB))
  rw[pW,aiP _ _ _ _ _ (by simp[Nl]),hid];have g1:(a1++[I,A,B])[a1.length+1]?=j A:=by rw[hK aa];simp
  have g2:(a1++[I,A,B])[a1.length+2]?=j B:=by rw[hK aa];simp
  have fm:=ql _ _ g1;have dZ:=ql _ _ g2;have aiT:=(bQ.1 ax).1;have aiU:=(bQ.1 b9).1;have aiV:=(bQ.1 c_).1;simp only[fC,fN,jp,ev,lR a8,lR p];have fin:∀(zP zQ:Nat) (W:List Chunk),back (a+(a1.length+1))=j zP→back (b+(a1.length+1))=j zQ→
    (((H.set I (.box (aW b6 zP c6 zQ c7))).set A t0).set B t1++W)[zP]?=j (.aE 5 c6 p1 (a7 b6.G))→(((H.set I (.box (aW b6 zP c6 zQ c7))).set A t0).set B t1++W)[zQ]?=j (.aE 5 c7 oD (a7 b6.O))→zP≠zQ→
    W=K.map (λ i=>(((X++.box (aW b6 (a+(a1.length+1)) c6 (b+(a1.length+1)) c7)::t0::t1::hn)[i]?).map (Chunk.c2 back)).getD (.iter [] 0))→
    ∃aq,j (r,((H.set I (.box (cP back (aW b6 (a+(a1.length+1)) c6 (b+(a1.length+1)) c7)))).set A t0).set B t1++K.map (λ i=>(((X++.box (aW b6 (a+(a1.length+1)) c6 (b+(a1.length+1)) c7)::t0::t1::hn)[i]?).map (Chunk.c2 back)).getD (.iter [] 0)))=j (r,aq)∧rA I b6 aq∧tE I H aq:=by
   intro zP zQ W gf ft ou IJ aNw aNx;rw[ka back b6 _ c6 _ c7 _ _ gf ft,←aNx];refine⟨_,rfl,⟨zP,c6,zQ,c7,p1,oD,?_,ou,IJ,aNw⟩,aX,λ k x aA Ty ap=>?_,λ k x aA Ty ap=>?_⟩
   ·rw[eO (by simp;exact aiT),dW (bi aiS),dW (bi aiR),k9 aiT]
   ·have kW:=(bQ.1 aA).1;have gM:A≠k:=λ e=>by subst e;rw[b9]at aA;cases aA;exact ap
    have gU:B≠k:=λ e=>by subst e;rw[c_]at aA;cases aA;exact ap
    rw[eO (by simp;exact kW),dW gU,dW gM,dW (bi Ty),aA]
   ·have kW:=(bQ.1 aA).1;rw[eO (by simp;exact kW)];by_cases gU:B=k
    ·subst gU;exact⟨t1,by rw[k9 (by simp;exact kW)],p⟩
    ·rw[dW gU];by_cases gM:A=k
     ·subst gM;exact⟨t0,by rw[k9 (by simp;exact kW)],a8⟩
     ·exact⟨x,by rw[dW gM,dW (bi Ty),aA],ap⟩
  have Fi:∀i,(X++.box (aW b6 (a+(a1.length+1)) c6 (b+(a1.length+1)) c7)::t0::t1::hn)[i+(a1.length+1)]?=(t0::t1::hn)[i]?:=λ i=>by rw[hK aa,Nl,show i+(a1.length+1)-a1.length=i+1 by omega,kp]
  have Nn:∀(y:Chunk) W,(((H.set I y).set A t0).set B t1++W)[A]?=j t0:=λ y W=>by rw[eO (by simp;exact aiU),dW (bi jq),k9 (by simp;exact aiU)]
  have No:∀(y:Chunk) W,(((H.set I y).set A t0).set B t1++W)[B]?=j t1:=λ y W=>by rw[eO (by simp;exact aiV),k9 (by simp;exact aiV)]
  have Fj:∀(y:Chunk) W i,(((H.set I y).set A t0).set B t1++W)[H.length+i]?=W[i]?:=λ y W i=>by rw[hK aX];simp
  have gN:back (0+(a1.length+1))=j A:=by rw[cJ];exact fm
  have cm:back (1+(a1.length+1))=j B:=by rw[rl 1];exact dZ
  have hW:¬a1.length+3≤0+(a1.length+1):=aa;have gM:¬a1.length+3≤1+(a1.length+1):=aa;have uN:∀k,a1.length+3≤k+2+(a1.length+1):=λ k=>aa
  rcases a with _|_|a<;>rcases b with _|_|b
  ·exact absurd rfl dc
  ·cases aF;cases an;have qs:K=[]:=by rw[←B4];simp only[sN,hW,gM,decide_false]
   subst qs;exact fin A B [] gN cm (Nn _ _) (No _ _) jq rfl
  ·cases aF;have qs:K=[b+2+(a1.length+1)]:=by rw[←B4];simp only[sN,hW,uN,decide_false,decide_true]
   subst qs;refine fin A (H.length+0) [.aE 5 c7 oD (a7 b6.O)] gN (by rw[k' _ (uN b)];simp[bD]) (Nn _ _) (by rw[Fj];rfl) aa ?_;simp only[fC,fN];rw[Fi];exact(congrArg (λ z=>[(IK (Chunk.c2 back) z).getD (.iter [] 0)]) an).symm
  ·cases aF;cases an;have qs:K=[]:=by rw[←B4];simp only[sN,hW,gM,decide_false]
   subst qs;exact fin B A [] cm gN (No _ _) (Nn _ _) (bi jq) rfl
  ·exact absurd rfl dc
  ·cases aF;have qs:K=[b+2+(a1.length+1)]:=by rw[←B4];simp only[sN,cJ,gM,uN,decide_false,decide_true]
   subst qs;refine fin B (H.length+0) [.aE 5 c7 oD (a7 b6.O)] cm (by rw[k' _ (uN b)];simp[bD]) (No _ _) (by rw[Fj];rfl) aa ?_;simp only[fC,fN];rw[Fi];exact(congrArg (λ z=>[(IK (Chunk.c2 back) z).getD (.iter [] 0)]) an).symm
  ·cases an;have qs:K=[a+2+(a1.length+1)]:=by rw[←B4];simp only[sN,hW,uN,decide_false,decide_true]
   subst qs;refine fin (H.length+0) A [.aE 5 c6 p1 (a7 b6.G)] (by rw[k' _ (uN a)];simp[bD]) gN (by rw[Fj];rfl) (Nn _ _) aa ?_;simp only[fC,fN];rw[Fi];exact(congrArg (λ z=>[(IK (Chunk.c2 back) z).getD (.iter [] 0)]) aF).symm
  ·cases an;have qs:K=[a+2+(a1.length+1)]:=by rw[←B4];simp only[sN,cJ,gM,uN,decide_false,decide_true]
   subst qs;refine fin (H.length+0) B [.aE 5 c6 p1 (a7 b6.G)] (by rw[k' _ (uN a)];simp[bD]) cm (by rw[Fj];rfl) (No _ _) aa ?_;simp only[fC,fN];rw[Fi];exact(congrArg (λ z=>[(IK (Chunk.c2 back) z).getD (.iter [] 0)]) aF).symm
  ·have qs:K=[a+2+(a1.length+1),b+2+(a1.length+1)]:=by rw[←B4];simp only[sN,uN,decide_true]
   subst qs;have gE:¬b=a:=aa;refine fin (H.length+0) (H.length+1) [.aE 5 c6 p1 (a7 b6.G),.aE 5 c7 oD (a7 b6.O)] (by rw[k' _ (uN a)];simp[bD]) (by rw[k' _ (uN b)];simp[bD,gE,rl]) (by rw[Fj];rfl) (by rw[Fj];rfl) aa ?_;simp only[fC,fN];rw[Fi,Fi];have bK:=congrArg (λ z=>(IK (Chunk.c2 back) z).getD (.iter [] 0)) aF;have bJ:=congrArg (λ z=>(IK (Chunk.c2 back) z).getD (.iter [] 0)) an;exact(congr (congrArg (λ u v=>[u,v]) bK) bJ).symm
def aNy(T dk:ab):Prop:=T.length≤dk.length∧(∀(k:Nat) (x:Chunk),T[k]?=j x→iN x→dk[k]?=j x)∧∀(k:Nat) (x:Chunk),T[k]?=j x→x.refs=[]→∃nN:Chunk,dk[k]?=j nN∧nN.refs=[]
def eD(m:M)(L:ab):Prop:=∃A ag B ai T,L=.box (aW m A ag B ai)::T∧h3 1 m A ag B ai T
def h4(f:Nat)(bC:aZ)(m:M)(r:ay)(b6:M):Prop:=∀ag aH ai aL,∃L,b' E f (.ptr 0 0 0 0::bC) [.box (aW m 1 ag 2 ai),.aE 5 ag aH (a7 m.G),.aE 5 ai aL (a7 m.O)]=j (r,L)∧eD b6 L
def aiW{m:M}{A ag B ai:Nat}{T:ab}(h:h3 1 m A ag B ai T):reach (.box (aW m A ag B ai)::T) 64 [A,B] []=[A,B]:=by obtain⟨a,b,aH,aL,rfl,rfl,aF,an,dc,_⟩:=h;have bK:=fH.2 (bQ.1 aF).1;have bJ:=fH.2 (bQ.1 an).1;simp[reach,Chunk.refs,aF,an,bK,bJ,bi dc]
def Tz{f:Nat}{bC:aZ}{r:ay}{m b6:M}(he:E.ext f=o)(hA:bI bC=[])(ak:bj r=[])(h:h4 f bC m r b6){A ag B ai:Nat}{T:ab}(cr:h3 1 m A ag B ai T):
  ∃b_ c6 b0 c7 dk,cE f (.ptr 0 0 0 0::bC) (.box (aW m A ag B ai)::T) r (.box (aW b6 (b_+1) c6 (b0+1) c7)::dk)∧h3 1 b6 (b_+1) c6 (b0+1) c7 dk∧aNy T dk:=by
 obtain⟨a,b,aH,aL,rfl,rfl,aF,an,dc,ao,a8,p⟩:=cr;have dA:=Tv (m:=m) (ag:=ag) (ai:=ai) aF an rfl rfl dc;obtain⟨aq,e,⟨A,c6,B,c7,p1,oD,cV,i2,i3,i4⟩,bK,bJ,cL⟩:=zO (f:=f) (bC:=.ptr 0 0 0 0::bC) (vX:=.ptr 0 0 0 0::bC) (r:=r) (m:=m) (b6:=b6) (a1:=[]) (Z:=[]) (X:=[]) (I:=0) (A:=a+1) (B:=b+1) (H:=.box (aW m (a+1) ag (b+1) ai)::T) he ak rfl aF an aa
  (by simp only[bI,bj,hA,dC];exact dA) (by simp only[cP,cB,(gx _).2 bC hA];rfl) rfl aX aX aX (λ _ _=>rfl) aX (λ _ _ _ _ _ h=>aiW h) (λ ag aH ai aL=>by
   obtain⟨L,e,fJ,c6,dQ,c7,dk,rfl,i⟩:=h ag aH ai aL;exact⟨fJ,c6,dQ,c7,dk,e,i⟩)
 match aq,cV,i2,i3,bK,bJ,cL,e with
 |y::dk,cV,i2,i3,bK,bJ,cL,e=>
  cases cV
  match A,B,i2,i3,i4,e with
  |0,_,i2,_,_,_=>cases i2
  |_+1,0,_,i3,_,_=>cases i3
  |b_+1,b0+1,i2,i3,i4,e=>
   refine⟨b_,c6,b0,c7,dk,e,⟨b_,b0,p1,oD,rfl,rfl,i2,i3,aa,?_,?_,?_⟩,?_,?_,?_⟩
   ·exact s6 ao (by simpa using bK)
   ·intro x ap;obtain⟨fc,nr⟩:∃fc,T[0]?=j fc:=⟨T[0],eC aa⟩;obtain⟨nN,gf,ft⟩:=cL 1 fc nr aa (a8 fc nr);rw[kp,ap]at gf;cases gf;exact ft
   ·intro x ap;obtain⟨fc,nr⟩:∃fc,T[1]?=j fc:=⟨T[1],eC aa⟩;obtain⟨nN,gf,ft⟩:=cL 2 fc nr aa (p fc nr);rw[kp,ap]at gf;cases gf;exact ft
   ·simpa using bK
   ·exact λ k x aA aI=>bJ (k+1) x aA aa aI
   ·exact λ k x aA aI=>cL (k+1) x aA aa aI
mutual
theorem aiX {B:Nat} {H:ab}:∀a:ay,bj a=[]→bj (eL B H a)=[]
 |.dead,_=>by simp[eL,bj]
 |.i x,_=>by simp[eL,bj]
 |.agg l,h=>by simp only[eL,bj]at h⊢;exact B5 l h
 |.ref _ _ _ _,h=>by simp[bj]at h
 |.ptr _ _ _ _,h=>by simp[bj]at h
 |.dV _,h=>by simp[bj]at h
 |.x _,h=>by simp[bj]at h
 |.aS f a b,h=>by
  simp only[eL,bj,Q0]at h⊢
  exact⟨B5 a h.1,B5 b h.2⟩
 |.bl l,h=>by simp only[eL,bj]at h⊢;exact B5 l h
theorem B5 {B:Nat} {H:ab}:∀l:List ay,bI l=[]→bI (ff B H l)=[]
 |[],_=>by simp[ff,bI]
 |a::l,h=>by
  simp only[ff,bI,Q0]at h⊢
  exact⟨aiX a h.1,B5 l h.2⟩
end
def aiY{B:Nat}{H:ab}:∀l:fa,x5 l=[]→x5 (wo B H l)=[]
 |[],_=>by simp[wo,x5]
 |a::l,h=>by simp only[wo,x5,Q0]at h⊢;exact⟨aiX a.2 h.1,aiY l h.2⟩
def Np{B:Nat}{H:ab}{c:Nat}{x:Chunk}(h:x.refs=[]):(el B H c x).refs=[]:=by
 cases x with
 |box l=>exact B5 l h
 |map l=>exact aiY l h
 |dm t l=>exact B5 l h
 |af=>simp only[el];split<;>rfl
 |aE=>simp only[el];split<;>rfl
 |_=>rfl
def aNz{n:Nat}{m:M}{A ag B ai:Nat}{T:ab}(cr:h3 1 m A ag B ai T):∃c6 c7 dk,(Chunk.box (ff n (.box (aW m A ag B ai)::T) (aW m A ag B ai))::e0 n (.box (aW m A ag B ai)::T) 1 T)=.box (aW m A c6 B c7)::dk∧h3 1 m A c6 B c7 dk:=by
 obtain⟨a,b,aH,aL,rfl,rfl,aF,an,dc,ao,a8,p⟩:=cr;have e:ff n (.box (aW m (a+1) ag (b+1) ai)::T) (aW m (a+1) ag (b+1) ai)=aW m (a+1) (if a+1<n then ag else 0) (b+1) (if b+1<n then ai else 0):=by by_cases cm:a+1<n<;>by_cases cp:b+1<n<;>simp[aW,ff,eL,de.c,aF,an,rS,cm,cp]
 have g:∀k,(e0 n (.box (aW m (a+1) ag (b+1) ai)::T) 1 T)[k]?=(T[k]?).map (el n (.box (aW m (a+1) ag (b+1) ai)::T) (1+k)):=w7 _ _ T 1;refine⟨_,_,_,by rw[e],a,b,if a+1<n then aH else 0,if b+1<n then aL else 0,rfl,rfl,?_,?_,dc,by rw[qx];exact ao,λ x ap=>?_,λ x ap=>?_⟩
 ·rw[g,aF,eH,rl 1 a];by_cases cm:a+1<n<;>simp only[el,cm,if_true,if_false]
 ·rw[g,an,eH,rl 1 b];by_cases cm:b+1<n<;>simp only[el,cm,if_true,if_false]
 ·rw[g]at ap;obtain⟨fc,q,rfl⟩:=dp.1 ap;exact Np (a8 fc q)
 ·rw[g]at ap;obtain⟨fc,q,rfl⟩:=dp.1 ap;exact Np (p fc q)
def zR{n:Nat}{m:M}{A ag B ai:Nat}{T:ab}(cr:h3 1 m A ag B ai T):eD m (Chunk.box (ff n (.box (aW m A ag B ai)::T) (aW m A ag B ai))::e0 n (.box (aW m A ag B ai)::T) 1 T):=by obtain⟨c6,c7,dk,e,i⟩:=aNz (n:=n) cr;exact⟨_,_,_,_,_,e,i⟩
def oE{m:M}{a ag b ai aH aL:Nat}{x y:Chunk}{T:ab}(p:(x::y::T)[a]?=j (.aE 5 ag aH (a7 m.G)))(U:(x::y::T)[b]?=j (.aE 5 ai aL (a7 m.O)))(dc:a≠b)(ap:x.refs=[])(bb:y.refs=[]):h3 1 m (a+1) ag (b+1) ai (x::y::T):=
 ⟨a,b,aH,aL,rfl,rfl,p,U,dc,aX,λ z h=>by cases h;exact ap,λ z h=>by cases h;exact bb⟩
def rB(w:Nat)(bd:Int)(I q:Nat)(k:Int)(g:cQ):cQ:=if 0≤k then sG w bd I q k.toNat g else sH w bd I q (-k).toNat g
def jX(I:Nat)(k:Int)(g:cQ):cQ:=if 0≤k then sI I k.toNat g else[]
def aNA(w h:Nat)(hw:1≤w∧w≤132)(aV:1≤h∧h≤60)(g:cQ)(aR:g.length=h)(zJ:lg w g)(a:eA)(I q:Nat)(k:Int)(mf:I<q)(bu:q≤h)(Nh:-((q:Int)-I)≤k)(Dl:k≤(q:Int)-I)(H:ab):
  ∃n,(jX I k g).length=n∧cE 144 [.agg [w,h,.i (.af 1 (cg g) J)],I,q,k,.agg [a.cX,a.bd,a.co]] H (.bl [.agg [w,h,.x (.d H.length 0 0 h)],.x (.d (H.length+1) 0 0 n),↑(0:Int)]) (H++[.aE 5 0 0 (a7 (rB w a.bd I q k g)),.aE 5 0 0 (a7 (jX I k g))]):=by
 by_cases a8:0≤k
 ·obtain⟨ac,rfl⟩:=jC a8;refine⟨ac,?_,?_⟩
  ·rw[jX,if_pos a8,ny,sI,hV,j6];omega
  ·rw[rB,jX,if_pos a8,if_pos a8,ny];exact aLs w h hw aV g aR zJ a I q ac mf bu aa H
 ·obtain⟨ac,bc⟩:=jC (show 0≤-k by omega);obtain rfl:k=-(ac:Int):=aa;refine⟨0,?_,?_⟩
  ·rw[jX,if_neg a8];rfl
  ·rw[rB,jX,if_neg a8,if_neg a8,bc,ny];exact aLv w h hw aV g aR zJ a I q ac mf bu aa aa H
structure bt (m:M):Prop where
 w:1≤m.w∧m.w≤132
 h:1≤m.h∧m.h≤60
 G:m.G.length=m.h∧lg m.w m.G
 O:m.O.length=m.h∧lg m.w m.O
 aJ:(0≤m.aJ.r∧m.aJ.r<m.h)∧(0≤m.aJ.c∧m.aJ.c<m.w)∧(m.aJ.I=ah→m.aJ.c=m.w-1)
 b3:(0≤m.b3.aJ.r∧m.b3.aJ.r<m.h)∧(0≤m.b3.aJ.c∧m.b3.aJ.c<m.w)∧(m.b3.aJ.I=ah→m.b3.aJ.c=m.w-1)
 a:iv m.a=ah
 aH:iv m.b3.a=ah
 dm:0≤m.cW∧m.cW<m.ck∧m.ck≤m.h
 c9:m.c9.length=m.w
 back:m.back.length≤500∧∀r∈m.back,1≤r.length∧r.length≤132∧ii r=ah
 bO:(m.md.dJ=66∨m.md.dJ=48)∧(m.md.s1=66∨m.md.s1=48)∧(m.md.ef=0∨m.md.ef=1)
 iF:(m.b3.dJ=66∨m.b3.dJ=48)∧(m.b3.s1=66∨m.b3.s1=48)∧(m.b3.ef=0∨m.b3.ef=1)
 eX:m.eX.length≤100000
 dL:m.dL.length≤1000
def bt.cx{m:M}(h:bt m):jc (cx m):=⟨by have:=h.w;exact⟨by show(1:Int)≤(m.w:Int);omega,by show(m.w:Int)≤132;omega⟩,by have:=h.h;exact⟨by show(1:Int)≤(m.h:Int);omega,by show(m.h:Int)≤60;omega⟩,h.dm⟩
def lT(m:M)(fY iw:Int)(k0:Bool):M:=
 {m with G:=rB m.w m.a.bd fY.toNat m.ck.toNat (e' iw (-(m.ck-fY)) (m.ck-fY)) m.G,gD:=m.gD &&!(k0 &&(decide (m.cW=0) &&!m.md.gq)),back:=if k0 &&(decide (m.cW=0) &&!m.md.gq)then uK m.back (jX fY.toNat (e' iw (-(m.ck-fY)) (m.ck-fY)) m.G)else m.back}
def IL{m:M}(hm:bt m)(fY iw:Int)(k0:Bool)(bA:0≤fY∧fY<m.ck):h4 107 [.i (.v (.int .i64 (fY))),.i (.v (.int .i64 (iw))),.i (.v (.bool (k0)))] m (.bl []) (lT m fY iw k0):=by
 intro ag aH ai aL;obtain⟨t,rfl⟩:=jC bA.1;obtain⟨q,bu⟩:=jC (show 0≤m.ck by omega);obtain⟨aVq,aVr,aVs⟩:=hm.dm;obtain⟨gf,ft⟩:=hm.w;obtain⟨p,U⟩:=hm.h;have ll:=sK (n:=iw) (show-(m.ck-t)≤m.ck-t by omega);obtain⟨n,aI,ar⟩:∃n,(jX t (e' iw (-(m.ck-t)) (m.ck-t)) m.G).length=n∧∀H,dy E (b' E) 144 [.agg [.i (.v (.int .i64 (m.w))),.i (.v (.int .i64 (m.h))),.i (.af 1 (cg m.G) J)],.i (.v (.int .i64 (t))),.i (.v (.int .i64 (m.ck))),.i (.v (.int .i64 (e' iw (-(m.ck-t)) (m.ck-t)))),.agg [.i (.v (.int .i64 (m.a.cX))),.i (.v (.int .i64 (m.a.bd))),.i (.v (.int .i64 (m.a.co)))]] H=j (.bl [.agg [.i (.v (.int .i64 (m.w))),.i (.v (.int .i64 (m.h))),.x (.d H.length 0 0 m.h)],.x (.d (H.length+1) 0 0 n),.i (.v (.int .i64 (0)))],H++[.aE 5 0 0 (a7 (rB m.w m.a.bd t q (e' iw (-(m.ck-t)) (m.ck-t)) m.G)),.aE 5 0 0 (a7 (jX t (e' iw (-(m.ck-t)) (m.ck-t)) m.G))]):=by refine⟨_,rfl,λ H=>?_⟩;obtain⟨n,aI,e⟩:=aNA m.w m.h hm.w hm.h m.G hm.G.1 hm.G.2 m.a t q (e' iw (-(m.ck-t)) (m.ck-t)) aa aa aa aa H;rw[aI,bu];rw[bu]at e;exact e
 have j5:=Fc m.G;have km:=Fb m.G;have aNB:(cg m.G).length=m.h:=by rw[gn,hm.G.1]
 have aNC:(a7 m.G).length=m.h:=by rw[hf,hm.G.1]
 have aND:(jX t (e' iw (-(m.ck-t)) (m.ck-t)) m.G).length≤60:=by
  have p:=hm.G.1;have U:=hm.h.2
  unfold jX sI;split
  ·rw[hV,j6];omega
  ·simp
 have hOr:∀r∈jX t (e' iw (-(m.ck-t)) (m.ck-t)) m.G,r.length≤132:=by
  intro r ak;unfold jX sI at ak;split at ak
  ·have:=(hm.G.2 r (vW (Fk ak))).1;have:=hm.w.2;omega
  ·simp at ak
 have aM:=λ H=>aLJ m.back (jX t (e' iw (-(m.ck-t)) (m.ck-t)) m.G) hm.back.1 aND (λ r ak=>by
  rcases gA.1 ak with h|h
  ·exact(hm.back.2 r h).2.1
  ·exact hOr r h) H
 have wB:=Fc (jX t (e' iw (-(m.ck-t)) (m.ck-t)) m.G);have yi:=Fb (jX t (e' iw (-(m.ck-t)) (m.ck-t)) m.G);have rN:(cg (jX t (e' iw (-(m.ck-t)) (m.ck-t)) m.G)).length=n:=by rw[gn,aI]
 have fS:(a7 (jX t (e' iw (-(m.ck-t)) (m.ck-t)) m.G)).length=n:=by rw[hf,aI]
 have fl:max (0-(m.ck-t)) (min iw (m.ck-t))=e' iw (-(m.ck-t)) (m.ck-t):=by unfold e';rw[Int.zero_sub]
 have aNE:m.ck.toNat=q:=by rw[bu];rfl
 unfold lT;simp only[ny,aNE];generalize e' iw (-(m.ck-t)) (m.ck-t)=L at*;generalize rB m.w m.a.bd t q L m.G=IM at*;generalize uK m.back (jX t L m.G)=P at*;generalize (jX t L m.G).map (λ r=>bx.af 5 (cl r) J)=aVt at*;generalize a7 (jX t L m.G)=aVu at*;generalize cg (jX t L m.G)=aVv at*;generalize m.G.map (λ r=>bx.af 5 (cl r) J)=aNF at*;generalize mA:a7 m.G=aVw at*;have fin:∀{b6:M} {ag ai aH aL:Nat} {z y:Chunk} {T:ab},b6.O=m.O→b6.G=IM→z.refs=[]→eD b6 (.box (aW b6 4 ag 2 ai)::z::.aE 5 ai aL (a7 m.O)::y::.aE 5 ag aH (a7 IM)::T):=λ{b6 ag ai aH aL z y T} ar aM bp=>⟨_,_,_,_,_,rfl,oE (a:=3) (b:=1) (by rw[aM];rfl) (by rw[ar];rfl) bU bp rfl⟩
 have ak:((ms 4 2).all λ c=>!(c==3||c==1000003))=ah:=rfl;cases k0 with
 |false=>rw[bz H_];simp(disch:=omega)only[aw,simprocAttr,Mg,ej,b1,b7,ak,ar,aM,fl,j5,km,wB,yi];refine⟨_,rfl,?_⟩;exact fin rfl rfl rfl
 |true=>
  by_cases a8:m.cW=0
  ·have aP:decide (m.cW=0)=ah:=by simp[a8]
   cases B6:m.md.gq with
   |false=>simp only[aP,sD,Bw,if_true];rw[bz H_];simp(disch:=omega)only[aw,simprocAttr,Mg,ej,b1,b7,ak,ar,aM,fl,j5,km,wB,yi,B6];refine⟨_,rfl,?_⟩;exact fin rfl rfl rfl
   |true=>simp only[aP,LO,zk,if_false,gk];rw[bz H_];simp(disch:=omega)only[aw,simprocAttr,Mg,ej,b1,b7,ak,ar,aM,fl,j5,km,wB,yi,B6];refine⟨_,rfl,?_⟩;exact fin rfl rfl rfl
  ·have aP:decide (m.cW=0)=J:=by simp[a8]
   simp only[aP,mb,zk,if_false,gk];rw[bz H_];simp(disch:=omega)only[aw,simprocAttr,Mg,ej,b1,b7,ak,ar,aM,fl,j5,km,wB,yi];refine⟨_,rfl,?_⟩;exact fin rfl rfl rfl
inductive fj:List fO→Prop
 |nil:fj []
 |one {c l}:jD c=ah→c.w=1→fj l→fj (c::l)
 |two {c l}:jD c=ah→c.w=2→fj l→fj (c::cont c.a::l)
def TA:∀(n:Nat) (l:c1),l.length≤n→ii l=ah→fj l
 |_,[],_,_=>.nil
 |0,_::_,h,_=>by simp at h
 |n+1,[c],_,h=>by simp only[ii,c',decide_eq_true_eq]at h;exact .one h.1 h.2 .nil
 |n+1,c::d::l,ao,h=>by
  by_cases hw:c.w=1
  ·rw[Ta hw,c']at h;exact .one h.1 hw (TA n _ (by simpa using ao) h.2)
  ·rw[Tb hw]at h;simp only[c',decide_eq_true_eq]at h;obtain⟨⟨p,U,rfl⟩,az⟩:=h;exact .two p U (TA n _ (by simp at ao;omega) az)
def fj.I{l:c1}(h:fj l):ii l=ah:=by
 induction h with
 |nil=>rfl
 |one p U _ a'=>rw[Ta U,p,a'];rfl
 |two p U _ a'=>rw[Tb aa,p,a',U];simp
def xH{l:c1}:ii l=ah↔fj l:=⟨TA _ l (cS _),fj.I⟩
def fj.jR{a b:c1}(h:fj a)(an:fj b):fj (a++b):=by
 induction h with
 |nil=>exact an
 |one p U _ a'=>exact .one p U a'
 |two p U _ a'=>exact .two p U a'
def TB{bd:Int}(h:-1≤bd∧bd≤255):jD (ry bd)=ah:=by
 have p:iv ⟨-1,bd,0⟩=ah:=by simp only[iv,c',decide_eq_true_eq];omega
 have U:(pX [32] &&decide (E6 [32]=1))=ah:=bU;simp only[jD,ry,p,Bw];exact U
def fj.rC{bd:Int}(h:-1≤bd∧bd≤255):∀n,fj (ea n bd)
 |0=>.nil
 |n+1=>by rw[ea,Gv];exact .one (TB h) rfl (fj.rC h n)
def Fl{a:eA}(h:iv a=ah):-1≤a.bd∧a.bd≤255:=by simp only[iv,c',decide_eq_true_eq]at h;omega
def IN{c:fO}(h:jD c=ah):iv c.a=ah:=by simp only[jD,c']at h;exact h.2
def Nq(c:fO)(l:c1)(k:Nat):dw (c::l) (k+2)=c::dw l (k+1):=by
 unfold dw;rw[kp];cases l[k+1]? with
 |none=>rfl
 |some d=>simp only[Nat.zero_lt_succ,true_and];split<;>rfl
def aiZ(l:c1):dw l 0=l:=by unfold dw;split<;>simp
def fj.l_{l:c1}(h:fj l){d:fO}(aP:l[0]?=j d):d.w≠0:=by
 cases h with
 |nil=>cases aP
 |one p U _=>cases aP;omega
 |two p U _=>cases aP;omega
def ai0{c:fO}{l:c1}(h:fj l):dw (c::l) 1=c::l:=by
 unfold dw;rw[kp];cases e:l[0]? with
 |none=>rfl
 |some d=>simp only[h.l_ e,and_false,if_false]
def fj.qK{l:c1}(h:fj l):∀k,fj ((dw l k).take k)∧fj ((dw l k).drop k):=by
 induction h with
 |nil=>intro k;simp[dw];exact .nil
 |@one c l p U az a'=>
  intro k
  match k with
  |0=>rw[aiZ];exact⟨.nil,.one p U az⟩
  |1=>rw[ai0 az];exact⟨.one p U .nil,az⟩
  |k+2=>rw[Nq];exact⟨.one p U (a' (k+1)).1,(a' (k+1)).2⟩
 |@two c l p U az a'=>
  intro k
  match k with
  |0=>rw[aiZ];exact⟨.nil,.two p U az⟩
  |1=>have e:dw (c::cont c.a::l) 1=ry c.a.bd::ry c.a.bd::l:=rfl;rw[e];have an:=TB (Fl (IN p));exact⟨.one an rfl .nil,.one an rfl az⟩
  |2=>rw[Nq,ai0 az];exact⟨.two p U .nil,az⟩
  |k+3=>rw[Nq,Nq];exact⟨.two p U (a' (k+1)).1,(a' (k+1)).2⟩
def fj.bo{l:c1}(h:fj l)(k:Nat):fj (dw l k):=by have p:=h.qK k;rw[←Lo k (dw l k)];exact p.1.jR p.2
def IP{l:c1}{ac k:Nat}(h:ac<k):(dw l k).take ac=l.take ac:=by
 unfold dw;split
 ·split
  ·rw[List.take_set_of_le aa,List.take_set_of_le aa]
  ·rfl
 ·rfl
def fj.fix{l:c1}(h:fj l):∀n,fj (mV (l.take n)):=by
 induction h with
 |nil=>intro n;simp[mV];exact .nil
 |@one c l p U az a'=>
  intro n
  match n with
  |0=>simp[mV];exact .nil
  |n+1=>
   have e:mV (c::l.take n)=c::mV (l.take n):=by
    cases ao:l.take n with
    |nil=>simp[mV,U]
    |cons d r=>
     simp only[mV,da,Nat.add_sub_cancel,kp];cases (d::r)[r.length]? with
     |none=>rfl
     |some x=>simp only;split<;>rfl
   rw[w6,e];exact .one p U (a' n)
 |@two c l p U az a'=>
  intro n;have an:=TB (Fl (IN p))
  match n with
  |0=>simp[mV];exact .nil
  |1=>simp[mV,U];exact .one an rfl .nil
  |n+2=>
   have e:mV (c::cont c.a::l.take n)=c::cont c.a::mV (l.take n):=by
    cases ao:l.take n with
    |nil=>simp[mV,cont]
    |cons d r=>
     simp only[mV,da,Nat.add_sub_cancel,kp];cases (d::r)[r.length]? with
     |none=>rfl
     |some x=>simp only;split<;>rfl
   rw[w6,w6,e];exact .two p U (a' n)
def fj.aNG{A B C:c1}(h:fj (A++(B++C)))(k:Nat):fj (mV (A++(B++C.take k))):=by have az:=h.fix (A.length+(B.length+k));rwa [List.take_length_add_append,List.take_length_add_append]at az
def fj.nG{l:c1}(h:fj l)(bk n:Nat){a:eA}(aF:iv a=ah):fj (nG l bk n a):=
 ((h.qK bk).1.jR ((fj.rC (Fl aF) (min n (l.length-bk))).jR (h.qK bk).2)).aNG _
def fj.pZ{l:c1}(h:fj l){bk n:Nat}(aj:bk<l.length)(aI:1≤n){a:eA}(aF:iv a=ah):fj (pZ l bk n a):=by have p:=h.qK bk;have U:=(h.bo bk).qK (bk+min n (l.length-bk));unfold Go.VI.pZ;rw[IP aa];exact p.1.jR (U.2.jR (fj.rC (Fl aF) _))
def fj.qI{l:c1}(h:fj l){I q:Nat}(mf:I≤q){a:eA}(aF:iv a=ah):fj (qI l I q a):=by
 unfold Go.VI.qI;split
 ·exact h
 ·have p:=h.qK I;have U:=(h.bo I).qK q;rw[IP aa];exact p.1.jR ((fj.rC (Fl aF) _).jR U.2)
def fj.mU{l:c1}(h:fj l){bk:Nat}{t:bX}{w:Int}{a:eA}(hw:w=1∨w=2)(aj:(bk:Int)+w≤l.length)(bA:jD ⟨t,w,a⟩=ah):fj (mU l bk t w a):=by
 unfold Go.VI.mU;have p:=h.qK bk;have z:jm l bk 1=dw l bk:=rfl;rcases hw with rfl|rfl
 ·rw[if_neg bU];have U:=(h.bo bk).qK (bk+1);have e:(jm l bk 2).set bk ⟨t,1,a⟩=(dw l bk).take bk++(⟨t,1,a⟩::(dw (dw l bk) (bk+1)).drop (bk+1)):=by
   have ao:bk<(jm l bk 2).length:=by rw[xC];omega
   rw[List.set_eq_take_append_cons_drop,if_pos ao];show(dw (dw l bk) (bk+1)).take bk++_=_;rw[IP aa];rfl
  rw[e];exact p.1.jR (.one bA rfl U.2)
 ·rw[if_pos rfl];have U:=((h.bo bk).bo (bk+1)).qK (bk+2);have e:((jm l bk 3).set bk ⟨t,2,a⟩).set (bk+1) (cont a)=(dw l bk).take bk++(⟨t,2,a⟩::cont a::(dw (dw (dw l bk) (bk+1)) (bk+2)).drop (bk+2)):=by
   have ao:bk+1<(jm l bk 3).length:=by rw[xC];omega
   have ap:jm l bk 3=dw (dw (dw l bk) (bk+1)) (bk+2):=rfl;rw[ap]at ao⊢;have bb:(dw (dw (dw l bk) (bk+1)) (bk+2)).take bk=(dw l bk).take bk:=by rw[IP aa,IP aa]
   generalize dw (dw (dw l bk) (bk+1)) (bk+2)=x at*;have ar:x.set bk ⟨t,2,a⟩=x.take bk++⟨t,2,a⟩::x.drop (bk+1):=by rw[List.set_eq_take_append_cons_drop,if_pos aa]
   rw[ar,AG _ _ (by rw[hV];omega),hV,show bk+1-min bk x.length=1 by omega,jk ao,List.set_cons_succ,HW,bb]
  rw[e];exact p.1.jR (.two bA rfl U.2)
def xI(c:gG)(w h:Nat):Prop:=(0≤c.r∧c.r<h)∧(0≤c.c∧c.c<w)∧(c.I=ah→c.c=w-1)
def bt.kx{m:M}(h:bt m){c:gG}(aj:xI c m.w m.h):bt {m with aJ:=c}:=
 {w:=h.w,h:=h.h,G:=h.G,O:=h.O,aJ:=aj,b3:=h.b3,a:=h.a,aH:=h.aH,dm:=h.dm,c9:=h.c9,back:=h.back,bO:=h.bO,iF:=h.iF,eX:=h.eX,dL:=h.dL}
def bt.ck{m:M}(h:bt m):jc (Go.VI.cx m):=h.cx
def aNH{r n:Int}{b:hg}(h:jc b)(ak:0≤r∧r<b.h):0≤xD r n b∧xD r n b<b.h:=by
 obtain⟨_,⟨az,bh⟩,bF,dN,g'⟩:=h;unfold xD;have ao:Ff r b≤Fg r b∧0≤Ff r b∧Fg r b<b.h:=by unfold Ff Fg;split<;>omega
 have:=sK (n:=r-e' n (-1000) 1000) ao.1;omega
def B7(c:gG)(n:Int){m:M}(h:bt m):xI (jn c n (cx m)) m.w m.h:=by have an:=h.cx;have p:=zL c an;have U:=aNH (n:=n) an p.1;exact⟨U,p.2,by simp[jn]⟩
def Nr(c:gG)(n:Int){m:M}(h:bt m):xI (n2 c n (cx m)) m.w m.h:=by have an:=h.cx;have p:=zL c an;have hw:=h.w;have U:=sK (n:=(gQ c (cx m)).c+e' n (-1000) 1000) (show(0:Int)≤(cx m).w-1 by show(0:Int)≤(m.w:Int)-1;omega);refine⟨p.1,?_,by simp[n2]⟩;show 0≤xE _ _ _∧xE _ _ _<(m.w:Int);unfold xE;have az:(cx m).w=(m.w:Int):=rfl;rw[az]at U⊢;omega
def IQ(r c:Int){m:M}(h:bt m):xI ⟨toR r (cx m),lS c (cx m),J⟩ m.w m.h:=by
 have hw:=h.w;have aV:=h.h;have bA:=h.dm;have ar:(cx m).w=(m.w:Int):=rfl;have aM:(cx m).h=(m.h:Int):=rfl;have bZ:(cx m).cW=m.cW:=rfl;have dx:(cx m).ck=m.ck:=rfl;have p:=sK (n:=e' c 1 1000-1) (show(0:Int)≤(cx m).w-1 by rw[ar];omega);refine⟨?_,?_,aX⟩
 ·show 0≤toR r (cx m)∧toR r (cx m)<(m.h:Int);unfold toR;split
  ·have:=sK (n:=(cx m).cW+(e' r 1 1000-1)) (show(cx m).cW≤(cx m).ck-1 by rw[bZ,dx];omega);rw[bZ,dx]at this⊢;omega
  ·have:=sK (n:=e' r 1 1000-1) (show(0:Int)≤(cx m).h-1 by rw[aM];omega);rw[aM]at this⊢;omega
 ·show 0≤lS c (cx m)∧lS c (cx m)<(m.w:Int);unfold lS;rw[ar]at p⊢;omega
def ai1(c:gG){m:M}(h:bt m):xI (zM c (cx m)) m.w m.h:=by have p:=zL c h.cx;refine⟨p.1,p.2,λ e=>?_⟩;simp only[zM,c',decide_eq_true_eq]at e;exact e.2
def ai2(c:gG){m:M}(h:bt m):xI (j' c (cx m)) m.w m.h:=by have p:=zL c h.cx;exact⟨p.1,p.2,by simp[j']⟩
def TC(c:gG){m:M}(h:bt m):xI (p0 c (cx m)).1 m.w m.h:=by
 unfold p0;split
 ·exact ai2 c h
 ·exact B7 _ _ h
def TD(c:gG){m:M}(h:bt m):xI (sL c (cx m)).1 m.w m.h:=by
 unfold sL;split
 ·exact ai2 c h
 ·exact B7 _ _ h
def TE{w:Nat}{a:eA}(aF:iv a=ah):(ea w a.bd).length=w∧ii (ea w a.bd)=ah:=⟨BW _ _,(fj.rC (Fl aF) w).I⟩
def aNI{w:Nat}{a:eA}(aF:iv a=ah){I q k:Nat}{g:cQ}(h:lg w g):lg w (sG w a.bd I q k g):=by
 intro r ak;simp only[sG,gA,TF]at ak;rcases ak with p|(p|⟨_,rfl⟩)|p
 ·exact h r (Fk p)
 ·exact h r (vW (Fk p))
 ·exact TE aF
 ·exact h r (vW p)
def aNJ{w:Nat}{a:eA}(aF:iv a=ah){I q k:Nat}{g:cQ}(h:lg w g):lg w (sH w a.bd I q k g):=by
 intro r ak;simp only[sH,gA,TF]at ak;rcases ak with p|(⟨_,rfl⟩|p)|p
 ·exact h r (Fk p)
 ·exact TE aF
 ·exact h r (vW (Fk p))
 ·exact h r (vW p)
def bt.zS{m:M}(h:bt m){fY n:Int}{k0:Bool}(bA:0≤fY∧fY<m.ck):bt (lT m fY n k0):=by
 obtain⟨t1,t2,t3⟩:=h.dm;have ao:=sK (n:=n) (show-(m.ck-fY)≤m.ck-fY by omega);have mg:=h.G;have aVx:=h.w;have aNK:(rB m.w m.a.bd fY.toNat m.ck.toNat (e' n (-(m.ck-fY)) (m.ck-fY)) m.G).length=m.h∧lg m.w (rB m.w m.a.bd fY.toNat m.ck.toNat (e' n (-(m.ck-fY)) (m.ck-fY)) m.G):=by
  generalize e' n (-(m.ck-fY)) (m.ck-fY)=k at*;unfold rB;split
  ·exact⟨by rw[aip aa aa];exact mg.1,aNI h.a mg.2⟩
  ·exact⟨by rw[aiq aa aa];exact mg.1,aNJ h.a mg.2⟩
 have c_:(lT m fY n k0).back.length≤500∧∀r∈(lT m fY n k0).back,1≤r.length∧r.length≤132∧ii r=ah:=by
  unfold lT;simp only;generalize e' n (-(m.ck-fY)) (m.ck-fY)=k at*;split
  ·refine⟨aiw _ _,λ r ak=>?_⟩;rcases gA.1 (vW ak)with p|p
   ·exact h.back.2 r p
   ·unfold jX sI at p;split at p
    ·have:=mg.2 r (vW (Fk p));exact⟨aa,aa,this.2⟩
    ·simp at p
  ·exact h.back
 exact{w:=h.w,h:=h.h,G:=aNK,O:=h.O,aJ:=h.aJ,b3:=h.b3,a:=h.a,aH:=h.aH,dm:=h.dm,c9:=h.c9,back:=c_,bO:=h.bO,iF:=h.iF,eX:=h.eX,dL:=h.dL}
def mh(m:M):M:=if(p0 m.aJ (cx m)).2=ah then lT {m with aJ:=(p0 m.aJ (cx m)).1} m.cW 1 ah else{m with aJ:=(p0 m.aJ (cx m)).1}
def bt.feed{m:M}(h:bt m):bt (mh m):=by
 unfold mh;split
 ·exact(h.kx (TC m.aJ h)).zS ⟨h.dm.1,h.dm.2.1⟩
 ·exact h.kx (TC m.aJ h)
def B8{f B:Nat}{nX:List ResultVar}{K:Fr→ab→hj}{x:hj}{r:ay}{b6:M}(P:Fr→ab→Prop)(p:∃R H,x=j (.normal,R,H)∧P R H)
  (U:∀R H,P R H→∃L,xa E f B nX (w_ K (j (.normal,R,H)))=j (r,L)∧eD b6 L):∃L,xa E f B nX (w_ K x)=j (r,L)∧eD b6 L:=by
 obtain⟨R,H,rfl,h⟩:=p;exact U R H h
def iO(m:M)(H:ab):Prop:=∃a ag b ai T,H=.box (aW m (a+1) ag (b+1) ai)::T∧h3 1 m (a+1) ag (b+1) ai T
def mW{f:Nat}{bC:aZ}{r:ay}{m b6:M}(he:E.ext f=o)(hA:bI bC=[])(ak:bj r=[])(h:h4 f bC m r b6){H:ab}(aT:iO m H):∃aq,cE f (.ptr 0 0 0 0::bC) H r aq∧iO b6 aq:=by obtain⟨a,ag,b,ai,T,rfl,i⟩:=aT;obtain⟨b_,c6,b0,c7,dk,e,AO,_⟩:=Tz he hA ak h i;exact⟨_,e,b_,c6,b0,c7,dk,rfl,AO⟩
def iO.jF{n:Nat}{m:M}{H:ab}(h:iO m H):eD m (e0 n H 0 H):=by obtain⟨a,ag,b,ai,T,rfl,i⟩:=h;exact zR i
def iO.eb{m:M}{ag ai aH aL:Nat}{T:ab}:iO m (.box (aW m 1 ag 2 ai)::.aE 5 ag aH (a7 m.G)::.aE 5 ai aL (a7 m.O)::T):=⟨0,ag,1,ai,_,rfl,oE rfl rfl bU rfl rfl⟩
def eD.eb{m:M}{ag ai aH aL:Nat}{T:ab}:eD m (.box (aW m 1 ag 2 ai)::.aE 5 ag aH (a7 m.G)::.aE 5 ai aL (a7 m.O)::T):=⟨_,_,_,_,_,rfl,oE (a:=0) (b:=1) rfl rfl bU rfl rfl⟩
def IR{m:M}(hm:bt m):h4 92 [] m (.bl []) (mh m):=by
 intro ag aH ai aL;have an:=hm.cx;have ar:=λ z=>II (m:=m) (a:=0) (b:=1) (ag:=ag) (ai:=ai) (T:=.aE 5 ag aH (a7 m.G)::.aE 5 ai aL (a7 m.O)::z) rfl rfl bU
 have aM:=λ H=>aL6 m.aJ an H
 unfold mh;have aU:=hm.kx (TC m.aJ hm);obtain⟨c,aj⟩:∃c,p0 m.aJ (cx m)=c:=⟨_,rfl⟩;rw[aj]at aM aU⊢;simp only[cJ,dl,cx]at ar aM;obtain⟨⟨IS,um,lm⟩,k⟩:=c;simp only at*;cases k with
 |false=>simp only[gk,if_false]at aM⊢;rw[bz R_];simp(disch:=omega)only[aw,simprocAttr,afV,b1,b7,bV,ar,aM];exact⟨_,rfl,eD.eb⟩
 |true=>simp only[if_true]at aM⊢;obtain⟨b_,c6,b0,c7,dk,bZ,i3,cL⟩:=Tz (f:=107) rfl rfl rfl (IL aU m.cW 1 ah ⟨hm.dm.1,hm.dm.2.1⟩) (oE (m:={m with aJ:=⟨IS,um,lm⟩}) (a:=0) (b:=1) (ag:=ag) (ai:=ai) (aH:=aH) (aL:=aL) (x:=.aE 5 ag aH (a7 m.G)) (y:=.aE 5 ai aL (a7 m.O)) (T:=[.box [.i (.v (.int .i64 (IS))),.i (.v (.int .i64 (um))),.i (.v (.bool (lm)))]]) rfl rfl bU rfl rfl);simp only[cJ,dl]at bZ;rw[bz R_];simp(disch:=omega)only[aw,simprocAttr,afV,b1,b7,bV,ar,aM,bZ];exact⟨_,rfl,zR i3⟩
def ai3{m:M}{ag ai aH aL:Nat}{x y:c0}{r:Nat}{b4:cb}(ak:m.aJ.r=r)(aV:r<m.h)(ap:x[r]?=j (.own b4)):∃L,b' E 96 [.ptr 0 0 0 0] [.box (aW m 1 ag 2 ai),.aE 5 ag aH x,.aE 5 ai aL y]=j (.x (.h 1 ag aH r),.box (aW m 1 ag 2 ai)::.aE 5 ag aH x::.aE 5 ai aL y::L):=by rw[bz afZ];simp(disch:=omega)only[aw,simprocAttr,aH7,ej,b1,b7,bV,ak,ap];exact be
def ai4{f:Nat}{m:M}{X Y:Chunk}{a ag b ai s r:Nat}{T:ab}(he:E.ext f=o)
  (h:∃L,b' E f [.ptr 0 0 0 0] [.box (aW m 1 ag 2 ai),X,Y]=j (.x (.h 1 ag s r),.box (aW m 1 ag 2 ai)::X::Y::L))
  (p:T[a]?=j X)(U:T[b]?=j Y)(az:X.refs=[])(bh:Y.refs=[])(dc:a≠b):
  cE f [.ptr 0 0 0 0] (.box (aW m (a+1) ag (b+1) ai)::T) (.x (.h (a+1) ag s r)) (.box (aW m (a+1) ag (b+1) ai)::T):=by
 obtain⟨L,h⟩:=h;have o8:=λ aY=>lR az aY
 have uM:=λ aY=>lR bh aY
 have dA:=Tv (m:=m) (ag:=ag) (ai:=ai) p U az bh dc;have nT:bD [0,a+1,b+1] (a+1)=j 1:=by simp[bD]
 have sh:bD [0,a+1,b+1] (b+1)=j 2:=by simp[bD,bi dc]
 have k7:bD [0,a+1,b+1] 0=j 0:=rfl;have ar:=ka (bD [0,a+1,b+1]) m (a+1) ag (b+1) ai 1 2 nT sh;have aM:=ka (dG [0,a+1,b+1] (T.length+1) []) m 1 ag 2 ai (a+1) (b+1) rfl rfl;have bZ:∀n,dG [0,a+1,b+1] n [] 1=j (a+1):=λ n=>rfl
 have B3:reach (.box (aW m 1 ag 2 ai)::X::Y::L) 64 [1,1,2] []=[1,2]:=by simp[reach,az,bh]
 have s1:=zI p;have s2:=zI U;unfold cE dy;simp only[fg,he,bI,bj,dC,dA];simp[cP,cB,k7,p,U,jp,o8,uM,ar,h,kw,bV,bj,de.c,de.to,az,bh,B3,aM,bZ,ev,s1,s2]
def aNL{m:M}{ag ai aH aL n:Nat}{x y:c0}{r:Nat}{b4:cb}(ak:m.aJ.r=r)(aV:r<m.h)(ap:r<x.length)(aI:b4.length=n):∃L,b' E 94 [.ptr 0 0 0 0,.ref 3 0 0 n,.i (.v (.int .i64 (0)))] [.box (aW m 1 ag 2 ai),.aE 5 ag aH x,.aE 5 ai aL y,.af 5 0 b4 J]=j (.bl [],.box (aW m 1 ag 2 ai)::.aE 5 ag (aH+1) (x.set r (.own b4))::.aE 5 ai aL y::.gone::L):=by subst aI;rw[bz afX];simp(disch:=omega)only[aw,simprocAttr,aH6,ej,b1,b7,bV,ak,ne_eq];exact be
def ai5{m:M}{a ag b ai aH aL n c:Nat}{x y:c0}{r:Nat}{b4:cb}{T:ab}(ak:m.aJ.r=r)(aV:r<m.h)(ap:r<x.length)(aI:b4.length=n)
  (p:T[a]?=j (.aE 5 ag aH x))(U:T[b]?=j (.aE 5 ai aL y))(aj:T[c]?=j (.af 5 0 b4 J))(dc:a≠b):
  cE 94 [.ptr 0 0 0 0,.ref (c+1) 0 0 n,↑(0:Int)] (.box (aW m (a+1) ag (b+1) ai)::T) (.bl []) (.box (aW m (a+1) ag (b+1) ai)::(T.set a (.aE 5 ag (aH+1) (x.set r (.own b4)))).set c .gone):=by
 obtain⟨L,h⟩:=aNL (ag:=ag) (ai:=ai) (aH:=aH) (aL:=aL) (y:=y) ak aV ap aI;have ai6:a≠c:=λ e=>by subst e;rw[p]at aj;cases aj
 have ai7:b≠c:=λ e=>by subst e;rw[U]at aj;cases aj
 have bK:=fH.2 (bQ.1 p).1;have bJ:=fH.2 (bQ.1 U).1;have cL:=fH.2 (bQ.1 aj).1;have dA:reach (.box (aW m (a+1) ag (b+1) ai)::T) 64 [0,c+1] []=[0,a+1,b+1,c+1]:=by simp[reach,kw,bV,p,U,aj,bK,bJ,cL,bi dc,bi ai6,bi ai7,Chunk.refs]
 have k7:bD [0,a+1,b+1,c+1] 0=j 0:=rfl;have nT:bD [0,a+1,b+1,c+1] (a+1)=j 1:=by simp[bD]
 have sh:bD [0,a+1,b+1,c+1] (b+1)=j 2:=by simp[bD,bi dc]
 have zT:bD [0,a+1,b+1,c+1] (c+1)=j 3:=by simp[bD,bi ai6,bi ai7]
 have ar:=ka (bD [0,a+1,b+1,c+1]) m (a+1) ag (b+1) ai 1 2 nT sh;have aM:=ka (dG [0,a+1,b+1,c+1] (T.length+1) []) m 1 ag 2 ai (a+1) (b+1) rfl rfl;have B3:reach (.box (aW m 1 ag 2 ai)::.aE 5 ag (aH+1) (x.set r (.own b4))::.aE 5 ai aL y::.gone::L) 64 [1,2] []=[1,2]:=by simp[reach,Chunk.refs]
 have s2:((T.set a (.aE 5 ag (aH+1) (x.set r (.own b4)))).set b (.aE 5 ai aL y))=T.set a (.aE 5 ag (aH+1) (x.set r (.own b4))):=zI (by rw[dW dc];exact U);unfold cE dy;simp only[fg,show E.ext 94=o from rfl,bI,bj,dC,cC,dA];simp[cP,cB,k7,zT,p,U,aj,jp,Chunk.c2,ar,h,kw,bV,bj,Chunk.refs,show bI []=[]from rfl,B3,aM,ev,s2]
def ai8(g:cQ)(r:Nat)(y:er)(n:c1):((a7 g).set r y).set r (.own (cl n))=a7 (g.set r n):=by rw[wI,Nf]
def Fm{T:ab}{k a:Nat}{y:Chunk}(h:∀x:Chunk,T[k]?=j x→x.refs=[])(bb:y.refs=[]):∀x:Chunk,(T.set a y)[k]?=j x→x.refs=[]:=by
 intro x ap;rw[List.getElem?_set]at ap;split at ap
 ·split at ap
  ·cases ap;exact bb
  ·cases ap
 ·exact h x ap
def ai9{T W:ab}{k:Nat}(aA:k<T.length)(h:∀x:Chunk,T[k]?=j x→x.refs=[]):∀x:Chunk,(T++W)[k]?=j x→x.refs=[]:=by intro x ap;rw[eO aA]at ap;exact h x ap
def ai_{m:M}{a ag b ai:Nat}{T:ab}(aB:h3 1 m (a+1) ag (b+1) ai T)(aj:0≤m.aJ.r∧m.aJ.r<m.h)(mg:m.G.length=m.h):
  ∃aH row,m.G[m.aJ.r.toNat]?=j row∧(.box (aW m (a+1) ag (b+1) ai)::T)[a+1]?=j (.aE 5 ag aH (a7 m.G))∧T[a]?=j (.aE 5 ag aH (a7 m.G))∧(a7 m.G)[m.aJ.r.toNat]?=j (.own (cl row))∧
   cE 96 [.ptr 0 0 0 0] (.box (aW m (a+1) ag (b+1) ai)::T) (.x (.h (a+1) ag aH m.aJ.r.toNat)) (.box (aW m (a+1) ag (b+1) ai)::T)∧
   ∀new:c1,∃hn,cE 94 [.ptr 0 0 0 0,.ref (T.length+1) 0 0 new.length,↑(0:Int)] (.box (aW m (a+1) ag (b+1) ai)::(T.set a (.aE 5 ag aH ((a7 m.G).set m.aJ.r.toNat (.ek (.af 5 (cl row) J))))++[.af 5 0 (cl new) J])) (.bl []) (.box (aW m (a+1) ag (b+1) ai)::hn)∧h3 1 {m with G:=m.G.set m.aJ.r.toNat new} (a+1) ag (b+1) ai hn:=by
 obtain⟨b_,b0,aH,aL,B9,B_,aF,an,dc,ao,a8,p⟩:=aB;obtain rfl:a=b_:=aa;obtain rfl:b=b0:=aa;obtain⟨r,ak⟩:=jC aj.1;have xJ:m.aJ.r.toNat=r:=by rw[ak];rfl
 have Fo:r<m.h:=aa;have b2:m.G[r]?=j m.G[r]:=eC aa;have qz:=Tn (g:=m.G) (k:=r) aa;have Fp:=(bQ.1 aF).1;have IT:=(bQ.1 an).1;rw[xJ];refine⟨aH,m.G[r],b2,aF,aF,qz,ai4 rfl (ai3 ak Fo qz) aF an rfl rfl dc,λ new=>?_⟩;have cy:(T.set a (.aE 5 ag aH ((a7 m.G).set r (.ek (.af 5 (cl m.G[r]) J))))++[.af 5 0 (cl new) J])[a]?=j (.aE 5 ag aH ((a7 m.G).set r (.ek (.af 5 (cl m.G[r]) J)))):=by rw[eO (by simp;exact Fp),k9 Fp]
 have cN:(T.set a (.aE 5 ag aH ((a7 m.G).set r (.ek (.af 5 (cl m.G[r]) J))))++[.af 5 0 (cl new) J])[b]?=j (.aE 5 ai aL (a7 m.O)):=by rw[eO (by simp;exact IT),dW dc,an]
 have fy:(T.set a (.aE 5 ag aH ((a7 m.G).set r (.ek (.af 5 (cl m.G[r]) J))))++[.af 5 0 (cl new) J])[T.length]?=j (.af 5 0 (cl new) J):=by rw[hK aX];simp
 have e:=ai5 (n:=new.length) (c:=T.length) ak Fo (by rw[kl,hf];omega) (fo new) cy cN fy dc;rw[ai8]at e;refine⟨_,e,a,b,aH+1,aL,rfl,rfl,?_,?_,dc,?_,?_,?_⟩
 ·rw[dW aa,k9 (by simp;omega)]
 ·rw[dW aa,dW dc,cN]
 ·simp;omega
 ·exact Fm (Fm (ai9 (by simp;omega) (Fm a8 rfl)) rfl) rfl
 ·exact Fm (Fm (ai9 (by simp;omega) (Fm p rfl)) rfl) rfl
def Ns{m:M}(aj:0≤m.aJ.r∧m.aJ.r<m.h)(mg:m.G.length=m.h):
  ∃row r,m.aJ.r.toNat=r∧m.aJ.r=(r:Int)∧r<m.h∧m.G[r]?=j row∧(a7 m.G)[r]?=j (.own (cl row))∧
   (∀ag ai aH aL,cF 96 [.ptr 0 0 0 0] [.box (aW m 1 ag 2 ai),.aE 5 ag aH (a7 m.G),.aE 5 ai aL (a7 m.O)] (.x (.h 1 ag aH r)))∧
   ∀(new:c1) (n:Nat),new.length=n→∀ag ai aH aL,cE 94 [.ptr 0 0 0 0,.ref 3 0 0 n,↑(0:Int)] [.box (aW m 1 ag 2 ai),.aE 5 ag aH ((a7 m.G).set r (.ek (.af 5 (cl row) J))),.aE 5 ai aL (a7 m.O),.af 5 0 (cl new) J] (.bl []) [.box (aW m 1 ag 2 ai),.aE 5 ag (aH+1) (a7 (m.G.set r new)),.aE 5 ai aL (a7 m.O),.gone]:=by
 obtain⟨r,ak⟩:=jC aj.1;have Fo:r<m.h:=aa;have qz:=Tn (g:=m.G) (k:=r) aa;refine⟨m.G[r],r,by rw[ak];rfl,ak,Fo,eC aa,qz,λ ag ai aH aL=>?_,λ new n aI ag ai aH aL=>?_⟩
 ·exact ai4 (a:=0) (b:=1) (T:=[.aE 5 ag aH (a7 m.G),.aE 5 ai aL (a7 m.O)]) rfl (ai3 ak Fo qz) rfl rfl rfl rfl bU
 ·have e:=ai5 (a:=0) (b:=1) (c:=2) (ag:=ag) (ai:=ai) (n:=n) (T:=[.aE 5 ag aH ((a7 m.G).set r (.ek (.af 5 (cl m.G[r]) J))),.aE 5 ai aL (a7 m.O),.af 5 0 (cl new) J]) ak Fo (by rw[kl,hf];omega) (by rw[fo];exact aI) rfl rfl rfl bU;rw[ai8]at e;exact e
def fL(m:M):c1:=m.G.getD m.aJ.r.toNat []
def zU(m:M)(I q:Nat):M:={m with aJ:={m.aJ with I:=J},G:=m.G.set m.aJ.r.toNat (qI (fL m) I q m.a)}
def Nt{m:M}(hm:bt m)(I q:Nat)(mf:I≤q)(bu:q≤m.w):h4 181 [.i (.v (.int .i64 (I))),.i (.v (.int .i64 (q)))] m (.bl []) (zU m I q):=by
 intro ag aH ai aL;obtain⟨row,r,p,U,az,bh,bF,ar,aM⟩:=Ns (m:={m with aJ:={m.aJ with I:=J}}) hm.aJ.1 hm.G.1;have b2:=hm.G.2 row (jP bh);have hw:=hm.w;have bZ:=λ H=>aLx (l:=row) aa aa b2.2 I q mf aa m.a H
 rw[b2.1]at bZ;have dx:=aM (qI row I q m.a) m.w (by rw[Tr mf aa];exact b2.1);unfold zU fL;simp only at p U az bh bF ar dx;rw[p,pN,bh,jQ];have ao:=fo row;have iz:=hf m.G;rw[bz agK];simp(disch:=omega)only[aw,simprocAttr,aIM,dd,b1,b7,bV,bF,ar,bZ,dx];exact⟨_,rfl,⟨_,_,_,_,_,rfl,oE (a:=0) (b:=1) rfl rfl bU rfl rfl⟩⟩
def eD.three{m:M}{ag ai aH aL:Nat}{T:ab}:eD m (.box (aW m 1 ag 2 ai)::.aE 5 ag aH (a7 m.G)::.aE 5 ai aL (a7 m.O)::T):=eD.eb
def aNM{w:Nat}{g:cQ}(h:lg w g){new:c1}(aI:new.length=w∧ii new=ah)(r:Nat):lg w (g.set r new):=by
 intro l ao;rcases List.mem_or_eq_of_mem_set ao with p|rfl
 ·exact h l p
 ·exact aI
def bt.Nu{m:M}(h:bt m){G:cQ}(mg:G.length=m.h∧lg m.w G):bt {m with G:=G}:=
 {w:=h.w,h:=h.h,G:=mg,O:=h.O,aJ:=h.aJ,b3:=h.b3,a:=h.a,aH:=h.aH,dm:=h.dm,c9:=h.c9,back:=h.back,bO:=h.bO,iF:=h.iF,eX:=h.eX,dL:=h.dL}
def bt.k7{m:M}(h:bt m):bt {m with aJ:={m.aJ with I:=J}}:=h.kx ⟨h.aJ.1,h.aJ.2.1,aX⟩
def bt.row{m:M}(h:bt m):(fL m).length=m.w∧ii (fL m)=ah:=by have p:=h.aJ.1;have U:=h.G.1;rw[fL,pN,eC aa,jQ];exact h.G.2 _ (oi _)
def bt.vY{m:M}(h:bt m){new:c1}(aI:new.length=m.w∧ii new=ah)(r:Nat):bt {m with G:=m.G.set r new}:=h.Nu ⟨by rw[kl];exact h.G.1,aNM h.G.2 aI r⟩
def bt.xK{m:M}(h:bt m){I q:Nat}(mf:I≤q)(bu:q≤m.w):bt (zU m I q):=by have p:=h.row;exact h.k7.vY ⟨by rw[Tr mf aa];exact p.1,((xH.1 p.2).qI mf h.a).I⟩ _
def tF(m:M)(ins:Bool)(n:Nat):M:={m with aJ:={m.aJ with I:=J},G:=m.G.set m.aJ.r.toNat (if ins=ah then nG (fL m) m.aJ.c.toNat n m.a else pZ (fL m) m.aJ.c.toNat n m.a)}
def bt.IU{m:M}(h:bt m){ins:Bool}{n:Nat}(aI:1≤n):bt (tF m ins n):=by
 have p:=h.row;have U:=h.aJ.2.1;have aj:m.aJ.c.toNat<(fL m).length:=aa;refine h.k7.vY ?_ _;cases ins with
 |true=>exact⟨by rw[if_pos rfl,nG,Na,Iy aj];exact p.1,by rw[if_pos rfl];exact((xH.1 p.2).nG _ _ h.a).I⟩
 |false=>exact⟨by rw[if_neg aX,Tq aj];exact p.1,by rw[if_neg aX];exact((xH.1 p.2).pZ aj aI h.a).I⟩
def aNN{m:M}(hm:bt m)(n:Nat)(aI:1≤n∧n<1000000):h4 164 [.aS (.func 95) [] [],.i (.v (.int .i64 (n)))] m (.bl []) (tF m ah n):=by
 intro ag aH ai aL;obtain⟨row,r,p,U,az,bh,bF,ar,aM⟩:=Ns (m:={m with aJ:={m.aJ with I:=J}}) hm.aJ.1 hm.G.1;have b2:=hm.G.2 row (jP bh);have hw:=hm.w;have aj:=hm.aJ.2.1;obtain⟨c,fA⟩:=jC aj.1;have bZ:=λ H=>aif (l:=row) aa b2.2 c n aa aI.1 aI.2 m.a H
 rw[b2.1,←fA]at bZ;have dx:=aM (nG row c n m.a) m.w (by rw[nG,Na,Iy aa];exact b2.1);unfold tF fL;simp only at p U az bh bF ar dx;rw[p,pN,bh,jQ,fA,ny];have ao:=fo row;have iz:=hf m.G;rw[bz Sl];simp(disch:=omega)only[aw,simprocAttr,agx,dd,b1,b7,bV,aeC,bF,ar,bZ,dx];exact⟨_,rfl,eD.three⟩
def aNO{m:M}(hm:bt m)(n:Nat)(aI:1≤n∧n<1000000):h4 164 [.aS (.func 166) [] [],.i (.v (.int .i64 (n)))] m (.bl []) (tF m J n):=by
 intro ag aH ai aL;obtain⟨row,r,p,U,az,bh,bF,ar,aM⟩:=Ns (m:={m with aJ:={m.aJ with I:=J}}) hm.aJ.1 hm.G.1;have b2:=hm.G.2 row (jP bh);have hw:=hm.w;have aj:=hm.aJ.2.1;obtain⟨c,fA⟩:=jC aj.1;have bZ:=λ H=>aLw (l:=row) aa b2.2 c n aa aI.1 aI.2 m.a H
 rw[b2.1,←fA]at bZ;have dx:=aM (pZ row c n m.a) m.w (by rw[Tq aa];exact b2.1);unfold tF fL;simp only at p U az bh bF ar dx;rw[p,pN,bh,jQ,fA,ny];have ao:=fo row;have iz:=hf m.G;rw[bz Sl];simp(disch:=omega)only[aw,simprocAttr,agx,dd,b1,b7,bV,aFs,bF,ar,bZ,dx];exact⟨_,rfl,eD.three⟩
def uO(m:M)(n:Int):M:=if n=0 then zU m m.aJ.c.toNat m.w else if n=1 then zU m 0 (m.aJ.c.toNat+1)else if n=2 then zU m 0 m.w else m
def bt.era{m:M}(h:bt m){n:Int}:bt (uO m n):=by
 have aj:=h.aJ.2.1;unfold uO;split
 ·exact h.xK aa (cS _)
 ·split
  ·exact h.xK aa aa
  ·split
   ·exact h.xK aa (cS _)
   ·exact h
def ai'{m:M}(hm:bt m)(n:Int):h4 176 [.i (.v (.int .i64 (n)))] m (.bl []) (uO m n):=by
 intro ag aH ai aL;have aj:=hm.aJ.2.1;obtain⟨c,fA⟩:=jC aj.1;have hw:=hm.w;unfold uO;by_cases a8:n=0
 ·obtain⟨H1,ar,fm⟩:=mW (f:=181) rfl rfl rfl (Nt hm c m.w aa (cS _)) (iO.eb (m:=m) (ag:=ag) (ai:=ai) (aH:=aH) (aL:=aL) (T:=[]));subst a8;rw[if_pos rfl,fA,ny];rw[←fA]at ar;rw[bz Ii];simp(disch:=omega)only[aw,simprocAttr,Mq,b1,b7,bV,ar];exact⟨_,rfl,fm.jF⟩
 ·rw[if_neg a8];by_cases p:n=1
  ·obtain⟨H1,ar,fm⟩:=mW (f:=181) rfl rfl rfl (Nt hm 0 (c+1) aa aa) (iO.eb (m:=m) (ag:=ag) (ai:=ai) (aH:=aH) (aL:=aL) (T:=[]));subst p;rw[if_pos rfl,fA,ny];simp only[gO,E9,M4]at ar;rw[←fA]at ar;rw[bz Ii];simp(disch:=omega)only[aw,simprocAttr,Mq,b1,b7,bV,ar];exact⟨_,rfl,fm.jF⟩
  ·rw[if_neg p];by_cases U:n=2
   ·obtain⟨H1,ar,fm⟩:=mW (f:=181) rfl rfl rfl (Nt hm 0 m.w aa aa) (iO.eb (m:=m) (ag:=ag) (ai:=ai) (aH:=aH) (aL:=aL) (T:=[]));subst U;rw[if_pos rfl];simp only[gO]at ar;rw[bz Ii];simp(disch:=omega)only[aw,simprocAttr,Mq,b1,b7,bV,ar];exact⟨_,rfl,fm.jF⟩
   ·rw[if_neg U];rw[bz Ii];simp(disch:=omega)only[aw,simprocAttr,Mq,b1,b7,bV];exact⟨_,rfl,eD.eb⟩
def B'(m:M)(I q:Nat):M:={m with G:=ja m.w m.a.bd I q m.G}
def aNP{w:Nat}{a:eA}(aF:iv a=ah){I q:Nat}{g:cQ}(h:lg w g):lg w (ja w a.bd I q g):=by
 intro r ak;simp only[ja,gA,TF]at ak;rcases ak with p|⟨_,rfl⟩|p
 ·exact h r (Fk p)
 ·exact TE aF
 ·exact h r (vW p)
def bt.rows{m:M}(h:bt m){I q:Nat}(mf:I≤q)(bu:q≤m.h):bt (B' m I q):=h.Nu ⟨by rw[Tm mf (by rw[h.G.1];exact bu)];exact h.G.1,aNP h.a h.G.2⟩
def TG{m:M}(hm:bt m)(I q:Nat)(mf:I≤q)(bu:q≤m.h):h4 212 [.i (.v (.int .i64 (I))),.i (.v (.int .i64 (q)))] m (.bl []) (B' m I q):=by
 intro ag aH ai aL;have ar:=λ H=>aLq m.w m.h hm.w hm.h m.G hm.G.1 hm.G.2 m.a I q mf bu H
 have j5:=Fc m.G;have km:=Fb m.G;have aNB:(cg m.G).length=m.h:=by rw[gn,hm.G.1]
 have aNC:(a7 m.G).length=m.h:=by rw[hf,hm.G.1]
 unfold B';generalize ja m.w m.a.bd I q m.G=IM at*;have fin:∀{b6:M} {ag ai aH aL:Nat} {z y:Chunk} {T:ab},b6.O=m.O→b6.G=IM→z.refs=[]→eD b6 (.box (aW b6 4 ag 2 ai)::z::.aE 5 ai aL (a7 m.O)::y::.aE 5 ag aH (a7 IM)::T):=λ{b6 ag ai aH aL z y T} ar aM bp=>⟨_,_,_,_,_,rfl,oE (a:=3) (b:=1) (by rw[aM];rfl) (by rw[ar];rfl) bU bp rfl⟩
 have ak:((ms 4 1).all λ c=>!(c==3||c==1000003))=ah:=rfl;generalize m.G.map (λ r=>bx.af 5 (cl r) J)=aNF at*;rw[bz ag2];simp(disch:=omega)only[aw,simprocAttr,aI3,b1,b7,bV,ak,ar,j5,km];refine⟨_,rfl,?_⟩;exact fin rfl rfl rfl
def vZ(m:M)(n:Int):M:=if n=0 then B' m (m.aJ.r.toNat+1) m.h else if n=1 then B' m 0 m.aJ.r.toNat else if n=2 then B' m 0 m.h else if n=3 then{m with gD:=ah,back:=[]}else m
def zV(m:M)(n:Int):M:=uO (vZ m n) n
def bt.aNQ{m:M}(h:bt m):bt {m with gD:=ah,back:=[]}:=
 {w:=h.w,h:=h.h,G:=h.G,O:=h.O,aJ:=h.aJ,b3:=h.b3,a:=h.a,aH:=h.aH,dm:=h.dm,c9:=h.c9,back:=⟨aX,aX⟩,bO:=h.bO,iF:=h.iF,eX:=h.eX,dL:=h.dL}
def bt.vZ{m:M}(h:bt m){n:Int}:bt (vZ m n):=by
 have aj:=h.aJ.1;unfold Go.VI.vZ;split
 ·exact h.rows aa (cS _)
 ·split
  ·exact h.rows aa aa
  ·split
   ·exact h.rows aa (cS _)
   ·split
    ·exact h.aNQ
    ·exact h
def bt.aNR{m:M}(h:bt m){n:Int}:bt (zV m n):=h.vZ.era
def aNS{m:M}(hm:bt m)(n:Int):h4 175 [.i (.v (.int .i64 (n)))] m (.bl []) (zV m n):=by
 intro ag aH ai aL;have aj:=hm.aJ.1;obtain⟨c,fA⟩:=jC aj.1;have aV:=hm.h;have he:=ai' (hm.vZ (n:=n)) n;unfold zV;unfold vZ at he⊢;by_cases a8:n=0
 ·subst a8;rw[if_pos rfl]at he⊢;obtain⟨H1,ar,fm⟩:=mW (f:=212) rfl rfl rfl (TG hm (m.aJ.r.toNat+1) m.h aa aa) (iO.eb (m:=m) (ag:=ag) (ai:=ai) (aH:=aH) (aL:=aL) (T:=[]));obtain⟨bG,aM,dZ⟩:=mW (f:=176) rfl rfl rfl he fm;rw[fA,ny]at ar;simp only[gO,E9,M4]at ar;rw[←fA]at ar;rw[bz EO];simp(disch:=omega)only[aw,simprocAttr,Ih,b1,b7,bV,ar,aM];exact⟨_,rfl,dZ.jF⟩
 ·rw[if_neg a8]at he⊢;by_cases p:n=1
  ·subst p;rw[if_pos rfl]at he⊢;obtain⟨H1,ar,fm⟩:=mW (f:=212) rfl rfl rfl (TG hm 0 m.aJ.r.toNat aa aa) (iO.eb (m:=m) (ag:=ag) (ai:=ai) (aH:=aH) (aL:=aL) (T:=[]));obtain⟨bG,aM,dZ⟩:=mW (f:=176) rfl rfl rfl he fm;rw[show((m.aJ.r.toNat:Nat):Int)=m.aJ.r by omega]at ar;simp only[gO]at ar;rw[bz EO];simp(disch:=omega)only[aw,simprocAttr,Ih,b1,b7,bV,ar,aM];exact⟨_,rfl,dZ.jF⟩
  ·rw[if_neg p]at he⊢;by_cases U:n=2
   ·subst U;rw[if_pos rfl]at he⊢;obtain⟨H1,ar,fm⟩:=mW (f:=212) rfl rfl rfl (TG hm 0 m.h aa aa) (iO.eb (m:=m) (ag:=ag) (ai:=ai) (aH:=aH) (aL:=aL) (T:=[]));obtain⟨bG,aM,dZ⟩:=mW (f:=176) rfl rfl rfl he fm;simp only[gO]at ar;rw[bz EO];simp(disch:=omega)only[aw,simprocAttr,Ih,b1,b7,bV,ar,aM];exact⟨_,rfl,dZ.jF⟩
   ·rw[if_neg U]at he⊢;by_cases az:n=3
    ·subst az;rw[if_pos rfl]at he⊢;obtain⟨bG,aM,dZ⟩:=mW (f:=176) rfl rfl rfl he (iO.eb (m:={m with gD:=ah,back:=[]}) (ag:=ag) (ai:=ai) (aH:=aH) (aL:=aL) (T:=[]));rw[bz EO];simp(disch:=omega)only[aw,simprocAttr,Ih,b1,b7,bV,aM];exact⟨_,rfl,dZ.jF⟩
    ·rw[if_neg az]at he⊢;obtain⟨bG,aM,dZ⟩:=mW (f:=176) rfl rfl rfl he (iO.eb (m:=m) (ag:=ag) (ai:=ai) (aH:=aH) (aL:=aL) (T:=[]));rw[bz EO];simp(disch:=omega)only[aw,simprocAttr,Ih,b1,b7,bV,aM];exact⟨_,rfl,dZ.jF⟩
def aNT(x:Int)(a8:0≤x)(p:x≤9999)(a:bm)(n:Nat)(aI:n=a.length)(ao:n<1000000)(g:Nat)(T:ab):
  cE 196 [.ref 0 g 0 n,x,↑(10:Int)] (.af 1 g (eJ a) J::T) (.ref 0 (g+1) 0 (n+(kv x).length)) (.af 1 (g+1) (eJ (a++kv x)) J::T):=
 aJS x a8 aa aI ao rfl
def fmtG:Bool→bX→bm
 |_,[]=>[]
 |true,n::l=>kv n++fmtG J l
 |false,n::l=>59::(kv n++fmtG J l)
def aja(a:bm):eJ a++[[.v (.int .u8 59)]]=eJ (a++[59]):=aJM a 59 59 rfl
theorem Nv(s:bm)(l:bX)(ao:l.length<1000)(TH:∀n∈l,n≤9999)(k:Nat)(aA:k≤l.length)(out:bm)(ci:out.length≤21*k+1):
  ie rr 0 [(2,.i (.str s)),(8,.ref 0 0 0 out.length),(45,.i (.af 1 (cc l) J)),(46,l.length),(47,k)] [.af 1 0 (eJ out) J] 1 [(2,.i (.str s)),(8,.ref 0 0 0 (out++fmtG (decide (k=0)) (l.drop k)).length),(45,.i (.af 1 (cc l) J)),(46,.i (.v (.int .i64 l.length))),(47,.i (.v (.int .i64 l.length))),(48,.i (.v (.bool J)))] [.af 1 0 (eJ (out++fmtG (decide (k=0)) (l.drop k))) J]:=by
 refine(cO rr 0).trans ?_;by_cases bg:k<l.length
 ·have b2:=BR bg;have ha:l[k]≤9999:=TH _ (oi bg);have mJ:(kv l[k]).length≤20:=S1 _ aa;have hL:¬0≤l[k]→kv l[k]=[]:=λ h=>by rw[kv,if_neg h]
  have vt:=aNT l[k];by_cases a8:k=0
  ·have a':=Nv s l ao TH (k+1) bg (out++kv l[k]) (by rw[dK];omega);rw[show decide (k+1=0)=J by simp,eo]at a';rw[jk bg,show decide (k=0)=ah by simpa using a8,fmtG,←a'];clear a';generalize l[k]=n at*;by_cases aI:0≤n
   ·have vt:=vt aI ha;simp(disch:=first|omega|(simp only[cR,cA,eK];omega))only[aw,simprocAttr,lL,d_,bN,b2,aI,vt,cA,eK,mc]
   ·rw[hL aI,dC];simp(disch:=first|omega|(simp only[cR,cA,eK];omega))only[aw,simprocAttr,lL,d_,bN,b2,aI,cA,eK,mc]
  ·have a':=Nv s l ao TH (k+1) bg (out++([59]++kv l[k])) (by simp only[dK,db];omega);rw[show decide (k+1=0)=J by simp,eo,eo]at a';rw[jk bg,show decide (k=0)=J by simpa using a8,fmtG];have TI:=a';simp only[cC]at TI;rw[←TI];clear a' TI;have Nh:0<k:=aa;generalize l[k]=n at*;by_cases aI:0≤n
   ·have vt:=vt aI ha (out++[59]) (out.length+1) aX aa;have ar:out.length+((kv n).length+1)=out.length+1+(kv n).length:=aa;simp(disch:=first|omega|(simp only[cR,cA,eK];omega))only[aw,simprocAttr,lL,d_,bN,b2,Nh,aI,vt,aja,cA,eK,eo,mc];rw[ar]
   ·rw[hL aI];simp(disch:=first|omega|(simp only[cR,cA,eK];omega))only[aw,simprocAttr,lL,d_,bN,b2,Nh,aI,aja,cA,eK,eo,mc]
 ·obtain rfl:k=l.length:=aa;rw[mN];simp only[fmtG,dC];simp(disch:=first|omega|(simp only[cR];omega))only[aw,simprocAttr,lL,d_,bN]
termination_by l.length-k
def p2(I:Int)(l:bX)(s:bm):bm×Int:=
 if(I≠0∧ru I=J)∨vQ s=J∨l=[-1]then([],1)else if l.any nF then([],1)else if kQ l s=J then([],5)else
  ((if I=0 then[]else[iR I.toNat])++fmtG ah l++s,0)
def qL(r:bm×Int):ay:=.bl [.i (.str r.1),.i (.v (.int .i64 r.2))]
def IV(l:bX)(b:Bool)(ha:∀n∈l,n≤9999):(fmtG b l).length≤21*l.length:=by
 induction l generalizing b with
 |nil=>cases b<;>simp[fmtG]
 |cons n l a'=>
  have:=a' J λ n aI=>ha n (vk _ aI)
  have mJ:=S1 n (by have:=ha n (Fq ..);omega);cases b<;>simp only[fmtG,da,dK]<;>omega
def aNU{I:Int}(h:0≤I∧I<256):((iR I.toNat).toNat:Int)=I:=by have:I.toNat<256:=aa;rw[S3];have:I.toNat%2^8=I.toNat:=EW aa;omega
def zW{l:bX}{s:bm}(h:kQ l s=ah):∀n∈l,n≤9999:=by intro n aI;simp only[kQ,c',rh]at h;have:=MH.1 h.2 n aI;simpa[pV]using this
def Fs{l:bX}{s:bm}(h:kQ l s=ah):l.length≤16∧s.length≤2:=by simp only[kQ,c',decide_eq_true_eq]at h;exact h.1
def aNV(I:Int)(ax:0≤I∧I<256)(l:bX)(s:bm)(ao:(l.length:Int)<9223372036854775808)(aU:(s.length:Int)<9223372036854775808):
  gV 130 [.i (.v (.int .u8 I)),.i (.af 1 (cc l) J),.i (.str s)] (qL (p2 I l s)):=by
 have ir:0<l.length→(cc l)[0]?=j [.v (.int .i64 (l.headD 0))]:=λ h=>by cases l with|nil=>cases h|cons a l=>rfl
 unfold p2;cases bA:vQ s with
 |false=>
  by_cases a8:I=0
  ·refine bE rr ?_;rw[if_pos (.inr (.inl rfl))];unfold qL;simp(disch:=omega)only[aw,simprocAttr,lL,d_,bN,ir,nB,mR,mS,oB,nz,cA,eK,nE,mQ,mT,bA,a8,mc];exact be
  ·cases bo:ru I with
   |true=>refine bE rr ?_;rw[if_pos (.inr (.inl rfl))];unfold qL;simp(disch:=omega)only[aw,simprocAttr,lL,d_,bN,ir,nB,mR,mS,oB,nz,cA,eK,nE,mQ,mT,bA,a8,bo,mc];exact be
   |false=>refine bE rr ?_;rw[if_pos (.inr (.inl rfl))];unfold qL;simp(disch:=omega)only[aw,simprocAttr,lL,d_,bN,ir,nB,mR,mS,oB,nz,cA,eK,nE,mQ,mT,bA,a8,bo,mc];exact be
 |true=>
  obtain⟨b,rfl⟩:∃b:UInt8,I=b.toNat:=⟨iR I.toNat,(aNU ax).symm⟩;have an:iR ((b.toNat:Int)).toNat=b:=aX;rw[an];by_cases a8:(b.toNat:Int)=0
  ·have sO:kQ l s=ah→ew E 0 130 (fu f130 0) [(2,.i (.str s)),(8,.ref 0 0 0 0),(45,.i (.af 1 (cc l) J)),(46,.i (.v (.int .i64 l.length))),(47,.i (.v (.int .i64 0)))] [.af 1 0 [] J]=
     j (.exit 1,[(2,.i (.str s)),(8,.ref 0 0 0 ([]++fmtG ah l).length),(45,.i (.af 1 (cc l) J)),(46,.i (.v (.int .i64 l.length))),(47,.i (.v (.int .i64 l.length))),(48,.i (.v (.bool J)))],[.af 1 0 (eJ ([]++fmtG ah l)) J]):=
    λ h=>Nv s l (by have:=Fs h;omega) (zW h) 0 (iC _) [] aX
   rw[show(if(b.toNat:Int)=0 then([]:bm)else[b])=[]from if_pos a8];have bp:=a8;generalize (b.toNat:Int)=I at*;subst a8;have a8:=trivial;by_cases p:l.length=1
   ·obtain⟨n,xL⟩:∃n,l=[n]:=Ym.1 p;have ir:(cc l)[0]?=j [.v (.int .i64 n)]:=by rw[xL];rfl
    by_cases aI:n=-1
    ·subst aI;refine bE rr ?_;rw[if_pos (.inr (.inr xL))];unfold qL;simp(disch:=omega)only[aw,simprocAttr,lL,d_,bN,ir,nB,mR,mS,oB,nz,cA,eK,nE,mQ,mT,bA,a8,mc];exact be
    ·have iL:l≠[-1]:=λ h=>aI (by rw[xL]at h;simpa using h)
     clear xL;rw[if_neg (by rintro(h|h|h)<;>first|exact absurd rfl h.1|(cases h;done)|exact iL h|(rw[bo]at h;cases h.2))];unfold qL;refine bE rr ?_;cases qM:l.any nF with
   |true=>rw[if_pos rfl];simp(disch:=omega)only[aw,simprocAttr,lL,d_,bN,ir,nB,mR,mS,oB,nz,cA,eK,nE,mQ,mT,bA,a8,aI,qM,mc];exact be
   |false=>
    rw[if_neg aX];cases ll:kQ l s with
    |false=>rw[if_pos rfl];simp(disch:=omega)only[aw,simprocAttr,lL,d_,bN,ir,nB,mR,mS,oB,nz,cA,eK,nE,mQ,mT,bA,a8,aI,qM,ll,mc];exact be
    |true=>
     rw[if_neg aX];have sO:=sO ll;have TJ:=Fs ll;have hlen:([]++fmtG ah l).length≤21*l.length+1:=by have:=IV l ah (zW ll);simp only[dK,db];omega
     generalize []++fmtG ah l=out at*;simp(disch:=omega)only[aw,simprocAttr,lL,d_,bN,ir,nB,mR,mS,oB,nz,cA,eK,nE,mQ,mT,bA,a8,aI,qM,ll,sO,mc];exact be
   ·have iL:l≠[-1]:=λ h=>p (by rw[h];rfl)
    have ir:=trivial;have gw:¬(l.length:Int)=1:=by omega
    rw[if_neg (by rintro(h|h|h)<;>first|exact absurd rfl h.1|(cases h;done)|exact iL h|(rw[bo]at h;cases h.2))];unfold qL;refine bE rr ?_;cases qM:l.any nF with
   |true=>rw[if_pos rfl];simp(disch:=omega)only[aw,simprocAttr,lL,d_,bN,ir,nB,mR,mS,oB,nz,cA,eK,nE,mQ,mT,bA,a8,gw,qM,mc];exact be
   |false=>
    rw[if_neg aX];cases ll:kQ l s with
    |false=>rw[if_pos rfl];simp(disch:=omega)only[aw,simprocAttr,lL,d_,bN,ir,nB,mR,mS,oB,nz,cA,eK,nE,mQ,mT,bA,a8,gw,qM,ll,mc];exact be
    |true=>
     rw[if_neg aX];have sO:=sO ll;have TJ:=Fs ll;have hlen:([]++fmtG ah l).length≤21*l.length+1:=by have:=IV l ah (zW ll);simp only[dK,db];omega
     generalize []++fmtG ah l=out at*;simp(disch:=omega)only[aw,simprocAttr,lL,d_,bN,ir,nB,mR,mS,oB,nz,cA,eK,nE,mQ,mT,bA,a8,gw,qM,ll,sO,mc];exact be
  ·have sO:kQ l s=ah→ew E 0 130 (fu f130 0) [(2,.i (.str s)),(8,.ref 0 0 0 1),(45,.i (.af 1 (cc l) J)),(46,.i (.v (.int .i64 l.length))),(47,.i (.v (.int .i64 0)))] [.af 1 0 [[.v (.int .u8 b.toNat)]] J]=
     j (.exit 1,[(2,.i (.str s)),(8,.ref 0 0 0 ([b]++fmtG ah l).length),(45,.i (.af 1 (cc l) J)),(46,.i (.v (.int .i64 l.length))),(47,.i (.v (.int .i64 l.length))),(48,.i (.v (.bool J)))],[.af 1 0 (eJ ([b]++fmtG ah l)) J]):=
    λ h=>Nv s l (by have:=Fs h;omega) (zW h) 0 (iC _) [b] aX
   rw[show(if(b.toNat:Int)=0 then([]:bm)else[b])=[b]from if_neg a8];by_cases bo:ru b.toNat=ah;rotate_left
   ·rw[Iq]at bo;rw[if_pos (.inl ⟨a8,bo⟩)];unfold qL;refine bE rr ?_;simp(disch:=omega)only[aw,simprocAttr,lL,d_,bN,ir,nB,mR,mS,oB,nz,cA,eK,nE,mQ,mT,bA,a8,bo,mc];exact be
   by_cases p:l.length=1
   ·obtain⟨n,xL⟩:∃n,l=[n]:=Ym.1 p;have ir:(cc l)[0]?=j [.v (.int .i64 n)]:=by rw[xL];rfl
    by_cases aI:n=-1
    ·subst aI;refine bE rr ?_;rw[if_pos (.inr (.inr xL))];unfold qL;simp(disch:=omega)only[aw,simprocAttr,lL,d_,bN,ir,nB,mR,mS,oB,nz,cA,eK,nE,mQ,mT,bA,a8,bo,mc];exact be
    ·have iL:l≠[-1]:=λ h=>aI (by rw[xL]at h;simpa using h)
     clear xL;rw[if_neg (by rintro(h|h|h)<;>first|exact absurd rfl h.1|(cases h;done)|exact iL h|(rw[bo]at h;cases h.2))];unfold qL;refine bE rr ?_;cases qM:l.any nF with
   |true=>rw[if_pos rfl];simp(disch:=omega)only[aw,simprocAttr,lL,d_,bN,ir,nB,mR,mS,oB,nz,cA,eK,nE,mQ,mT,bA,a8,bo,aI,qM,mc];exact be
   |false=>
    rw[if_neg aX];cases ll:kQ l s with
    |false=>rw[if_pos rfl];simp(disch:=omega)only[aw,simprocAttr,lL,d_,bN,ir,nB,mR,mS,oB,nz,cA,eK,nE,mQ,mT,bA,a8,bo,aI,qM,ll,mc];exact be
    |true=>
     rw[if_neg aX];have sO:=sO ll;have TJ:=Fs ll;have hlen:([b]++fmtG ah l).length≤21*l.length+1:=by have:=IV l ah (zW ll);simp only[dK,db];omega
     generalize [b]++fmtG ah l=out at*;simp(disch:=omega)only[aw,simprocAttr,lL,d_,bN,ir,nB,mR,mS,oB,nz,cA,eK,nE,mQ,mT,bA,a8,bo,aI,qM,ll,sO,mc];exact be
   ·have iL:l≠[-1]:=λ h=>p (by rw[h];rfl)
    have ir:=trivial;have gw:¬(l.length:Int)=1:=by omega
    rw[if_neg (by rintro(h|h|h)<;>first|exact absurd rfl h.1|(cases h;done)|exact iL h|(rw[bo]at h;cases h.2))];unfold qL;refine bE rr ?_;cases qM:l.any nF with
   |true=>rw[if_pos rfl];simp(disch:=omega)only[aw,simprocAttr,lL,d_,bN,ir,nB,mR,mS,oB,nz,cA,eK,nE,mQ,mT,bA,a8,bo,gw,qM,mc];exact be
   |false=>
    rw[if_neg aX];cases ll:kQ l s with
    |false=>rw[if_pos rfl];simp(disch:=omega)only[aw,simprocAttr,lL,d_,bN,ir,nB,mR,mS,oB,nz,cA,eK,nE,mQ,mT,bA,a8,bo,gw,qM,ll,mc];exact be
    |true=>
     rw[if_neg aX];have sO:=sO ll;have TJ:=Fs ll;have hlen:([b]++fmtG ah l).length≤21*l.length+1:=by have:=IV l ah (zW ll);simp only[dK,db];omega
     generalize [b]++fmtG ah l=out at*;simp(disch:=omega)only[aw,simprocAttr,lL,d_,bN,ir,nB,mR,mS,oB,nz,cA,eK,nE,mQ,mT,bA,a8,bo,gw,qM,ll,sO,mc];exact be
def aNW(I:Int)(ax:0≤I∧I<256)(l:bX)(s:bm)(ao:(l.length:Int)<9223372036854775808)(aU:(s.length:Int)<9223372036854775808)(H:ab):
 cF 130 [.i (.v (.int .u8 I)),.i (.af 1 (cc l) J),.i (.str s)] H (qL (p2 I l s)):=hF rfl rfl rfl (aNV I ax l s ao aU)
def b8(l:bX)(i d:Int):Int:=if i<0 then d else if l.length≤i then d else if l.getD i.toNat 0≤0 then d else l.getD i.toNat 0
def kX(l:bX)(i d:Int)(ao:l.length<100000)(H:ab):cF 155 [.i (.af 1 (cc l) J),i,d] H (↑(b8 l i d)):=cI (by
 unfold b8;by_cases p:i<0
 ·rw[if_pos p];refine bE Ig ?_;simp(disch:=omega)only[aw,simprocAttr,Mn,bN,cA];exact be
 ·rw[if_neg p];by_cases U:(l.length:Int)≤i
  ·rw[if_pos U];refine bE Ig ?_;simp(disch:=omega)only[aw,simprocAttr,Mn,bN,cA];exact be
  ·rw[if_neg U];have bg:i.toNat<l.length:=aa;have b2:=BR bg;have aR:l.getD i.toNat 0=l[i.toNat]:=by simp[IW,bg]
   rw[aR];generalize l[i.toNat]=n at*;by_cases az:n≤0
   ·rw[if_pos az];refine bE Ig ?_;simp(disch:=omega)only[aw,simprocAttr,Mn,bN,cA,b2];exact be
   ·rw[if_neg az];refine bE Ig ?_;simp(disch:=omega)only[aw,simprocAttr,Mn,bN,cA,b2];exact be)
def ajb(m:M)(ag ai:Nat):cP (bD [0,1,2]) (aW m 1 ag 2 ai)=aW m 1 ag 2 ai:=rfl
def sP(m:M)(c:Int):M:={m with aJ:={m.aJ with c:=c,I:=J}}
def oF(f:lh→Int→Int):Nat→M→M
 |0,m=>m
 |k+1,m=>oF f k (sP m (f m.c9 m.aJ.c))
def ajc{l:lh}(ao:1≤l.length)(c:Int):0≤pc l c∧pc l c<l.length:=by
 unfold pc;cases h:xF l 0 c with
 |none=>simp only;omega
 |some k=>have:=aiz h;simp only;omega
def aNX{l:lh}(ao:1≤l.length){c:Int}(aj:0≤c∧c<l.length):0≤rz l c∧rz l c<l.length:=by unfold rz;have:=aiB l (min l.length (max c 0).toNat);omega
def bt.bk{m:M}(h:bt m){c:Int}(aj:0≤c∧c<m.w):bt (sP m c):=h.kx ⟨h.aJ.1,aj,aX⟩
def aNY(N:Nat)(ot:N≤132)(ag aH ai aL:Nat)(x y:c0):∀(k:Nat) (m:M) (ac:Nat),m.c9.length≤1000→ac+k=N→
  ew E 3 172 (fu f172 0) [(0,.ptr 0 0 0 0),(2,.aS (.func 100) [] []),(13,.i (.v (.int .i64 (N)))),(14,.i (.v (.int .i64 (ac))))] [.box (aW m 1 ag 2 ai),.aE 5 ag aH x,.aE 5 ai aL y]=
   j (.exit 0,[(0,.ptr 0 0 0 0),(2,.aS (.func 100) [] []),(13,.i (.v (.int .i64 (N)))),(14,.i (.v (.int .i64 (N)))),(15,.i (.v (.bool (J))))],[.box (aW (oF pc k m) 1 ag 2 ai),.aE 5 ag aH x,.aE 5 ai aL y]):=by
 intro k;induction k with
 |zero=>
  intro m ac bA bc;obtain rfl:ac=N:=by omega
  rw[cO zs 0];simp(disch:=omega)only[aw,simprocAttr,EM,fI,b1,b7,bV,EU];rfl
 |succ k a'=>
  intro m ac bA bc;have e:=a' (sP m (pc m.c9 m.aJ.c)) (ac+1) bA aa;have ar:=λ H=>aiA m.c9 m.aJ.c bA H
  have aM:=λ c=>Nk (m:=m) (a:=0) (b:=1) (ag:=ag) (ai:=ai) (T:=[.aE 5 ag aH x,.aE 5 ai aL y]) rfl rfl bU c
  simp only[cJ,dl]at aM;refine gB ?_ e;unfold sP;clear e a';rw[cO zs 0];simp(disch:=omega)only[aw,simprocAttr,EM,fI,b1,b7,bV,aeE,ar,aM,EU];rfl
def aNZ(N:Nat)(ot:N≤132)(ag aH ai aL:Nat)(x y:c0):∀(k:Nat) (m:M) (ac:Nat),m.c9.length≤1000→ac+k=N→
  ew E 3 172 (fu f172 0) [(0,.ptr 0 0 0 0),(2,.aS (.func 174) [] []),(13,.i (.v (.int .i64 (N)))),(14,.i (.v (.int .i64 (ac))))] [.box (aW m 1 ag 2 ai),.aE 5 ag aH x,.aE 5 ai aL y]=
   j (.exit 0,[(0,.ptr 0 0 0 0),(2,.aS (.func 174) [] []),(13,.i (.v (.int .i64 (N)))),(14,.i (.v (.int .i64 (N)))),(15,.i (.v (.bool (J))))],[.box (aW (oF rz k m) 1 ag 2 ai),.aE 5 ag aH x,.aE 5 ai aL y]):=by
 intro k;induction k with
 |zero=>
  intro m ac bA bc;obtain rfl:ac=N:=by omega
  rw[cO zs 0];simp(disch:=omega)only[aw,simprocAttr,EM,fI,b1,b7,bV,EU];rfl
 |succ k a'=>
  intro m ac bA bc;have e:=a' (sP m (rz m.c9 m.aJ.c)) (ac+1) bA aa;have ar:=λ H=>aL_ m.c9 m.aJ.c bA H
  have aM:=λ c=>Nk (m:=m) (a:=0) (b:=1) (ag:=ag) (ai:=ai) (T:=[.aE 5 ag aH x,.aE 5 ai aL y]) rfl rfl bU c
  simp only[cJ,dl]at aM;refine gB ?_ e;unfold sP;clear e a';rw[cO zs 0];simp(disch:=omega)only[aw,simprocAttr,EM,fI,b1,b7,bV,aFt,ar,aM,EU];rfl
def bt.ajd:∀(k:Nat) {m:M},bt m→bt (oF pc k m)
 |0,_,h=>h
 |k+1,m,h=>bt.ajd k (h.bk (by have p:=h.c9;have U:=h.w;have:=ajc (l:=m.c9) aa m.aJ.c;omega))
def bt.aje:∀(k:Nat) {m:M},bt m→bt (oF rz k m)
 |0,_,h=>h
 |k+1,m,h=>bt.aje k (h.bk (by have p:=h.c9;have U:=h.w;have:=aNX (l:=m.c9) aa (c:=m.aJ.c) (by have:=h.aJ.2.1;omega);omega))
def TK(f:lh→Int→Int):∀(k:Nat) (m:M),(oF f k m).G=m.G∧(oF f k m).O=m.O
 |0,m=>⟨rfl,rfl⟩
 |k+1,m=>TK f k _
def aN0{m:M}(hm:bt m)(n:Nat)(aI:n<1000000):h4 172 [.i (.v (.int .i64 (n))),.aS (.func 100) [] []] m (.bl []) (oF pc (min n m.w) m):=by
 intro ag aH ai aL;have hw:=hm.w;have bA:=hm.c9;have ao:=aNY (min n m.w) aa ag aH ai aL (a7 m.G) (a7 m.O) (min n m.w) m 0 aa aa;have A0:min (n:Int) (m.w:Int)=((min n m.w:Nat):Int):=by omega
 have qo:=TK pc (min n m.w) m;simp only[gO]at ao;generalize min n m.w=N at*;generalize oF pc N m=b6 at*;rw[bz zs];simp(disch:=first|omega|(simp only[cR];omega))only[aw,simprocAttr,EM,fI,b1,b7,bV,ajb,A0,ao,EU];refine⟨_,rfl,?_⟩;rw[←qo.1,←qo.2];exact eD.eb
def aN1{m:M}(hm:bt m)(n:Nat)(aI:n<1000000):h4 172 [.i (.v (.int .i64 (n))),.aS (.func 174) [] []] m (.bl []) (oF rz (min n m.w) m):=by
 intro ag aH ai aL;have hw:=hm.w;have bA:=hm.c9;have ao:=aNZ (min n m.w) aa ag aH ai aL (a7 m.G) (a7 m.O) (min n m.w) m 0 aa aa;have A0:min (n:Int) (m.w:Int)=((min n m.w:Nat):Int):=by omega
 have qo:=TK rz (min n m.w) m;simp only[gO]at ao;generalize min n m.w=N at*;generalize oF rz N m=b6 at*;rw[bz zs];simp(disch:=first|omega|(simp only[cR];omega))only[aw,simprocAttr,EM,fI,b1,b7,bV,ajb,A0,ao,EU];refine⟨_,rfl,?_⟩;rw[←qo.1,←qo.2];exact eD.eb
def Ca(m:M)(n:Int):M:=if n=0 then{m with c9:=m.c9.set m.aJ.c.toNat J}else if n=3 then{m with c9:=cH m.w J}else m
def bt.TL{m:M}(h:bt m){l:lh}(ao:l.length=m.w):bt {m with c9:=l}:=
 {w:=h.w,h:=h.h,G:=h.G,O:=h.O,aJ:=h.aJ,b3:=h.b3,a:=h.a,aH:=h.aH,dm:=h.dm,c9:=ao,back:=h.back,bO:=h.bO,iF:=h.iF,eX:=h.eX,dL:=h.dL}
def bt.TM{m:M}(h:bt m){n:Int}:bt (Ca m n):=by
 unfold Ca;split
 ·exact h.TL (by rw[kl];exact h.c9)
 ·split
  ·exact h.TL mG
  ·exact h
def aN2{m:M}(hm:bt m)(n:Int):h4 182 [.i (.v (.int .i64 (n)))] m (.bl []) (Ca m n):=by
 intro ag aH ai aL;have aj:=hm.aJ.2.1;obtain⟨c,fA⟩:=jC aj.1;have hw:=hm.w;have bA:=hm.c9;unfold Ca;by_cases a8:n=0
 ·subst a8;rw[if_pos rfl,fA,ny];have ar:=λ H=>aiC m.c9 c aa aa J H
  rw[←fA]at ar;rw[bz Mr];simp(disch:=omega)only[aw,simprocAttr,Sn,fI,b1,b7,bV,ar];exact⟨_,rfl,eD.eb⟩
 ·rw[if_neg a8];by_cases az:n=3
  ·subst az;rw[if_pos rfl];have yy:cH m.w [bx.v (.bool J)]=eZ (cH m.w J):=by simp[eZ]
   have fM:(eZ (cH m.w J)).length=m.w:=by rw[n5,mG]
   generalize cH m.w J=a1 at*;rw[bz Mr];simp(disch:=omega)only[aw,simprocAttr,Sn,fI,b1,b7,bV,yy];refine⟨_,rfl,?_⟩;exact eD.eb
  ·rw[if_neg az];rw[bz Mr];simp(disch:=omega)only[aw,simprocAttr,Sn,fI,b1,b7,bV];exact⟨_,rfl,eD.eb⟩
def TN(m:M)(n:Int):bm:=if n=5 then[27,91,48,110]else if n=6 then[27,91]++Bt (if m.md.dq=ah then m.aJ.r+1-m.cW else m.aJ.r+1)++[59]++Bt (m.aJ.c+1)++[82]else[]
def Cb(m:M)(n:Int):M:=if m.dL.length+(TN m n).length≤1000 then{m with dL:=m.dL++TN m n}else m
def bt.TO{m:M}(h:bt m){n:Int}:bt (Cb m n):=by
 unfold Cb;split
 next p=>exact{w:=h.w,h:=h.h,G:=h.G,O:=h.O,aJ:=h.aJ,b3:=h.b3,a:=h.a,aH:=h.aH,dm:=h.dm,c9:=h.c9,back:=h.back,bO:=h.bO,iF:=h.iF,eX:=h.eX,dL:=by rw[dK];exact p}
 ·exact h
def TP(n:Int)(h:-9223372036854775808≤n∧n≤9223372036854775807)(H:ab):cF 214 [n] H (.i (.str (Bt n))):=
 LB (show E.ext 214=j zd from rfl) rfl rfl ⟨[],by simp only[zd];rw[if_pos h]⟩
def aN3{m:M}(hm:bt m)(n:Int):h4 183 [.i (.v (.int .i64 (n)))] m (.bl []) (Cb m n):=by
 intro ag aH ai aL;have aj:=hm.aJ;have hw:=hm.w;have aV:=hm.h;have bA:=hm.dm;have ak:=hm.dL;unfold Cb TN;by_cases bF:n=5
 ·subst bF;simp only[if_true];by_cases ao:m.dL.length+[27,91,48,(110:UInt8)].length≤1000
  ·rw[if_pos ao];simp only[db]at ao;rw[bz zt];simp(disch:=omega)only[aw,simprocAttr,BM,b1,b7,bV];exact⟨_,rfl,eD.eb⟩
  ·rw[if_neg ao];simp only[db]at ao;rw[bz zt];simp(disch:=omega)only[aw,simprocAttr,BM,b1,b7,bV];exact⟨_,rfl,eD.eb⟩
 ·rw[if_neg bF];by_cases dN:n=6
  ·subst dN;rw[if_pos rfl];have aM:=λ H=>TP (m.aJ.c+1) aa H
   have fh:=Lib.itoa_length_le (m.aJ.c+1) aa aa;cases Nw:m.md.dq with
   |false=>
    simp only[gk,if_false];have ar:=λ H=>TP (m.aJ.r+1) aa H
    have dt:=Lib.itoa_length_le (m.aJ.r+1) aa aa;generalize Bt (m.aJ.r+1)=s1 at*;generalize Bt (m.aJ.c+1)=s2 at*;by_cases ao:m.dL.length+([27,91]++s1++[59]++s2++[(82:UInt8)]).length≤1000
    ·rw[if_pos ao];simp only[dK,db]at ao;rw[bz zt];simp(disch:=omega)only[aw,simprocAttr,BM,b1,b7,bV,Nw,ar,aM];exact⟨_,rfl,eD.eb⟩
    ·rw[if_neg ao];simp only[dK,db]at ao;rw[bz zt];simp(disch:=omega)only[aw,simprocAttr,BM,b1,b7,bV,Nw,ar,aM];exact⟨_,rfl,eD.eb⟩
   |true=>
    simp only[if_true];have ar:=λ H=>TP (m.aJ.r+1-m.cW) aa H
    have dt:=Lib.itoa_length_le (m.aJ.r+1-m.cW) aa aa;generalize Bt (m.aJ.r+1-m.cW)=s1 at*;generalize Bt (m.aJ.c+1)=s2 at*;by_cases ao:m.dL.length+([27,91]++s1++[59]++s2++[(82:UInt8)]).length≤1000
    ·rw[if_pos ao];simp only[dK,db]at ao;rw[bz zt];simp(disch:=omega)only[aw,simprocAttr,BM,b1,b7,bV,Nw,ar,aM];exact⟨_,rfl,eD.eb⟩
    ·rw[if_neg ao];simp only[dK,db]at ao;rw[bz zt];simp(disch:=omega)only[aw,simprocAttr,BM,b1,b7,bV,Nw,ar,aM];exact⟨_,rfl,eD.eb⟩
  ·rw[if_neg dN];rw[if_pos (by simpa using ak),dC];rw[bz zt];simp(disch:=omega)only[aw,simprocAttr,BM,b1,b7,bV,dC];exact⟨_,rfl,eD.eb⟩
def ajf{l:bX}{i d:Int}(h:1≤d):1≤b8 l i d:=by
 unfold b8
 repeat' split
 all_goals omega
def Ft(m:M)(l:bX):M:=if b8 l 0 1<min (b8 l 1 m.h) m.h then{m with cW:=b8 l 0 1-1,ck:=min (b8 l 1 m.h) m.h,aJ:=⟨toR 1 (cx {m with cW:=b8 l 0 1-1,ck:=min (b8 l 1 m.h) m.h}),lS 1 (cx {m with cW:=b8 l 0 1-1,ck:=min (b8 l 1 m.h) m.h}),J⟩}else m
def bt.ajg{m:M}(h:bt m){t b:Int}(ao:0≤t∧t<b∧b≤m.h):bt {m with cW:=t,ck:=b}:=
 {w:=h.w,h:=h.h,G:=h.G,O:=h.O,aJ:=h.aJ,b3:=h.b3,a:=h.a,aH:=h.aH,dm:=ao,c9:=h.c9,back:=h.back,bO:=h.bO,iF:=h.iF,eX:=h.eX,dL:=h.dL}
def bt.TQ{m:M}(h:bt m){l:bX}:bt (Ft m l):=by
 unfold Ft;split
 ·have p:=ajf (l:=l) (i:=0) (show(1:Int)≤1 by omega);have U:=h.ajg (t:=b8 l 0 1-1) (b:=min (b8 l 1 m.h) m.h) aa;exact U.kx (IQ 1 1 U)
 ·exact h
def aN4{m:M}(hm:bt m)(l:bX)(ao:l.length<100000):h4 184 [.i (.af 1 (cc l) J)] m (.bl []) (Ft m l):=by
 intro ag aH ai aL;have p:=ajf (l:=l) (i:=0) (show(1:Int)≤1 by omega);have aV:=hm.h;have ar:=λ H=>kX l 0 1 ao H
 have aM:=λ H=>kX l 1 m.h ao H
 unfold Ft;have aU:b8 l 0 1<min (b8 l 1 m.h) m.h→bt {m with cW:=b8 l 0 1-1,ck:=min (b8 l 1 m.h) m.h}:=λ h=>hm.ajg aa
 generalize b8 l 0 1=I at*;generalize b8 l 1 m.h=q at*;by_cases bg:I<min q (m.h:Int)
 ·rw[if_pos bg];have hk:=aU bg;have bZ:=aiK (m:={m with cW:=I-1,ck:=min q m.h}) (a:=0) (b:=1) (ag:=ag) (ai:=ai) (T:=[.aE 5 ag aH (a7 m.G),.aE 5 ai aL (a7 m.O)]) rfl rfl bU hk.cx 1 1;simp only[cJ,dl]at bZ;rw[bz Ms];simp(disch:=omega)only[aw,simprocAttr,agL,bN,b1,b7,bV,ar,aM,bZ,bg];exact⟨_,rfl,eD.eb⟩
 ·rw[if_neg bg];rw[bz Ms];simp(disch:=omega)only[aw,simprocAttr,agL,bN,b1,b7,bV,ar,aM,bg];exact⟨_,rfl,eD.eb⟩
def Cc(k:Nat):Int:=[1,2,3,4,5,7,8,9].getD k 0
def aN5(k:Nat)(h:k<8):([.i (.v (.int .i64 (1))),.i (.v (.int .i64 (2))),.i (.v (.int .i64 (3))),.i (.v (.int .i64 (4))),.i (.v (.int .i64 (5))),.i (.v (.int .i64 (7))),.i (.v (.int .i64 (8))),.i (.v (.int .i64 (9)))]:aZ)[k*1]?=j (.i (.v (.int .i64 (Cc k)))):=by
 match k,h with
 |0,_|1,_|2,_|3,_|4,_|5,_|6,_|7,_=>rfl
def uP(n:Int):Int×Int:=
 if n=1 then(1,0)else if n=2 then(2,0)else if n=3 then(4,0)else if n=4 then(8,0)else if n=5 then(16,0)else if n=7 then(32,0)else if n=8 then(64,0)else if n=9 then(128,0)else
 if n=22 then(0,3)else if n=23 then(0,4)else if n=24 then(0,8)else if n=25 then(0,16)else if n=27 then(0,32)else if n=28 then(0,64)else if n=29 then(0,128)else(0,0)
def aN6(n:Int)(an:0≤n∧n≤1000000)(aI:∀k<8,¬n=Cc k∧¬n=20+Cc k):∀m k:Nat,k+m=8→
  ie EJ 0 [(0,n),(3,↑(0:Int)),(6,.agg [↑(1:Int),↑(2:Int),↑(3:Int),↑(4:Int),↑(5:Int),↑(7:Int),↑(8:Int),↑(9:Int)]),(7,k)] [] 0 [(0,n),(3,↑(0:Int)),(6,.agg [↑(1:Int),↑(2:Int),↑(3:Int),↑(4:Int),↑(5:Int),↑(7:Int),↑(8:Int),↑(9:Int)]),(7,↑(8:Int)),(8,J)] []:=by
 intro m;induction m with
 |zero=>intro k aA;obtain rfl:k=8:=aa;refine(cO EJ 0).trans ?_;simp(disch:=omega)only[aw,simprocAttr,Si,SK]
 |succ m a'=>
  intro k aA;have hU:k<8:=aa;have aB:=aN5 k hU;obtain⟨p,U⟩:=aI k hU;have aj:0≤Cc k∧Cc k≤9:=by
   match k,hU with
   |0,_|1,_|2,_|3,_|4,_|5,_|6,_|7,_=>decide
  have e:=a' (k+1) aa;refine gB ?_ e;clear e a' aI;generalize Cc k=c at*;refine(cO EJ 0).trans ?_;simp(disch:=omega)only[aw,simprocAttr,Si,aB,p,U,SK]
def aN7{n a b:Int}(h:(match call E 200 151 [.i (.v (.int .i64 (n)))] []with|some (.bl [.i (.v (.int .i64 x)),.i (.v (.int .i64 y))],_)=>decide (x=a) &&decide (y=b)|_=>J)=ah):gV 151 [n] (.bl [a,b]):=by
 split at h
 next x y L fl=>simp only[c',decide_eq_true_eq]at h;obtain⟨rfl,rfl⟩:=h;exact⟨L,YA fl⟩
 ·cases h
def aN8(n:Int)(an:0≤n∧n≤1000000):gV 151 [n] (.bl [↑((uP n).1),↑((uP n).2)]):=by
 by_cases h:n=1∨n=2∨n=3∨n=4∨n=5∨n=7∨n=8∨n=9∨n=21∨n=22∨n=23∨n=24∨n=25∨n=27∨n=28∨n=29
 ·rcases h with rfl|rfl|rfl|rfl|rfl|rfl|rfl|rfl|rfl|rfl|rfl|rfl|rfl|rfl|rfl|rfl<;>exact aN7 aK
 ·have aN:uP n=(0,0):=by
   unfold uP
   repeat' (rw[if_neg aa])
  rw[aN];have ao:=aN6 n an (λ k aA=>by
   match k,aA with
   |0,_|1,_|2,_|3,_|4,_|5,_|6,_|7,_=>simp[Cc];omega) 8 0 aa
  simp only[gO]at ao;have aN9:¬n=22:=aa;refine bE EJ ?_;simp(disch:=omega)only[aw,simprocAttr,Si,ao,aN9,HS,SK];exact be
def aN_(n:Int)(an:0≤n∧n≤1000000)(H:ab):cF 151 [n] H (.bl [↑((uP n).1),↑((uP n).2)]):=hF rfl rfl rfl (aN8 n an)
def pd(n b:Int):Int×Bool:=if 0≤n-b∧n-b≤7 then(n-b,ah)else if 60≤n-b∧n-b≤67 then(n-b-52,ah)else if n-b=9 then(-1,ah)else(0,J)
def ajh(n b:Int)(aI:0≤n∧n≤1000000)(an:0≤b∧b≤100)(H:ab):cF 152 [n,b] H (.bl [↑((pd n b).1),↑((pd n b).2)]):=cI (by
 have hw:ni.wrap (n-b)=n-b:=Y3 aa aa;unfold pd;generalize aA:n-b=k at*;have aVy:-100≤k∧k≤1000000:=aa;clear hw aI an;by_cases p:0≤k∧k≤7
 ·rw[if_pos p];refine bE BL ?_;simp(disch:=omega)only[aw,simprocAttr,EK,aA];exact be
 ·rw[if_neg p];by_cases U:60≤k∧k≤67
  ·rw[if_pos U];refine bE BL ?_;simp(disch:=omega)only[aw,simprocAttr,EK,aA];exact be
  ·rw[if_neg U];by_cases az:k=9
   ·rw[if_pos az];refine bE BL ?_;simp(disch:=omega)only[aw,simprocAttr,EK,aA];exact be
   ·rw[if_neg az];by_cases bh:k<0
    ·refine bE BL ?_;simp(disch:=omega)only[aw,simprocAttr,EK,aA];exact be
    ·by_cases bF:k<60
     ·have dN:7<k:=aa;refine bE BL ?_;simp(disch:=omega)only[aw,simprocAttr,EK,aA];exact be
     ·have dN:67<k:=aa;refine bE BL ?_;simp(disch:=omega)only[aw,simprocAttr,EK,aA];exact be)
def aji(H:ab):cF 16 [] H (.agg [↑(-1:Int),↑(-1:Int),↑(0:Int)]):=cI (by
 refine bE afo ?_;simp(disch:=omega)only[aw,simprocAttr,aHB];exact be)
def Nx{a:eA}(h:iv a=ah):(-1≤a.cX∧a.cX≤255)∧(-1≤a.bd∧a.bd≤255)∧0≤a.co∧a.co≤255:=by simp only[iv,c',decide_eq_true_eq]at h;exact⟨h.1.1,h.1.2,h.2⟩
def TR{a:eA}(h:iv a=ah)(H:ab):cF 30 [.agg [a.cX,a.bd,a.co]] H (↑(0:Int)):=cI (by
 obtain⟨⟨p,U⟩,⟨az,bh⟩,bF,dN⟩:=Nx h;have fh:ew E 0 30 (fu f30 0) [(1,.ptr 0 0 0 0),(9,.agg [.i (.v (.int .i64 (a.cX))),.i (.v (.int .i64 (a.bd)))]),(10,.i (.v (.int .i64 (2))))] [.box [.i (.v (.int .i64 (a.cX))),.i (.v (.int .i64 (a.bd))),.i (.v (.int .i64 (a.co)))]]=j (.exit 0,[(1,.ptr 0 0 0 0),(9,.agg [.i (.v (.int .i64 (a.cX))),.i (.v (.int .i64 (a.bd)))]),(10,.i (.v (.int .i64 (2)))),(11,.i (.v (.bool (J))))],[.box [.i (.v (.int .i64 (a.cX))),.i (.v (.int .i64 (a.bd))),.i (.v (.int .i64 (a.co)))]]):=by rw[cO Ep 0];simp(disch:=omega)only[aw,simprocAttr,L9,Mw]
 have dt:ew E 0 30 (fu f30 0) [(1,.ptr 0 0 0 0),(9,.agg [.i (.v (.int .i64 (a.cX))),.i (.v (.int .i64 (a.bd)))]),(10,.i (.v (.int .i64 (1))))] [.box [.i (.v (.int .i64 (a.cX))),.i (.v (.int .i64 (a.bd))),.i (.v (.int .i64 (a.co)))]]=j (.exit 0,[(1,.ptr 0 0 0 0),(9,.agg [.i (.v (.int .i64 (a.cX))),.i (.v (.int .i64 (a.bd)))]),(10,.i (.v (.int .i64 (2)))),(11,.i (.v (.bool (J))))],[.box [.i (.v (.int .i64 (a.cX))),.i (.v (.int .i64 (a.bd))),.i (.v (.int .i64 (a.co)))]]):=by refine gB ?_ fh;rw[cO Ep 0];simp(disch:=omega)only[aw,simprocAttr,L9,Mw]
 have pt:ew E 0 30 (fu f30 0) [(1,.ptr 0 0 0 0),(9,.agg [.i (.v (.int .i64 (a.cX))),.i (.v (.int .i64 (a.bd)))]),(10,.i (.v (.int .i64 (0))))] [.box [.i (.v (.int .i64 (a.cX))),.i (.v (.int .i64 (a.bd))),.i (.v (.int .i64 (a.co)))]]=j (.exit 0,[(1,.ptr 0 0 0 0),(9,.agg [.i (.v (.int .i64 (a.cX))),.i (.v (.int .i64 (a.bd)))]),(10,.i (.v (.int .i64 (2)))),(11,.i (.v (.bool (J))))],[.box [.i (.v (.int .i64 (a.cX))),.i (.v (.int .i64 (a.bd))),.i (.v (.int .i64 (a.co)))]]):=by refine gB ?_ dt;rw[cO Ep 0];simp(disch:=omega)only[aw,simprocAttr,L9,Mw]
 clear dt fh;refine bE Ep ?_;simp(disch:=omega)only[aw,simprocAttr,L9,pt,Mw];exact be)
def xM(a:Int)(l:bX):cc (a::l)=[.v (.int .i64 a)]::cc l:=rfl
def hh:bX→Int×Int
 |a::b::l=>if a=5∧b≤255 then(b,2)else match l with
  |c::d::_=>if a=2∧max b (max c d)≤255 then(16+36*(b*5).tdiv 255+6*(c*5).tdiv 255+(d*5).tdiv 255,4)else(0,0)
  |_=>(0,0)
 |_=>(0,0)
def Fu{b:Int}(h:0≤b∧b≤255):0≤(b*5).tdiv 255∧(b*5).tdiv 255≤5:=by rw[Int.tdiv_eq_ediv_of_nonneg aa];omega
def aN'(l:bX)(ao:l.length≤100000)(ax:∀x∈l,0≤x∧x≤1000000)(H:ab):cF 150 [.i (.af 1 (cc l) J)] H (.bl [↑((hh l).1),↑((hh l).2)]):=cI (by
 match l,ao,ax with
 |[],ao,ax=>refine bE uD ?_;simp(disch:=omega)only[aw,simprocAttr,vL,bN,cA,show cc []=[]from rfl];exact be
 |[a],ao,ax=>refine bE uD ?_;simp(disch:=omega)only[aw,simprocAttr,vL,bN,cA,xM,show cc []=[]from rfl];exact be
 |a::b::l,ao,ax=>
  have p:=ax a aX;have U:=ax b aX;have iz:(l.length:Int)≤100000:=by simp at ao;omega
  by_cases bF:a=5∧b≤255
  ·simp only[hh,if_pos bF];obtain⟨rfl,bF⟩:=bF;refine bE uD ?_;simp(disch:=omega)only[aw,simprocAttr,vL,bN,cA,xM];exact be
  ·by_cases aF:a=5
   ·have an:¬b≤255:=λ h=>bF ⟨aF,h⟩
    have e:hh (a::b::l)=(0,0):=by
     subst aF;cases l with
     |nil=>simp[hh,an]
     |cons c r=>cases r<;>simp[hh,an]
    rw[e];subst aF;by_cases aVz:(2:Int)≤l.length
    ·refine bE uD ?_;simp(disch:=omega)only[aw,simprocAttr,vL,bN,cA,xM];exact be
    ·refine bE uD ?_;simp(disch:=omega)only[aw,simprocAttr,vL,bN,cA,xM];exact be
   ·rcases l with _|⟨c,_|⟨d,r⟩⟩
    ·have e:hh [a,b]=(0,0):=by simp[hh,aF]
     rw[e];refine bE uD ?_;simp(disch:=omega)only[aw,simprocAttr,vL,bN,cA,xM,show cc []=[]from rfl];exact be
    ·have e:hh [a,b,c]=(0,0):=by simp[hh,aF]
     rw[e];refine bE uD ?_;simp(disch:=omega)only[aw,simprocAttr,vL,bN,cA,xM,show cc []=[]from rfl];exact be
    ·have az:=ax c aX;have bh:=ax d aX;have Kw:(r.length:Int)≤100000:=by simp at ao;omega
     by_cases U:a=2∧max b (max c d)≤255
     ·have e:hh (a::b::c::d::r)=(16+36*(b*5).tdiv 255+6*(c*5).tdiv 255+(d*5).tdiv 255,4):=by simp only[hh,aF,false_and,if_false,if_pos U]
      rw[e];obtain⟨rfl,U⟩:=U;have cy:=Fu (b:=b) aa;have cN:=Fu (b:=c) aa;have fy:=Fu (b:=d) aa;refine bE uD ?_;simp(disch:=omega)only[aw,simprocAttr,vL,bN,cA,xM];exact be
     ·have e:hh (a::b::c::d::r)=(0,0):=by simp only[hh,aF,false_and,if_false,if_neg U]
      rw[e];by_cases xx:a=2
      ·subst xx;have an:¬max b (max c d)≤255:=λ h=>U ⟨rfl,h⟩
       refine bE uD ?_;simp(disch:=omega)only[aw,simprocAttr,vL,bN,cA,xM];exact be
      ·refine bE uD ?_;simp(disch:=omega)only[aw,simprocAttr,vL,bN,cA,xM];exact be)
def ln(l:bX):bX:=l.map λ n=>max n 0
def aOa{l:bX}{k:Nat}(h:k<l.length):ln (l.take k)++[max l[k] 0]=ln (l.take (k+1)):=by rw[Iz h];simp only[ln,pW,fC,fN]
def TS(l:bX):(ln l).length=l.length:=by simp[ln]
def aOb(a:eA)(l:bX)(ao:l.length≤100000)(an:∀x∈l,x≤1000000):∀(m k:Nat),k+m=l.length→
  ie pU 0 [(2,.ptr 0 0 0 0),(4,.ptr 1 0 0 0),(5,.ref 2 0 0 k),(22,.i (.af 1 (cc l) J)),(23,l.length),(24,k)] [.box [a.cX,a.bd,a.co],.box [↑(0:Int),↑(0:Int),↑(0:Int)],.af 1 0 (cc (ln (l.take k))) J] 0 [(2,.ptr 0 0 0 0),(4,.ptr 1 0 0 0),(5,.ref 2 0 0 l.length),(22,.i (.af 1 (cc l) J)),(23,l.length),(24,l.length),(25,J)] [.box [a.cX,a.bd,a.co],.box [↑(0:Int),↑(0:Int),↑(0:Int)],.af 1 0 (cc (ln l)) J]:=by
 intro m;induction m with
 |zero=>intro k aA;obtain rfl:k=l.length:=aa;rw[Ny];have ap:=cA (ln l);rw[TS]at ap;generalize cc (ln l)=x at*;refine(cO pU 0).trans ?_;simp(disch:=omega)only[aw,simprocAttr,tA,bN,cA,ET]
 |succ m a'=>intro k aA;have bg:k<l.length:=aa;have b2:=BR bg;have aU:=ahj (ln (l.take k)) (max l[k] 0);rw[aOa bg]at aU;have ap:=cA (ln (l.take k));rw[TS,hV,show min k l.length=k by omega]at ap;have fR:=an _ (oi bg);have e:=a' (k+1) aa;refine gB ?_ e;clear e a';generalize cc (ln (l.take (k+1)))=y at*;generalize cc (ln (l.take k))=x at*;generalize l[k]=n at*;refine(cO pU 0).trans ?_;simp(disch:=omega)only[aw,simprocAttr,tA,bN,b2,aU,cA,ET]
def Fv(a b:Int):Int:=ni.wrap ((rO ni.bits a|||rO ni.bits b).toNat:Int)
def Fw(a b:Int):Int:=ni.wrap ((rO ni.bits a &&&~~~rO ni.bits b).toNat:Int)
def aOc(a b:Int):kA .or .i64 a b=j (Fv a b):=rfl
def aOd(a b:Int):kA .andNot .i64 a b=j (Fw a b):=rfl
def Fx(a:eA)(n:Int):eA:=⟨if(pd n 30).2=ah then(pd n 30).1 else a.cX,if(pd n 40).2=ah then(pd n 40).1 else a.bd,Fw (Fv a.co (uP n).1) (uP n).2⟩
def kb:Nat→bX→eA→eA
 |0,_,a=>a
 |_,[],a=>a
 |f+1,n::r,a=>if n=0 then kb f r ⟨-1,-1,0⟩else if n=38∨n=48 then(if(hh r).2=0 then a else kb f (r.drop (hh r).2.toNat) (if n=38 then{a with cX:=(hh r).1}else{a with bd:=(hh r).1}))else kb f r (Fx a n)
def Cd(L:bX)(a:eA)(x:hj):Prop:=
 (∃t:Int,x=j (.exit 2,[(2,.ptr 0 0 0 0),(4,.ptr 1 0 0 0),(5,.i (.af 1 (cc L) J)),(8,.i (.v (.int .i64 (t)))),(43,.i (.v (.bool (J))))],[.box [.i (.v (.int .i64 (a).cX)),.i (.v (.int .i64 (a).bd)),.i (.v (.int .i64 (a).co))],.box [.i (.v (.int .i64 (0))),.i (.v (.int .i64 (0))),.i (.v (.int .i64 (0)))]]))∨
 (∃R,x=j (.ret,(4,.ptr 1 0 0 0)::R,[.box [.i (.v (.int .i64 (a).cX)),.i (.v (.int .i64 (a).bd)),.i (.v (.int .i64 (a).co))],.box [.i (.v (.int .i64 (a).cX)),.i (.v (.int .i64 (a).bd)),.i (.v (.int .i64 (a).co))]]))
def aOe{r:bX}(h:(hh r).2≠0):0<(hh r).2∧(hh r).2≤r.length:=by
 match r with
 |[]=>simp[hh]at h
 |[a]=>simp[hh]at h
 |[a,b]=>simp only[hh]at h⊢;split<;>simp_all
 |[a,b,c]=>simp only[hh]at h⊢;split<;>simp_all
 |a::b::c::d::r=>
  simp only[hh]at h⊢;split
  ·simp;omega
  ·split
   ·simp;omega
   ·simp_all
def aOf(l:bX)(k:Nat):(cc l).drop k=cc (l.drop k):=by simp[cc,tD]
def ajj(L:bX)(ao:L.length≤100001)(an:∀x∈L,0≤x∧x≤1000000):∀(f i:Nat) (a:eA),L.length≤i+f→i≤L.length→
  Cd L (kb f (L.drop i) a) (ew E 0 110 (fu f110 1) [(2,.ptr 0 0 0 0),(4,.ptr 1 0 0 0),(5,.i (.af 1 (cc L) J)),(8,.i (.v (.int .i64 (i))))] [.box [.i (.v (.int .i64 (a).cX)),.i (.v (.int .i64 (a).bd)),.i (.v (.int .i64 (a).co))],.box [.i (.v (.int .i64 (0))),.i (.v (.int .i64 (0))),.i (.v (.int .i64 (0)))]]):=by
 have fin:∀(f:Nat) (a:eA),Cd L (kb f (L.drop L.length) a) (ew E 0 110 (fu f110 1) [(2,.ptr 0 0 0 0),(4,.ptr 1 0 0 0),(5,.i (.af 1 (cc L) J)),(8,.i (.v (.int .i64 (L.length))))] [.box [.i (.v (.int .i64 (a).cX)),.i (.v (.int .i64 (a).bd)),.i (.v (.int .i64 (a).co))],.box [.i (.v (.int .i64 (0))),.i (.v (.int .i64 (0))),.i (.v (.int .i64 (0)))]]):=by
  intro f a;have e:kb f (L.drop L.length) a=a:=by rw[mN];cases f<;>rfl
  rw[e];refine .inl ⟨L.length,?_⟩;rw[cO pU 1];simp(disch:=omega)only[aw,simprocAttr,tA,bN,cA,vO]
 intro f;induction f with
 |zero=>intro i a p U;obtain rfl:i=L.length:=aa;exact fin 0 a
 |succ f a'=>
  intro i a p U;by_cases aB:i=L.length
  ·subst aB;exact fin _ a
  ·have bg:i<L.length:=aa;have b2:=BR bg;have aI:=an _ (oi bg);have aU:1+(i:Int)=((i+1:Nat):Int):=aa;have Fy:(i:Int)+1=((i+1:Nat):Int):=aa;rw[jk bg];generalize L[i]=n at*;by_cases a8:n=0
   ·have e:=a' (i+1) ⟨-1,-1,0⟩ aa aa;have bu:kb (f+1) (n::L.drop (i+1)) a=kb f (L.drop (i+1)) ⟨-1,-1,0⟩:=by rw[kb,if_pos a8]
    rw[bu];subst a8;generalize kb f (L.drop (i+1)) ⟨-1,-1,0⟩=A at*;refine Eq.mp (congrArg (Cd L A) ?_) e;refine Eq.symm ?_;rw[cO pU 1];simp(disch:=omega)only[aw,simprocAttr,tA,bN,b2,aji,cA,vO]
   ·have pw:(L.drop (i+1)).length=L.length-(i+1):=j6;have aP:=aOf L (i+1);have fS:=cA (L.drop (i+1));rw[pw]at fS;by_cases aj:n=38∨n=48
    ·have aM:=λ H=>aN' (L.drop (i+1)) aa (λ x ap=>an x (vW ap)) H
     by_cases hu:(hh (L.drop (i+1))).2=0
     ·have bu:kb (f+1) (n::L.drop (i+1)) a=a:=by rw[kb,if_neg a8,if_pos aj,if_pos hu]
      rw[bu];rw[hu]at aM;refine .inr ?_;generalize (hh (L.drop (i+1))).1=z at*;generalize cc (L.drop (i+1))=a1 at*;rcases aj with aj|aj<;>(
       subst aj;rw[cO pU 1];simp(disch:=omega)only[aw,simprocAttr,tA,bN,b2,aM,aP,cA,vO];exact be)
     ·have hle:=aOe hu;obtain⟨u,DW⟩:=jC (Int.le_of_lt hle.1);have ajk:¬(u:Int)=0:=aa;rw[pw]at hle;have e:=a' (i+u+1) (if n=38 then{a with cX:=(hh (L.drop (i+1))).1}else{a with bd:=(hh (L.drop (i+1))).1}) aa aa;have bu:kb (f+1) (n::L.drop (i+1)) a=kb f (L.drop (i+u+1)) (if n=38 then{a with cX:=(hh (L.drop (i+1))).1}else{a with bd:=(hh (L.drop (i+1))).1}):=by rw[kb,if_neg a8,if_pos aj,if_neg hu,DW,ny,JX,show i+1+u=i+u+1 by omega]
      rw[bu];rw[DW]at aM;have Yg:(i:Int)+u+1=((i+u+1:Nat):Int):=aa;rw[←Yg]at e;generalize (hh (L.drop (i+1))).1=z at*;generalize cc (L.drop (i+1))=a1 at*;rcases aj with aj|aj
      ·subst aj;simp only[if_true]at e⊢;refine Eq.mp (congrArg (Cd L _) ?_) e;refine Eq.symm ?_;rw[cO pU 1];simp(disch:=omega)only[aw,simprocAttr,tA,bN,b2,aM,aP,ajk,cA,vO]
      ·subst aj;simp only[show¬(48:Int)=38 by decide,if_false]at e⊢;refine Eq.mp (congrArg (Cd L _) ?_) e;refine Eq.symm ?_;rw[cO pU 1];simp(disch:=omega)only[aw,simprocAttr,tA,bN,b2,aM,aP,ajk,cA,vO]
    ·have e:=a' (i+1) (Fx a n) aa aa;have bu:kb (f+1) (n::L.drop (i+1)) a=kb f (L.drop (i+1)) (Fx a n):=by rw[kb,if_neg a8,if_neg aj]
     rw[bu];have ar:=λ H=>aN_ n aI H
     have aM:=λ H=>ajh n 30 aI aa H
     have bZ:=λ H=>ajh n 40 aI aa H
     have aOg:¬n=38:=λ h=>aj (.inl h)
     have aVA:¬n=48:=λ h=>aj (.inr h)
     generalize kb f (L.drop (i+1)) (Fx a n)=A at*;refine Eq.mp (congrArg (Cd L A) ?_) e;refine Eq.symm ?_;unfold Fx;generalize uP n=co at*;generalize pd n 30=vn at*;generalize pd n 40=G1 at*;obtain⟨aVB,aOh⟩:=vn;obtain⟨aVC,aOi⟩:=G1;cases aOh<;>cases aOi<;>simp only[if_true,if_false,gk]at aM bZ⊢<;>(
      rw[cO pU 1];simp(disch:=omega)only[aw,simprocAttr,tA,bN,b2,ar,aM,bZ,aOc,aOd,cA,vO])
def tG(a:eA)(l:bX):eA:=if l=[]then kb 1 [0] a else kb l.length (ln l) a
def TT:qD:=[(1,0),(2,0),(4,0),(8,0),(16,0),(32,0),(64,0),(128,0),(0,3),(0,4),(0,8),(0,16),(0,32),(0,64),(0,128),(0,0)]
def aOj{I:Prop} [Decidable I]{a b:Int×Int}{l:qD}(p:a∈l)(U:b∈l):(if I then a else b)∈l:=by split<;>assumption
def aOk(n:Int):uP n∈TT:=by
 unfold uP
 repeat' apply aOj
 all_goals simp[TT]
def aOl:∀a:Nat,a<256→∀I∈TT,0≤Fw (Fv a I.1) I.2∧Fw (Fv a I.1) I.2≤255:=by decide+kernel
def aOm{x y z:Int}(p:-1≤x∧x≤255)(U:-1≤y∧y≤255)(az:0≤z∧z≤255):iv ⟨x,y,z⟩=ah:=by simp only[iv,c',decide_eq_true_eq];omega
def aOn{a:eA}(h:iv a=ah)(n:Int):iv (Fx a n)=ah:=by
 obtain⟨p,U,az⟩:=Nx h;obtain⟨k,aA⟩:=jC az.1;have aN:=aOl k aa _ (aOk n);rw[←aA]at aN;have s1:(pd n 30).2=ah→-1≤(pd n 30).1∧(pd n 30).1≤255:=by
  unfold pd
  repeat' split
  all_goals (simp only;intro h;first|omega|cases h)
 have s2:(pd n 40).2=ah→-1≤(pd n 40).1∧(pd n 40).1≤255:=by
  unfold pd
  repeat' split
  all_goals (simp only;intro h;first|omega|cases h)
 refine aOm ?_ ?_ aN
 ·split
  next h=>exact s1 h
  ·exact p
 ·split
  next h=>exact s2 h
  ·exact U
def aOo{r:bX}(ax:∀x∈r,0≤x)(h:(hh r).2≠0):0≤(hh r).1∧(hh r).1≤255:=by
 match r,ax with
 |[],_=>simp[hh]at h
 |[a],_=>simp[hh]at h
 |[a,b],ax=>have U:=ax b aX;simp only[hh]at h⊢;split<;>simp_all
 |[a,b,c],ax=>have U:=ax b aX;simp only[hh]at h⊢;split<;>simp_all
 |a::b::c::d::r,ax=>
  have U:=ax b aX;have az:=ax c aX;have bh:=ax d aX;simp only[hh]at h⊢;split
  next bF=>exact⟨U,bF.2⟩
  ·split
   next bF=>have cy:=Fu (b:=b) aa;have cN:=Fu (b:=c) aa;have fy:=Fu (b:=d) aa;simp only;omega
   ·exact⟨aX,aX⟩
def IX:∀(f:Nat) (l:bX) (a:eA),(∀x∈l,0≤x)→iv a=ah→iv (kb f l a)=ah
 |0,_,a,_,h=>by cases ‹bX›<;>exact h
 |f+1,[],a,_,h=>h
 |f+1,n::r,a,ax,h=>by
  have qH:∀x∈r,0≤x:=λ x ap=>ax x (vk _ ap)
  rw[kb];split
  ·exact IX f r _ qH bU
  ·split
   ·split
    ·exact h
    next hu=>have aj:=aOo qH hu;obtain⟨p,U,az⟩:=Nx h;refine IX f _ _ (λ x ap=>qH x (vW ap)) ?_;split<;>simp only[iv,c',decide_eq_true_eq]<;>omega
   ·exact IX f r _ qH (aOn h n)
def aOp{a:eA}(h:iv a=ah)(l:bX):iv (tG a l)=ah:=by
 unfold tG;split
 ·exact IX _ _ _ aX h
 ·refine IX _ _ _ (λ x ap=>?_) h;simp only[ln,D0]at ap;obtain⟨y,_,rfl⟩:=ap;omega
def aOq(a:eA)(l:bX)(ao:l.length≤100000)(an:∀x∈l,x≤1000000)(H:ab):cF 110 [.agg [a.cX,a.bd,a.co],.i (.af 1 (cc l) J)] H (.agg [↑((tG a l).cX),↑((tG a l).bd),↑((tG a l).co)]):=cI (by
 have p:=aOb a l ao an l.length 0 aa;simp only[gO,nU,show cc (ln [])=[]from rfl]at p;by_cases aI:l=[]
 ·subst aI;have U:=ajj [0] aX aX 1 0 a aX aX;simp only[gO,i6]at U;rw[show tG a []=kb 1 [0] a from rfl];generalize kb 1 [0] a=A at*;simp only[show cc []=[]from rfl,show ln []=[]from rfl,dS,gO,show cc [0]=[[.v (.int .i64 0)]]from rfl,da]at p U⊢;rcases U with⟨t,U⟩|⟨R,U⟩
  ·refine bE pU ?_;simp(disch:=omega)only[aw,simprocAttr,tA,bN,p,U,ET,vO];exact be
  ·refine bE pU ?_;simp(disch:=omega)only[aw,simprocAttr,tA,bN,p,U,ET,vO];exact be
 ·have Dd:=TS l;have U:=ajj (ln l) aa (λ x ap=>by
   simp only[ln,D0]at ap;obtain⟨y,bb,rfl⟩:=ap;have:=an y bb;omega) (ln l).length 0 a aa aa
  rw[i6,Dd]at U;simp only[gO]at U;rw[show tG a l=kb l.length (ln l) a from if_neg aI];generalize kb l.length (ln l) a=A at*;have iA:0<l.length:=Pt.2 aI;have fM:=cA (ln l);rw[Dd]at fM;unfold Cd at U;rw[Dd]at*;generalize cc (ln l)=a1 at*;have gE:¬(l.length:Int)=0:=aa;rcases U with⟨t,U⟩|⟨R,U⟩
  ·refine bE pU ?_;simp(disch:=omega)only[aw,simprocAttr,tA,bN,p,U,gE,cA,ET,vO];exact be
  ·refine bE pU ?_;simp(disch:=omega)only[aw,simprocAttr,tA,bN,p,U,gE,cA,ET,vO];exact be)
def qN(m:li)(s:bm)(c:Int):li:=if c=66∨c=48 then(if s=[40]then{m with dJ:=c}else if s=[41]then{m with s1:=c}else m)else m
def aOr(m:li)(s:bm)(c:Int)(H:ab):cF 102 [.agg [m.ins,m.jd,m.lj,m.dq,m.wr,m.jo,m.gq,m.lk,.i (.v (.int .u8 (m).dJ)),.i (.v (.int .u8 (m).s1)),m.ef],.i (.str s),.i (.v (.int .u8 (c)))] H (.agg [↑((qN m s c).ins),↑((qN m s c).jd),↑((qN m s c).lj),↑((qN m s c).dq),↑((qN m s c).wr),↑((qN m s c).jo),↑((qN m s c).gq),↑((qN m s c).lk),.i (.v (.int .u8 (qN m s c).dJ)),.i (.v (.int .u8 (qN m s c).s1)),↑((qN m s c).ef)]):=cI (by
 unfold qN;by_cases aj:c=66∨c=48
 ·rw[if_pos aj];by_cases p:s=[40]
  ·subst p;rw[if_pos rfl];rcases aj with rfl|rfl<;>(
    refine bE H9 ?_;simp(disch:=omega)only[aw,simprocAttr,Me];exact be)
  ·rw[if_neg p];by_cases U:s=[41]
   ·subst U;rw[if_pos rfl];rcases aj with rfl|rfl<;>(
     refine bE H9 ?_;simp(disch:=omega)only[aw,simprocAttr,Me,Dr,show¬(41:UInt8)=40 by decide];exact be)
   ·rw[if_neg U];rcases aj with rfl|rfl<;>(
     refine bE H9 ?_;simp(disch:=omega)only[aw,simprocAttr,Me,p,U];exact be)
 ·rw[if_neg aj];have p:¬c=66:=λ h=>aj (.inl h)
  have U:¬c=48:=λ h=>aj (.inr h)
  refine bE H9 ?_;simp(disch:=omega)only[aw,simprocAttr,Me];exact be)
def ajl(m:li)(i:Int)(aB:i=0∨i=1)(H:ab):cF 101 [.agg [m.ins,m.jd,m.lj,m.dq,m.wr,m.jo,m.gq,m.lk,.i (.v (.int .u8 (m).dJ)),.i (.v (.int .u8 (m).s1)),m.ef],i] H (.agg [↑(({m with ef:=i}).ins),↑(({m with ef:=i}).jd),↑(({m with ef:=i}).lj),↑(({m with ef:=i}).dq),↑(({m with ef:=i}).wr),↑(({m with ef:=i}).jo),↑(({m with ef:=i}).gq),↑(({m with ef:=i}).lk),.i (.v (.int .u8 ({m with ef:=i}).dJ)),.i (.v (.int .u8 ({m with ef:=i}).s1)),↑(({m with ef:=i}).ef)]):=cI (by
 rcases aB with rfl|rfl<;>(
  refine bE af2 ?_;simp(disch:=omega)only[aw,simprocAttr,aH_];exact be))
def rD:li:=⟨J,J,J,J,ah,ah,J,J,66,66,0⟩
def aOs(H:ab):cF 17 [] H (.agg [rD.ins,rD.jd,rD.lj,rD.dq,rD.wr,rD.jo,rD.gq,rD.lk,.i (.v (.int .u8 (rD).dJ)),.i (.v (.int .u8 (rD).s1)),rD.ef]):=cI (by
 refine bE afp ?_;simp(disch:=omega)only[aw,simprocAttr,aHC];exact be)
def aOt(s:bm)(c:Int)(aU:s.length≤1000)(H:ab):cF 98 [.i (.str s),.i (.v (.int .u8 (c)))] H (↑(LA s c.toNat.toUInt8)):=cI (by
 have ar:∀H:ab,dy E (b' E) 139 [.i (.str s),.i (.v (.int .u8 (c)))] H=j (.i (.v (.int .i64 (LA s c.toNat.toUInt8))),H):=λ H=>LB (show E.ext 139=j xh from rfl) rfl rfl ⟨[],by simp[xh]⟩
 refine bE af0 ?_;simp(disch:=omega)only[aw,simprocAttr,aH8,ar];exact be)
def TU:bm:=[48,49,50,51,52,53,54,55,56,57,65,66,67,68,69,70]
def IY(out:Int)(b:UInt8):Int:=tu.wrap (tu.wrap (out*16)+tu.wrap (LA TU ((b.toNat:Int).toNat.toUInt8)))
def aOu{s:bm}{k:Nat}(h:k<s.length):(s.map λ b=>[bx.v (.int .u8 b.toNat)])[k]?=j [.v (.int .u8 s[k].toNat)]:=by simp[h]
def Fz:bX:=[160,9670,9618,9225,9228,9229,9226,176,177,9252,9227,9496,9488,9484,9492,9532,9146,9147,9472,9148,9149,9500,9508,9524,9516,9474,8804,8805,960,8800,163,183]
def FA:bm:=[48,48,65,48,50,53,67,54,50,53,57,50,50,52,48,57,50,52,48,67,50,52,48,68,50,52,48,65,48,48,66,48,48,48,66,49,50,52,50,52,50,52,48,66,50,53,49,56,50,53,49,48,50,53,48,67,50,53,49,52,50,53,51,67,50,51,66,65,50,51,66,66,50,53,48,48,50,51,66,67,50,51,66,68,50,53,49,67,50,53,50,52,50,53,51,52,50,53,50,67,50,53,48,50,50,50,54,52,50,50,54,53,48,51,67,48,50,50,54,48,48,48,65,51,48,48,66,55]
def FB(m:li):Int:=if m.ef=1 then m.s1 else m.dJ
def mapM(m:li)(r:Int):Int:=if FB m≠48∨r<95∨r>126 then r else Fz.getD (r-95).toNat 0
def aOv:∀n,n<32→((FA.drop (4*n)).take 4).foldl IY 0=Fz.getD n 0:=by decide+kernel
def aOw(s:bm)(aU:s.length<1000):∀(m k:Nat) (out:Int),k+m=s.length→
  ie xm 0 [(6,.i (.v (.int .i32 out))),(38,.ref 0 0 0 s.length),(39,s.length),(40,k)] [.af 1 0 ((s).map λ b=>[bx.v (.int .u8 b.toNat)]) J] 0 [(6,.i (.v (.int .i32 ((s.drop k).foldl IY out)))),(38,.ref 0 0 0 s.length),(39,s.length),(40,s.length),(41,J)] [.af 1 0 ((s).map λ b=>[bx.v (.int .u8 b.toNat)]) J]:=by
 intro m;induction m with
 |zero=>intro k out aA;obtain rfl:k=s.length:=aa;rw[mN,List.foldl_nil];generalize bu:((s).map λ b=>[bx.v (.int .u8 b.toNat)])=q;refine(cO xm 0).trans ?_;simp(disch:=omega)only[aw,simprocAttr,Ew,d_,Mz]
 |succ m a'=>
  intro k out aA;have bg:k<s.length:=aa;have b2:=aOu bg;have e:=a' (k+1) (IY out s[k]) aa;rw[jk bg,vd];have ar:=λ c H=>aOt TU c bU H
  refine gB ?_ e;clear e a';generalize bu:((s).map λ b=>[bx.v (.int .u8 b.toNat)])=q at b2⊢;unfold IY;unfold TU at*;refine(cO xm 0).trans ?_;simp(disch:=omega)only[aw,simprocAttr,Ew,d_,b2,ar,Mz]
def aOx(r:Int)(p:95≤r)(U:r≤126):List.foldl IY 0 (eP (((r-95)*4+4).toNat-((r-95)*4).toNat) (e_ ((r-95)*4).toNat FA))=Fz.getD (r-95).toNat 0:=by have:=aOv (r-95).toNat aa;rw[show((r-95)*4+4).toNat-((r-95)*4).toNat=4 by omega,show((r-95)*4).toNat=4*(r-95).toNat by omega];exact this
def aOy(m:li)(r:Int)(ak:-2147483648≤r∧r≤2147483647)(H:ab):cF 52 [.agg [m.ins,m.jd,m.lj,m.dq,m.wr,m.jo,m.gq,m.lk,.i (.v (.int .u8 (m).dJ)),.i (.v (.int .u8 (m).s1)),m.ef],.i (.v (.int .i32 r))] H (.i (.v (.int .i32 (mapM m r)))):=cI (by
 have sl:(mapM m r=r∧(FB m≠48∨r<95∨r>126))∨(mapM m r=Fz.getD (r-95).toNat 0∧FB m=48∧95≤r∧r≤126):=by
  unfold mapM;by_cases h:FB m≠48∨r<95∨r>126
  ·exact .inl ⟨if_pos h,h⟩
  ·exact .inr ⟨if_neg h,aa⟩
 rcases sl with⟨he,h⟩|⟨he,h⟩
 ·rw[he];unfold FB at h;by_cases aU:m.ef=1
  ·rw[if_pos aU]at h;rcases h with h|h|h<;>by_cases bh:m.s1=48<;>by_cases bF:r<95<;>first|(exfalso;omega)|(
    refine bE xm ?_;simp(disch:=omega)only[aw,simprocAttr,Ew,d_];exact be)
  ·rw[if_neg aU]at h;rcases h with h|h|h<;>by_cases bh:m.dJ=48<;>by_cases bF:r<95<;>first|(exfalso;omega)|(
    refine bE xm ?_;simp(disch:=omega)only[aw,simprocAttr,Ew,d_];exact be)
 ·rw[he,←aOx r h.2.1 h.2.2];obtain⟨aF,aVD,aVE⟩:=h;have bu:((FA.drop ((r-95)*4).toNat).take (((r-95)*4+4).toNat-((r-95)*4).toNat)).length=4:=by rw[hV,j6,show FA.length=128 from rfl];omega
  have ao:=aOw _ (by rw[bu];decide) 4 0 0 (by rw[bu]);rw[i6,bu]at ao;simp only[gO,Ru]at ao;have n1:FA.length=128:=rfl;unfold FB at aF;unfold FA at*;by_cases aU:m.ef=1
  ·rw[if_pos aU]at aF;refine bE xm ?_;simp(disch:=omega)only[aw,simprocAttr,Ew,d_,ao,bu,mE,Mz];exact be
  ·rw[if_neg aU]at aF;refine bE xm ?_;simp(disch:=omega)only[aw,simprocAttr,Ew,d_,ao,bu,mE,Mz];exact be)
def aOz(I n:Int)(m:li)(z:aZ)(T:ab):cE 209 [n,.ptr 2 0 0 0,.ptr 0 0 0 0] (.box [m.ins,m.jd,m.lj,m.dq,m.wr,m.jo,m.gq,m.lk,.i (.v (.int .u8 (m).dJ)),.i (.v (.int .u8 (m).s1)),m.ef]::.box z::.box [.i (.v (.int .u8 (I)))]::T) (Fh 0 (zN I n)) (.box [m.ins,m.jd,m.lj,m.dq,m.wr,m.jo,m.gq,m.lk,.i (.v (.int .u8 (m).dJ)),.i (.v (.int .u8 (m).s1)),m.ef]::.box z::.box [.i (.v (.int .u8 (I)))]::T):=by
 obtain⟨L,h⟩:=aMg I n m;cases aN:zN I n with
 |none=>rw[aN]at h;simp[cE,dy,fg,aeh,bI,bj,reach,bD,cP,cB,Chunk.c2,Chunk.refs,h,Fh,dG,ev]
 |some k=>rw[aN]at h;simp[cE,dy,fg,aeh,bI,bj,reach,bD,cP,cB,Chunk.c2,Chunk.refs,h,Fh,dG,ev]
def aOA(c g r k:Nat):k2 E.P .neq 235 (.ptr c g r k) (.i (.v (.pointer o)))=j (.i (.v (.bool ah))):=aK
def aOB:k2 E.P .neq 235 (.i (.v (.pointer o))) (.i (.v (.pointer o)))=j (.i (.v (.bool J))):=aK
def aOC(m:li)(I n:Int)(on:Bool):ie zr 0 [(3,on),(4,.ptr 0 0 0 0),(8,.ptr 1 0 0 0),(9,.aS (.func 209) [] [.ptr 2 0 0 0,.ptr 0 0 0 0]),(14,.i (.af 1 [[.v (.int .i64 n)]] J)),(15,↑(1:Int)),(16,↑(1:Int))] [.box [m.ins,m.jd,m.lj,m.dq,m.wr,m.jo,m.gq,m.lk,.i (.v (.int .u8 (m).dJ)),.i (.v (.int .u8 (m).s1)),m.ef],.box [J,J,J,J,J,J,J,J,.i (.v (.int .u8 0)),.i (.v (.int .u8 0)),↑(0:Int)],.box [.i (.v (.int .u8 (I)))]] 0 ([(3,.i (.v (.bool (on)))),(4,.ptr 0 0 0 0),(8,.ptr 1 0 0 0),(9,.aS (.func 209) [] [.ptr 2 0 0 0,.ptr 0 0 0 0]),(14,.i (.af 1 [[.v (.int .i64 n)]] J)),(15,.i (.v (.int .i64 (1)))),(16,.i (.v (.int .i64 (1))))]++[(17,.i (.v (.bool (J))))]) [.box [m.ins,m.jd,m.lj,m.dq,m.wr,m.jo,m.gq,m.lk,.i (.v (.int .u8 (m).dJ)),.i (.v (.int .u8 (m).s1)),m.ef],.box [J,J,J,J,J,J,J,J,.i (.v (.int .u8 0)),.i (.v (.int .u8 0)),↑(0:Int)],.box [.i (.v (.int .u8 (I)))]]:=by
 refine(cO zr 0).trans ?_;simp(disch:=omega)only[aw,simprocAttr,Ml,bN,ME]
 try rfl
def aOD(m:li)(I n:Int)(on:Bool):ie zr 0 [(3,on),(4,.ptr 0 0 0 0),(8,.ptr 1 0 0 0),(9,.aS (.func 209) [] [.ptr 2 0 0 0,.ptr 0 0 0 0]),(14,.i (.af 1 [[.v (.int .i64 n)]] J)),(15,↑(1:Int)),(16,↑(0:Int))] [.box [m.ins,m.jd,m.lj,m.dq,m.wr,m.jo,m.gq,m.lk,.i (.v (.int .u8 (m).dJ)),.i (.v (.int .u8 (m).s1)),m.ef],.box [J,J,J,J,J,J,J,J,.i (.v (.int .u8 0)),.i (.v (.int .u8 0)),↑(0:Int)],.box [.i (.v (.int .u8 (I)))]] 0 ([(3,.i (.v (.bool (on)))),(4,.ptr 0 0 0 0),(8,.ptr 1 0 0 0),(9,.aS (.func 209) [] [.ptr 2 0 0 0,.ptr 0 0 0 0]),(14,.i (.af 1 [[.v (.int .i64 n)]] J)),(15,.i (.v (.int .i64 (1)))),(16,.i (.v (.int .i64 (1))))]++[(17,.i (.v (.bool (J))))]) [.box [↑((hP I on m n).ins),↑((hP I on m n).jd),↑((hP I on m n).lj),↑((hP I on m n).dq),↑((hP I on m n).wr),↑((hP I on m n).jo),↑((hP I on m n).gq),↑((hP I on m n).lk),.i (.v (.int .u8 (hP I on m n).dJ)),.i (.v (.int .u8 (hP I on m n).s1)),↑((hP I on m n).ef)],.box [J,J,J,J,J,J,J,J,.i (.v (.int .u8 0)),.i (.v (.int .u8 0)),↑(0:Int)],.box [.i (.v (.int .u8 (I)))]]:=by
 refine gB ?_ (aOC (hP I on m n) I n on);have ar:=λ z T=>aOz I n m z T
 unfold hP;cases aN:zN I n with
 |none=>rw[aN]at ar;simp only[Fh]at ar⊢;refine(cO zr 0).trans ?_;simp(disch:=omega)only[aw,simprocAttr,Ml,bN,RX,ar,aOB,ME]
 |some k=>
  have aA:=aMe aN;rw[aN]at ar;simp only[Fh]at ar⊢
  match k,aA with
  |0,_|1,_|2,_|3,_|4,_|5,_|6,_|7,_=>simp only[Tu];refine(cO zr 0).trans ?_;simp(disch:=omega)only[aw,simprocAttr,Ml,bN,RX,ar,aOA,ME]
def aOE(m:li)(I n:Int)(on:Bool)(H:ab):cF 146 [.agg [m.ins,m.jd,m.lj,m.dq,m.wr,m.jo,m.gq,m.lk,.i (.v (.int .u8 (m).dJ)),.i (.v (.int .u8 (m).s1)),m.ef],.i (.v (.int .u8 (I))),.i (.af 1 [[.v (.int .i64 n)]] J),on] H (.agg [↑((hP I on m n).ins),↑((hP I on m n).jd),↑((hP I on m n).lj),↑((hP I on m n).dq),↑((hP I on m n).wr),↑((hP I on m n).jo),↑((hP I on m n).gq),↑((hP I on m n).lk),.i (.v (.int .u8 (hP I on m n).dJ)),.i (.v (.int .u8 (hP I on m n).s1)),↑((hP I on m n).ef)]):=cI (by
 have ao:=aOD m I n on;generalize hP I on m n=b6 at*;refine bE zr ?_;simp(disch:=omega)only[aw,simprocAttr,Ml,bN,ao,cC,ME];exact be)
def Ce(a b:Int):Int:=ni.wrap ((rO ni.bits a &&&rO ni.bits b).toNat:Int)
def IZ(a b:Int):kA .and .i64 a b=j (Ce a b):=rfl
def lo(a:eA):Bool:=!decide (Ce a.co 64=0)
def iG(m:M):Int:=if m.aJ.I=ah then m.aJ.c else m.aJ.c-1
def h5(m:M):Int:=if 0≤iG m∧((fL m).getD (iG m).toNat (cont m.a)).w=0 then iG m-1 else iG m
def mi(r:Int)(a:eA)(c:fO):fO:=if(lo a &&!lo c.a)=ah then c else if c.t.length<4 then{c with t:=c.t++[r]}else c
def rE(m:M)(r:Int):M:=if h5 m<0 then m else{m with G:=m.G.set m.aJ.r.toNat ((fL m).set (h5 m).toNat (mi r m.a ((fL m).getD (h5 m).toNat (cont m.a))))}
def fj.at{l:c1}(h:fj l):∀(k:Nat) (c:fO),l[k]?=j c→(c.w≠0∧jD c=ah)∨(c.w=0∧∃ac d,k=ac+1∧l[ac]?=j d∧d.w=2∧jD d=ah):=by
 induction h with
 |nil=>intro k c aA;simp at aA
 |@one gN l p U az a'=>
  intro k c aA
  match k,aA with
  |0,aA=>cases aA;exact .inl ⟨aa,p⟩
  |k+1,aA=>
   rcases a' k c (by simpa using aA)with h|⟨hw,ac,d,bc,aP⟩
   ·exact .inl h
   ·exact .inr ⟨hw,ac+1,d,aa,by simpa using aP⟩
 |@two gN l p U az a'=>
  intro k c aA
  match k,aA with
  |0,aA=>cases aA;exact .inl ⟨aa,p⟩
  |1,aA=>cases aA;exact .inr ⟨rfl,0,gN,rfl,rfl,U,p⟩
  |k+2,aA=>
   rcases a' k c (by simpa using aA)with h|⟨hw,ac,d,bc,aP⟩
   ·exact .inl h
   ·exact .inr ⟨hw,ac+2,d,aa,by simpa using aP⟩
def ajm{m:M}(hm:bt m)(h:0≤h5 m):∃c,(fL m)[(h5 m).toNat]?=j c∧jD c=ah∧h5 m<m.w:=by
 have ak:=hm.row;have aj:=hm.aJ.2.1;have p:0≤iG m∧iG m<m.w:=by unfold h5 at h;unfold iG at*;split at h<;>split at h<;>(try split)<;>omega
 have U:(fL m)[(iG m).toNat]?=j ((fL m).getD (iG m).toNat (cont m.a)):=by rw[pN,eC aa,jQ]
 rcases(xH.1 ak.2).at _ _ U with⟨hw,ax⟩|⟨hw,ac,d,bc,aP,aOF,ax⟩
 ·have e:h5 m=iG m:=by unfold h5;rw[if_neg (λ h=>hw h.2)]
  rw[e];exact⟨_,U,ax,p.2⟩
 ·have e:h5 m=iG m-1:=by unfold h5;rw[if_pos ⟨p.1,hw⟩]
  rw[e,show(iG m-1).toNat=ac by omega];exact⟨d,aP,ax,aa⟩
def aOG{m:M}(hm:bt m){r:Int}{c:fO}(j7:0≤h5 m)(aj:(fL m)[(h5 m).toNat]?=j c)(he:mi r m.a c=c):rE m r=m:=by
 have p:=hm.aJ.1;have U:=hm.G.1;have ar:(fL m).set (h5 m).toNat c=fL m:=by obtain⟨h,e⟩:=bQ.1 aj;rw[←e];exact Dm h
 have aM:m.G.set m.aJ.r.toNat (fL m)=m.G:=by
  have e:fL m=m.G[m.aJ.r.toNat]' aa:=by rw[fL,pN,eC aa,jQ]
  rw[e];exact Dm _
 unfold rE;rw[if_neg aa,pN,aj,jQ,he,ar,aM]
def aOH{m:M}{r:Int}{c:fO}(j7:0≤h5 m)(aj:(fL m)[(h5 m).toNat]?=j c):rE m r={m with G:=m.G.set m.aJ.r.toNat ((fL m).set (h5 m).toNat (mi r m.a c))}:=by unfold rE;rw[if_neg aa,pN,aj,jQ]
def aOI{m:M}(hm:bt m)(p:0≤iG m):∃gN,(fL m)[(iG m).toNat]?=j gN∧((gN.w≠0∧h5 m=iG m∧jD gN=ah)∨(gN.w=0∧h5 m=iG m-1∧0≤iG m-1∧∃c,(fL m)[(iG m-1).toNat]?=j c∧jD c=ah)):=by
 have ak:=hm.row;have aj:=hm.aJ.2.1;have U:iG m<m.w:=by unfold iG;split<;>omega
 have az:(fL m)[(iG m).toNat]?=j ((fL m).getD (iG m).toNat (cont m.a)):=by rw[pN,eC aa,jQ]
 refine⟨_,az,?_⟩;rcases(xH.1 ak.2).at _ _ az with⟨hw,ax⟩|⟨hw,ac,d,bc,aP,aOF,ax⟩
 ·exact .inl ⟨hw,by unfold h5;rw[if_neg (λ h=>hw h.2)],ax⟩
 ·exact .inr ⟨hw,by unfold h5;rw[if_pos ⟨p,hw⟩],aa,d,by rw[show(iG m-1).toNat=ac by omega];exact aP,ax⟩
def aOJ{m:M}(hm:bt m)(r:Int)(ak:-2147483648≤r∧r≤2147483647)(hmk:zD r=ah):h4 90 [.i (.v (.int .i32 (r)))] m (.bl []) (rE m r):=by
 intro ag aH ai aL;obtain⟨row,b4,p,U,az,bh,bF,ar,_⟩:=Ns hm.aJ.1 hm.G.1;have qO:fL m=row:=by rw[fL,p,pN,bh,jQ]
 have b2:=hm.row;rw[qO]at b2;have hw:=hm.w;have aj:=hm.aJ.2.1;have fM:=fo row;rw[b2.1]at fM;have iz:=hf m.G;rw[bz afT];simp(disch:=omega)only[aw,simprocAttr,tz,dd,b1,b7,bV,bF,ar];refine B8 (λ R H=>(∃t,R=(0,.ptr 0 0 0 0)::(1,.i (.v (.int .i32 (r))))::(4,.x (.h 1 ag aH b4))::(5,.i (.v (.int .i64 (iG m))))::t)∧H=[.box (aW m 1 ag 2 ai),.aE 5 ag aH (a7 m.G),.aE 5 ai aL (a7 m.O)]) ?_ ?_
 ·unfold iG;cases ax:m.aJ.I with
  |true=>simp(disch:=omega)only[aw,simprocAttr,tz,dd,b1,b7,bV,ax];exact⟨_,_,rfl,⟨_,rfl⟩,rfl⟩
  |false=>simp(disch:=omega)only[aw,simprocAttr,tz,dd,b1,b7,bV,ax];exact⟨_,_,rfl,⟨_,rfl⟩,rfl⟩
 rintro R H ⟨⟨t,rfl⟩,rfl⟩;have ql:-1≤iG m∧iG m<m.w:=by unfold iG;split<;>omega
 by_cases bu:0≤iG m
 ·obtain⟨gN,gL,fp⟩:=aOI hm bu;rw[qO]at gL fp;have aOK:=zE gL;simp(disch:=omega)only[aw,simprocAttr,tz,dd,b1,b7,bV,bF,aOK];refine B8 (λ R H=>(∃t,R=(0,.ptr 0 0 0 0)::(1,.i (.v (.int .i32 (r))))::(4,.x (.h 1 ag aH b4))::(5,.i (.v (.int .i64 (h5 m))))::t)∧H=[.box (aW m 1 ag 2 ai),.aE 5 ag aH (a7 m.G),.aE 5 ai aL (a7 m.O)]) ?_ ?_
  ·rcases fp with⟨t_,aA,_⟩|⟨t_,aA,Dl,_⟩
   ·rw[aA];simp(disch:=omega)only[aw,simprocAttr,tz,dd,b1,b7,bV,t_];exact⟨_,_,rfl,⟨_,rfl⟩,rfl⟩
   ·rw[aA];simp(disch:=omega)only[aw,simprocAttr,tz,dd,b1,b7,bV,t_];exact⟨_,_,rfl,⟨_,rfl⟩,rfl⟩
  rintro R H ⟨⟨t,rfl⟩,rfl⟩;obtain⟨c,Nz,Iv,j7⟩:∃c,(fL m)[(h5 m).toNat]?=j c∧jD c=ah∧0≤h5 m:=by
   rcases fp with⟨_,aA,ax⟩|⟨_,aA,Dl,c,aj,ax⟩
   ·exact⟨gN,by rw[aA,qO];exact gL,ax,aa⟩
   ·exact⟨c,by rw[aA,qO];exact aj,ax,aa⟩
  have G7:=(ajm hm j7);obtain⟨_,_,_,aVF⟩:=G7;have ki:=aOH (r:=r) j7 Nz;have pE:=λ he=>aOG (r:=r) hm j7 Nz he
  rw[qO]at Nz ki;have FC:=zE Nz;obtain⟨b,ed,bA⟩:=E5 (E7 Iv).1;have ajn:=(E7 Iv).1;rw[bA]at ajn;have dx:=λ H=>aKN ajn r ak hmk H
  have NA:(c.t.length<4)=(ed.length<3):=by rw[bA,da];exact propext aa
  rw[bA]at FC;rw[p]at ki;have ajo:∀s:bm,iJ (E.kinds 9) [bx.str s]=[bx.str s]:=λ s=>rfl
  generalize h5 m=K at*;by_cases aF:Ce m.a.co 64=0
  ·by_cases hlen:ed.length<3
   ·have he:mi r m.a c=⟨b::(ed++[r]),c.w,c.a⟩:=by unfold mi lo;rw[if_neg (by simp[aF]),if_pos (by rw[NA];exact hlen),bA];rfl
    rw[ki,he];simp only[if_pos hlen]at dx;have aU:=Tg row K.toNat (b::(ed++[r])) c.w c.a;have aR:=Nf m.G b4 (row.set K.toNat ⟨b::(ed++[r]),c.w,c.a⟩);simp(disch:=omega)only[aw,simprocAttr,tz,dd,b1,b7,bV,bF,FC,IZ,aF,dx,ajo,cC,aU,aR];exact⟨_,rfl,eD.eb⟩
   ·have he:mi r m.a c=c:=by unfold mi lo;rw[if_neg (by simp[aF]),if_neg (by rw[NA];exact hlen)]
    rw[pE he];simp only[if_neg hlen]at dx;simp(disch:=omega)only[aw,simprocAttr,tz,dd,b1,b7,bV,bF,FC,IZ,aF,dx];exact⟨_,rfl,eD.eb⟩
  ·by_cases an:Ce c.a.co 64=0
   ·have he:mi r m.a c=c:=by unfold mi lo;simp[aF,an]
    rw[pE he];simp(disch:=omega)only[aw,simprocAttr,tz,dd,b1,b7,bV,bF,FC,IZ,aF,an];exact⟨_,rfl,eD.eb⟩
   ·by_cases hlen:ed.length<3
    ·have he:mi r m.a c=⟨b::(ed++[r]),c.w,c.a⟩:=by unfold mi lo;rw[if_neg (by simp[aF,an]),if_pos (by rw[NA];exact hlen),bA];rfl
     rw[ki,he];simp only[if_pos hlen]at dx;have aU:=Tg row K.toNat (b::(ed++[r])) c.w c.a;have aR:=Nf m.G b4 (row.set K.toNat ⟨b::(ed++[r]),c.w,c.a⟩);simp(disch:=omega)only[aw,simprocAttr,tz,dd,b1,b7,bV,bF,FC,IZ,aF,an,dx,ajo,cC,aU,aR];exact⟨_,rfl,eD.eb⟩
    ·have he:mi r m.a c=c:=by unfold mi lo;rw[if_neg (by simp[aF,an]),if_neg (by rw[NA];exact hlen)]
     rw[pE he];simp only[if_neg hlen]at dx;simp(disch:=omega)only[aw,simprocAttr,tz,dd,b1,b7,bV,bF,FC,IZ,aF,an,dx];exact⟨_,rfl,eD.eb⟩
 ·have aA:h5 m<0:=by unfold h5;rw[if_neg (λ h=>bu h.1)];omega
  unfold rE;rw[if_pos aA];simp(disch:=omega)only[aw,simprocAttr,tz,dd,b1,b7,bV,bu];exact⟨_,rfl,eD.eb⟩
def fj.aOL{l:c1}(h:fj l):∀(k:Nat) (c cv:fO),l[k]?=j c→c.w≠0→cv.w=c.w→cv.a=c.a→jD cv=ah→fj (l.set k cv):=by
 induction h with
 |nil=>intro k c cv aA;simp at aA
 |@one gN l p U az a'=>
  intro k c cv aA hw ra aF ax
  match k,aA with
  |0,aA=>cases aA;exact .one ax aa az
  |k+1,aA=>exact .one p U (a' k c cv (by simpa using aA) hw ra aF ax)
 |@two gN l p U az a'=>
  intro k c cv aA hw ra aF ax
  match k,aA with
  |0,aA=>cases aA;rw[HW,←aF];exact .two ax aa az
  |1,aA=>cases aA;exact absurd rfl hw
  |k+2,aA=>exact .two p U (a' k c cv (by simpa using aA) hw ra aF ax)
def aOM{c:fO}(h:jD c=ah):c.w≠0:=by obtain⟨p,U,_⟩:=E7 h;obtain⟨b,ed,bA⟩:=E5 p;rw[bA]at p U;have:=(BV p).2.1;simp only[E6]at U;omega
def aON{c:fO}(h:jD c=ah){r:Int}(hm:zD r=ah)(aR:hp r=ah)(a:eA):jD (mi r a c)=ah∧(mi r a c).w=c.w∧(mi r a c).a=c.a:=by
 unfold mi;split
 ·exact⟨h,rfl,rfl⟩
 ·split
  next ao=>refine⟨?_,rfl,rfl⟩;obtain⟨p,U,az⟩:=E7 h;obtain⟨b,ed,bA⟩:=E5 p;have yE:=U;rw[bA]at p U ao;obtain⟨bK,bJ,cL,e4⟩:=BV p;simp only[da]at ao;simp only[Ea,c']at bK;simp only[jD,bA,vF,pX,E6,c',decide_eq_true_eq,List.all_append,Ea,List.all_nil,dK,db,Bw];refine⟨⟨⟨⟨bK.1,bK.2,aR⟩,⟨bJ,cL,hm⟩,aa⟩,U⟩,az⟩
  ·exact⟨h,rfl,rfl⟩
def bt.mark{m:M}(h:bt m){r:Int}(hm:zD r=ah)(aR:hp r=ah):bt (rE m r):=by
 unfold rE;split
 ·exact h
 next aA=>obtain⟨c,aj,ax,_⟩:=ajm h aa;rw[pN,aj,jQ];have ak:=h.row;obtain⟨cy,cN,fy⟩:=aON ax hm aR m.a;exact h.vY ⟨by rw[kl];exact ak.1,((xH.1 ak.2).aOL _ c _ aj (aOM ax) cN fy cy).I⟩ _
def aOO{r:Int}(h:hp r=ah):(JA r).data.toList=ec [r]:=by
 simp only[hp,c',decide_eq_true_eq,rh,Ql,decide_eq_false_iff_not]at h;obtain⟨n,rfl⟩:=jC h.1.1;have bo:Utf8.valid (n:Int)=ah:=by unfold Utf8.valid;simp;omega
 unfold JA ec fi;simp only[bo,if_true,ny,zi,tp,dC];rw[if_neg (show¬((n:Int)<0∨(55296≤(n:Int)∧(n:Int)≤57343)∨1114111<(n:Int))by omega)];by_cases p:n<128
 ·rw[if_pos p,if_pos (show(n:Int)≤127 by omega)];rfl
 ·rw[if_neg p,if_neg (show¬(n:Int)≤127 by omega)];by_cases U:n<2048
  ·rw[if_pos U,if_pos (show(n:Int)≤2047 by omega)];simp only[gC,fC,fN];rw[show(192+(n:Int)/64).toNat=192+n/64 by omega,show(128+(n:Int)%64).toNat=128+n%64 by omega]
  ·rw[if_neg U,if_neg (show¬(n:Int)≤2047 by omega)];by_cases az:n<65536
   ·rw[if_pos az,if_pos (show(n:Int)≤65535 by omega)];simp only[gC,fC,fN];rw[show(224+(n:Int)/4096).toNat=224+n/4096 by omega,show(128+(n:Int)/64%64).toNat=128+n/64%64 by omega,show(128+(n:Int)%64).toNat=128+n%64 by omega]
   ·rw[if_neg az,if_neg (show¬(n:Int)≤65535 by omega)];simp only[gC,fC,fN];rw[show(240+(n:Int)/262144).toNat=240+n/262144 by omega,show(128+(n:Int)/4096%64).toNat=128+n/4096%64 by omega,show(128+(n:Int)/64%64).toNat=128+n/64%64 by omega,show(128+(n:Int)%64).toNat=128+n%64 by omega]
def n7(m:M):M:=sP m 0
def oG(m:M):M:=if(m.aJ.I &&m.md.wr)=ah then mh (n7 m)else m
def rF(m:M)(w:Int):M:=if m.w<m.aJ.c+w then(if m.md.wr=ah then mh (n7 m)else sP m (m.w-w))else m
def rG(m:M)(w:Int):M:=if m.md.ins=ah then{m with G:=m.G.set m.aJ.r.toNat (nG (fL m) m.aJ.c.toNat w.toNat m.a)}else m
def uQ(m:M)(r w:Int):M:={m with G:=m.G.set m.aJ.r.toNat (mU (fL m) m.aJ.c.toNat [r] w m.a)}
def Cf(m:M)(w:Int):M:=if m.aJ.c+w=m.w then{m with aJ:={m.aJ with c:=m.w-1,I:=m.md.wr}}else{m with aJ:={m.aJ with c:=m.aJ.c+w}}
def uR(m:M):M:={m with aJ:={m.aJ with I:=J}}
def qP(m:M)(r:Int):M:=if wid r<0∨m.w<wid r then m else if wid r=0 then rE m r else Cf (uQ (rG (rF (uR (oG m)) (wid r)) (wid r)) r (wid r)) (wid r)
def TV(m:M):(mh m).w=m.w∧(mh m).h=m.h∧(mh m).md=m.md∧(mh m).a=m.a∧(mh m).aJ.c=(p0 m.aJ (cx m)).1.c:=by unfold mh;split<;>exact⟨rfl,rfl,rfl,rfl,rfl⟩
def aOP{m:M}(h:bt m)(a8:m.aJ.c=0):(mh m).aJ.c=0:=by
 rw[(TV m).2.2.2.2];have hw:=h.w;have e:(gQ m.aJ (cx m)).c=0:=by show e' m.aJ.c 0 ((m.w:Int)-1)=0;rw[a8];unfold e';omega
 unfold p0 j';split
 ·exact e
 ·show(gQ _ (cx m)).c=0;show e' (gQ m.aJ (cx m)).c 0 ((m.w:Int)-1)=0;rw[e];unfold e';omega
def bt.mX{m:M}(h:bt m):bt (n7 m):=h.bk (by have:=h.w;omega)
def bt.zX{m:M}(h:bt m):bt (oG m)∧(oG m).w=m.w:=by
 unfold oG;split
 ·exact⟨h.mX.feed,(TV _).1⟩
 ·exact⟨h,rfl⟩
def bt.uR{m:M}(h:bt m):bt (uR m):=h.k7
def bt.iP{m:M}(h:bt m){w:Int}(hw:1≤w∧w≤m.w)(ax:m.aJ.I=J):bt (rF m w)∧(rF m w).w=m.w∧(rF m w).aJ.c+w≤m.w∧(rF m w).aJ.I=J:=by
 have aj:=h.aJ.2.1;unfold rF;split
 ·split
  ·refine⟨h.mX.feed,(TV _).1,by rw[aOP h.mX rfl];omega,?_⟩;unfold mh p0;split<;>split<;>rfl
  ·exact⟨h.bk aa,rfl,by simp only[sP];omega,rfl⟩
 ·exact⟨h,rfl,aa,ax⟩
def bt.NB{m:M}(h:bt m){w:Int}:bt (rG m w)∧(rG m w).w=m.w∧(rG m w).aJ=m.aJ:=by
 unfold rG;split
 ·have p:=h.row;have U:=h.aJ.2.1;have aj:m.aJ.c.toNat<(fL m).length:=aa;exact⟨h.vY ⟨by rw[nG,Na,Iy aj];exact p.1,((xH.1 p.2).nG _ _ h.a).I⟩ _,rfl,rfl⟩
 ·exact⟨h,rfl,rfl⟩
def ajp{r:Int}(aR:hp r=ah)(hw:1≤wid r){a:eA}(aF:iv a=ah):jD ⟨[r],wid r,a⟩=ah∧pX [r]=ah:=by
 have p:pX [r]=ah:=by simp[pX,aR,hw]
 exact⟨by simp only[jD,p,E6,aF,decide_true,PB],p⟩
def bt.TW{m:M}(h:bt m){r:Int}(aR:hp r=ah)(hw:1≤wid r)(aj:m.aJ.c+wid r≤m.w):bt (uQ m r (wid r))∧(uQ m r (wid r)).w=m.w∧(uQ m r (wid r)).aJ=m.aJ:=by
 have p:=h.row;have U:=h.aJ.2.1;have uS:wid r=1∨wid r=2:=by have:=SU r;omega
 exact⟨h.vY ⟨by rw[aie];exact p.1,((xH.1 p.2).mU uS (by rw[p.1];omega) (ajp aR hw h.a).1).I⟩ _,rfl,rfl⟩
def bt.I0{m:M}(h:bt m){w:Int}(hw:1≤w)(aj:m.aJ.c+w≤m.w)(ax:m.aJ.I=J):bt (Cf m w):=by
 have U:=h.aJ;unfold Cf;split
 ·exact h.kx ⟨U.1,by simp only;omega,λ _=>rfl⟩
 ·exact h.kx ⟨U.1,by simp only;omega,by simp[ax]⟩
def bt.I1{m:M}(h:bt m){r:Int}(aR:hp r=ah):bt (qP m r):=by
 have aOQ:=SU r;unfold qP;split
 ·exact h
 ·split
  next a8=>exact h.mark (ahi a8) aR
  ·have b9:=h.zX;have PK:=b9.1.uR;have c_:=PK.iP (w:=wid r) (by show 1≤wid r∧wid r≤(oG m).w;rw[b9.2];omega) rfl;have au:=c_.1.NB (w:=wid r);have mA:=au.1.TW aR aa (by rw[au.2.2,au.2.1,c_.2.1];exact c_.2.2.1);exact mA.1.I0 aa (by rw[mA.2.2,au.2.2,mA.2.1,au.2.1,c_.2.1];exact c_.2.2.1) (by rw[mA.2.2,au.2.2];exact c_.2.2.2)
def aOR{m:M}(hm:bt m)(r:Int)(ak:-2147483648≤r∧r≤2147483647)(aR:hp r=ah):h4 51 [.i (.v (.int .i32 (r)))] m (.bl []) (qP m r):=by
 intro ag aH ai aL;have rn:=λ H=>ST r H
 have aOQ:=SU r;have hw:=hm.w;unfold qP;by_cases p:wid r<0∨m.w<wid r
 ·rw[if_pos p];rcases p with p|p
  ·rw[bz H4];simp(disch:=omega)only[aw,simprocAttr,o4,dd,b1,b7,bV,rn];exact⟨_,rfl,eD.eb⟩
  ·rw[bz H4];simp(disch:=omega)only[aw,simprocAttr,o4,dd,b1,b7,bV,rn];exact⟨_,rfl,eD.eb⟩
 ·rw[if_neg p];have aVG:¬wid r<0:=λ h=>p (.inl h)
  have aVH:¬(m.w:Int)<wid r:=λ h=>p (.inr h)
  by_cases a8:wid r=0
  ·rw[if_pos a8];obtain⟨H1,ar,fm⟩:=mW (f:=90) rfl rfl rfl (aOJ hm r ak (ahi a8)) (iO.eb (m:=m) (ag:=ag) (ai:=ai) (aH:=aH) (aL:=aL) (T:=[]));rw[bz H4];simp(disch:=omega)only[aw,simprocAttr,o4,dd,b1,b7,bV,rn,a8,ar];exact⟨_,rfl,fm.jF⟩
  ·rw[if_neg a8];rw[bz H4];simp(disch:=omega)only[aw,simprocAttr,o4,dd,b1,b7,bV,rn];generalize ajq:wid r=w at*;refine B8 (λ R H=>(∃t,R=(0,.ptr 0 0 0 0)::(1,.i (.v (.int .i32 (r))))::(4,.i (.v (.int .i64 (w))))::(5,.i (.v (.int .i64 (m.w))))::t)∧iO (oG m) H) ?_ ?_
   ·cases ax:m.aJ.I with
    |false=>
     have e:oG m=m:=by unfold oG;rw[if_neg (by simp[ax])]
     rw[e];simp(disch:=omega)only[aw,simprocAttr,o4,dd,b1,b7,bV,ax];exact⟨_,_,rfl,⟨_,rfl⟩,iO.eb⟩
    |true=>
     cases Cg:m.md.wr with
     |false=>
      have e:oG m=m:=by unfold oG;rw[if_neg (by simp[Cg])]
      rw[e];simp(disch:=omega)only[aw,simprocAttr,o4,dd,b1,b7,bV,ax,Cg];exact⟨_,_,rfl,⟨_,rfl⟩,iO.eb⟩
     |true=>
      have e:oG m=mh (n7 m):=by unfold oG;rw[if_pos (by simp[ax,Cg])]
      rw[e];have ar:=IH (m:=m) (a:=0) (b:=1) (ag:=ag) (ai:=ai) (T:=[.aE 5 ag aH (a7 m.G),.aE 5 ai aL (a7 m.O)]) rfl rfl bU;obtain⟨bG,aM,dZ⟩:=mW (f:=92) rfl rfl rfl (IR hm.mX) (iO.eb (m:=n7 m) (ag:=ag) (ai:=ai) (aH:=aH) (aL:=aL) (T:=[]));simp only[cJ,dl]at ar;simp only[n7,sP]at aM;simp(disch:=omega)only[aw,simprocAttr,o4,dd,b1,b7,bV,ax,Cg,ar,aM];exact⟨_,_,rfl,⟨_,rfl⟩,dZ⟩
   have b9:=hm.zX;obtain⟨hM,yz⟩:=b9;generalize oG m=m1 at*;rintro R H ⟨⟨t,rfl⟩,a,ag,b,ai,T,rfl,aB⟩;have ht:=hM.aJ.2.1;simp(disch:=omega)only[aw,simprocAttr,o4,dd,b1,b7,bV];obtain⟨m2,xN⟩:∃m2,uR m1=m2:=⟨_,rfl⟩;have hk:bt m2:=by rw[←xN];exact hM.uR
   have uS:m2.w=m.w:=by rw[←xN];exact yz
   have qH:m2.aJ.I=J:=by rw[←xN];rfl
   have fF:m2.aJ.c=m1.aJ.c:=by rw[←xN];rfl
   have iW:m2.md.wr=m1.md.wr:=by rw[←xN];rfl
   replace aB:h3 1 m2 (a+1) ag (b+1) ai T:=by rw[←xN];exact aB
   rw[xN,show({m1 with aJ:=⟨m1.aJ.r,m1.aJ.c,J⟩}:M)=m2 from xN,←fF,←iW];rw[←fF]at ht;clear xN fF iW hM;refine B8 (λ R H=>(∃t,R=(0,.ptr 0 0 0 0)::(1,.i (.v (.int .i32 (r))))::(4,.i (.v (.int .i64 (w))))::(5,.i (.v (.int .i64 (m.w))))::t)∧iO (rF m2 w) H) ?_ ?_
   ·unfold rF;rw[uS];by_cases bg:(m.w:Int)<m2.aJ.c+w
    ·rw[if_pos bg];have ajr:=aB;obtain⟨b_,b0,p1,oD,B9,B_,xO,n8,xP,_⟩:=aB;obtain rfl:a=b_:=aa;obtain rfl:b=b0:=aa;cases Cg:m2.md.wr with
     |true=>have ar:=IH (m:=m2) (ag:=ag) (ai:=ai) xO n8 xP;obtain⟨bG,aM,dZ⟩:=mW (f:=92) rfl rfl rfl (IR hk.mX) (H:=.box (aW (n7 m2) (a+1) ag (b+1) ai)::T) ⟨a,ag,b,ai,T,rfl,ajr⟩;simp only[n7,sP]at aM;simp(disch:=omega)only[aw,simprocAttr,o4,dd,b1,b7,bV,Cg,bg,ar,aM];exact⟨_,_,rfl,⟨_,rfl⟩,dZ⟩
     |false=>have ar:=Nk (m:=m2) (ag:=ag) (ai:=ai) xO n8 xP ((m.w:Int)-w);simp(disch:=omega)only[aw,simprocAttr,o4,dd,b1,b7,bV,Cg,bg,ar];exact⟨_,_,rfl,⟨_,rfl⟩,a,ag,b,ai,T,rfl,ajr⟩
    ·rw[if_neg bg];simp(disch:=omega)only[aw,simprocAttr,o4,dd,b1,b7,bV,bg];exact⟨_,_,rfl,⟨_,rfl⟩,a,ag,b,ai,T,rfl,aB⟩
   have c_:=hk.iP (w:=w) (by rw[uS];omega) qH;obtain⟨pe,Ch,yx,aOS⟩:=c_;rw[uS]at Ch yx;generalize rF m2 w=m3 at*;clear aB hk uS qH ht;rintro R H ⟨⟨t2,rfl⟩,a2,zY,dZ,xQ,hn,rfl,aB⟩;have TX:=pe.aJ.2.1;rw[Ch]at TX;obtain⟨wn,TY⟩:=jC (show 0≤w by omega);obtain⟨jF,nQ⟩:=jC TX.1;simp(disch:=omega)only[aw,simprocAttr,o4,dd,b1,b7,bV];refine B8 (λ R H=>(∃t,R=(0,.ptr 0 0 0 0)::(1,.i (.v (.int .i32 (r))))::(4,.i (.v (.int .i64 (w))))::(5,.i (.v (.int .i64 (m.w))))::t)∧iO (rG m3 w) H) ?_ ?_
   ·unfold rG;cases h8:m3.md.ins with
    |false=>simp only[gk,if_false];simp(disch:=omega)only[aw,simprocAttr,o4,dd,b1,b7,bV,h8];exact⟨_,_,rfl,⟨_,rfl⟩,a2,zY,dZ,xQ,hn,rfl,aB⟩
    |true=>
     simp only[if_true];obtain⟨aVI,row,b2,dO,ua,jj,TZ,T0⟩:=ai_ aB pe.aJ.1 pe.G.1;have I2:fL m3=row:=by rw[fL,pN,b2,jQ]
     have qO:=pe.row;rw[I2,Ch]at qO;have bZ:=λ H=>aif (l:=row) aa qO.2 jF wn aa aa aa m3.a H
     have oU:(nG row jF wn m3.a).length=m.w:=by rw[nG,Na,Iy aa];exact qO.1
     obtain⟨yI,I3,NC⟩:=T0 (nG row jF wn m3.a);rw[oU]at I3;rw[qO.1,←nQ,←TY]at bZ;rw[I2,nQ,TY,ny,ny];rw[←TY];have fM:=fo row;have iz:=hf m3.G;rw[←nQ]at*;obtain⟨n8,IT,Fp,T1⟩:(∃aL,hn[dZ]?=j (.aE 5 xQ aL (a7 m3.O)))∧¬hn.length≤dZ∧¬hn.length≤a2∧¬dZ=a2:=by obtain⟨b_,b0,p1,oD,B9,B_,xO,n8,xP,_⟩:=aB;obtain rfl:a2=b_:=aa;obtain rfl:dZ=b0:=aa;exact⟨⟨oD,n8⟩,fH.2 (bQ.1 n8).1,fH.2 (bQ.1 xO).1,bi xP⟩
     obtain⟨aVJ,n8⟩:=n8;have bp:∀x:Nat,(x+1+1000000==0)=J:=λ x=>rfl
     simp(disch:=omega)only[aw,simprocAttr,o4,dd,b1,b7,bV,h8,TZ,dO,ua,jj,bZ,I3,kl,n8,Fp,IT,T1,bp,sD,PB];exact⟨_,_,rfl,⟨_,rfl⟩,a2,zY,dZ,xQ,yI,rfl,NC⟩
   have au:=pe.NB (w:=w);obtain⟨n9,FD,ajs⟩:=au;rw[Ch]at FD;rw[←ajs]at yx aOS TX nQ;generalize rG m3 w=m4 at*;clear aB pe Ch ajs;rintro R H ⟨⟨t3,rfl⟩,a,ag,b,ai,T,rfl,aB⟩;obtain⟨aVK,row,b2,dO,ua,jj,TZ,T0⟩:=ai_ aB n9.aJ.1 n9.G.1;have I2:fL m4=row:=by rw[fL,pN,b2,jQ]
   have qO:=n9.row;rw[I2,FD]at qO;have Gw:=ajp aR (show 1≤wid r by omega) n9.a;have bZ:=λ H=>aK7 (l:=row) aa aa qO.2 jF (b:=r) (ed:=[]) Gw.2 (by rw[ajq];omega) aa m4.a H
   have oU:(mU row jF [r] w m4.a).length=m.w:=by rw[aie];exact qO.1
   obtain⟨yI,I3,NC⟩:=T0 (mU row jF [r] w m4.a);rw[oU]at I3;rw[qO.1,←nQ,ajq]at bZ;have aOT:uQ m4 r w={m4 with G:=m4.G.set m4.aJ.r.toNat (mU row jF [r] w m4.a)}:=by unfold uQ;rw[I2,nQ,ny]
   have kk:=aOO aR;have fM:=fo row;have iz:=hf m4.G;obtain⟨n8,IT,Fp,T1⟩:(∃aL,T[b]?=j (.aE 5 ai aL (a7 m4.O)))∧¬T.length≤b∧¬T.length≤a∧¬b=a:=by obtain⟨b_,b0,p1,oD,B9,B_,xO,n8,xP,_⟩:=aB;obtain rfl:a=b_:=aa;obtain rfl:b=b0:=aa;exact⟨⟨oD,n8⟩,fH.2 (bQ.1 n8).1,fH.2 (bQ.1 xO).1,bi xP⟩
   obtain⟨aVL,n8⟩:=n8;have bp:∀x:Nat,(x+1+1000000==0)=J:=λ x=>rfl
   rw[aOT];simp(disch:=omega)only[aw,simprocAttr,o4,dd,b1,b7,bV,TZ,dO,ua,jj,kk,bZ,I3,kl,n8,Fp,IT,T1,bp,sD,PB];unfold Cf;simp only[FD];by_cases FE:m4.aJ.c+w=m.w
   ·rw[if_pos FE];simp(disch:=omega)only[aw,simprocAttr,o4,dd,b1,b7,bV,FE];exact⟨_,rfl,zR NC⟩
   ·rw[if_neg FE];simp(disch:=omega)only[aw,simprocAttr,o4,dd,b1,b7,bV,FE];exact⟨_,rfl,zR NC⟩
def I4(m:M):M:=if m.md.jd=ah then n7 m else m
def FF(m:M)(c:Int):M:=
 if c=8 then{m with aJ:=n2 m.aJ (-1) (cx m)}else if c=9 then sP m (pc m.c9 m.aJ.c)else if c=10∨c=11∨c=12 then I4 (mh m)
 else if c=13 then n7 m else if c=14 then{m with md:={m.md with ef:=1}}else if c=15 then{m with md:={m.md with ef:=0}}else m
def bt.ND{m:M}(h:bt m){d:li}(aP:(d.dJ=66∨d.dJ=48)∧(d.s1=66∨d.s1=48)∧(d.ef=0∨d.ef=1)):bt {m with md:=d}:=
 {w:=h.w,h:=h.h,G:=h.G,O:=h.O,aJ:=h.aJ,b3:=h.b3,a:=h.a,aH:=h.aH,dm:=h.dm,c9:=h.c9,back:=h.back,bO:=aP,iF:=h.iF,eX:=h.eX,dL:=h.dL}
def bt.jd{m:M}(h:bt m):bt (I4 m):=by
 unfold I4;split
 ·exact h.mX
 ·exact h
def bt.T2{m:M}(h:bt m)(c:Int):bt (FF m c):=by
 have hw:=h.w;have bA:=h.c9;have aU:=h.bO;unfold FF;split
 ·exact h.kx (Nr _ _ h)
 ·split
  ·exact h.bk (by have:=ajc (l:=m.c9) aa m.aJ.c;omega)
  ·split
   ·exact h.feed.jd
   ·split
    ·exact h.mX
    ·split
     ·exact h.ND ⟨aU.1,aU.2.1,.inr rfl⟩
     ·split
      ·exact h.ND ⟨aU.1,aU.2.1,.inl rfl⟩
      ·exact h
def aOU{m:M}(hm:bt m)(c:Int):h4 53 [.i (.v (.int .u8 (c)))] m (.bl []) (FF m c):=by
 intro ag aH ai aL;have hw:=hm.w;have bA:=hm.c9;unfold FF;by_cases hC:c=8
 ·subst hC;rw[if_pos rfl];have ar:=aNo (m:=m) (a:=0) (b:=1) (ag:=ag) (ai:=ai) (T:=[.aE 5 ag aH (a7 m.G),.aE 5 ai aL (a7 m.O)]) rfl rfl bU hm.cx (-1);simp only[cJ,dl]at ar;rw[bz xn];simp(disch:=omega)only[aw,simprocAttr,zn,fI,b1,b7,bV,ar];exact⟨_,rfl,eD.eb⟩
 ·rw[if_neg hC];by_cases ha:c=9
  ·subst ha;rw[if_pos rfl];have ar:=Nk (m:=m) (a:=0) (b:=1) (ag:=ag) (ai:=ai) (T:=[.aE 5 ag aH (a7 m.G),.aE 5 ai aL (a7 m.O)]) rfl rfl bU (pc m.c9 m.aJ.c);have aM:=λ H=>aiA m.c9 m.aJ.c aa H
   simp only[cJ,dl]at ar;rw[bz xn];simp(disch:=omega)only[aw,simprocAttr,zn,fI,b1,b7,bV,ar,aM];exact⟨_,rfl,eD.eb⟩
  ·rw[if_neg ha];by_cases ta:c=10∨c=11∨c=12
   ·rw[if_pos ta];obtain⟨H1,ar,fm⟩:=mW (f:=92) rfl rfl rfl (IR hm) (iO.eb (m:=m) (ag:=ag) (ai:=ai) (aH:=aH) (aL:=aL) (T:=[]));obtain⟨a,kY,b,kZ,T,rfl,aB⟩:=fm;generalize mh m=m1 at*;unfold I4;obtain⟨b_,b0,p1,oD,B9,B_,xO,n8,xP,cr⟩:=aB;obtain rfl:a=b_:=aa;obtain rfl:b=b0:=aa;have aM:=IH (m:=m1) (ag:=kY) (ai:=kZ) xO n8 xP;have aB:h3 1 m1 (a+1) kY (b+1) kZ T:=⟨a,b,p1,oD,rfl,rfl,xO,n8,xP,cr⟩;cases oU:m1.md.jd with
    |false=>
     simp only[gk,if_false];rcases ta with rfl|rfl|rfl<;>(
      rw[bz xn];simp(disch:=omega)only[aw,simprocAttr,zn,fI,b1,b7,bV,ar,oU];exact⟨_,rfl,zR aB⟩)
    |true=>
     simp only[if_true];rcases ta with rfl|rfl|rfl<;>(
      rw[bz xn];simp(disch:=omega)only[aw,simprocAttr,zn,fI,b1,b7,bV,ar,aM,oU];exact⟨_,rfl,zR (m:=n7 m1) aB⟩)
   ·rw[if_neg ta];have aVM:¬c=10:=λ h=>ta (.inl h)
    have aVN:¬c=11:=λ h=>ta (.inr (.inl h))
    have aVO:¬c=12:=λ h=>ta (.inr (.inr h))
    by_cases ajt:c=13
    ·subst ajt;rw[if_pos rfl];have ar:=IH (m:=m) (a:=0) (b:=1) (ag:=ag) (ai:=ai) (T:=[.aE 5 ag aH (a7 m.G),.aE 5 ai aL (a7 m.O)]) rfl rfl bU;simp only[cJ,dl]at ar;rw[bz xn];simp(disch:=omega)only[aw,simprocAttr,zn,fI,b1,b7,bV,ar];exact⟨_,rfl,eD.eb⟩
    ·rw[if_neg ajt];by_cases aju:c=14
     ·subst aju;rw[if_pos rfl];have ar:=λ H=>ajl m.md 1 (.inr rfl) H
      rw[bz xn];simp(disch:=omega)only[aw,simprocAttr,zn,fI,b1,b7,bV,ar];exact⟨_,rfl,eD.eb⟩
     ·rw[if_neg aju];by_cases ajv:c=15
      ·subst ajv;rw[if_pos rfl];have ar:=λ H=>ajl m.md 0 (.inl rfl) H
       rw[bz xn];simp(disch:=omega)only[aw,simprocAttr,zn,fI,b1,b7,bV,ar];exact⟨_,rfl,eD.eb⟩
      ·rw[if_neg ajv];rw[bz xn];simp(disch:=omega)only[aw,simprocAttr,zn,fI,b1,b7,bV];exact⟨_,rfl,eD.eb⟩
def qQ(n:Int):Bool:=decide (n=47∨n=1047∨n=1049)
def NE(H:ab):cF 149 [] H (.i (.af 1 [[.v (.int .i64 47)],[.v (.int .i64 1047)],[.v (.int .i64 1049)]] J)):=cI (by
 refine bE agr ?_;simp(disch:=omega)only[aw,simprocAttr,aIt,bN];exact be)
def T3{n:Int}(h:¬n=47):ew E 0 211 (fu f211 0) [(0,.i (.af 1 [[.v (.int .i64 47)],[.v (.int .i64 1047)],[.v (.int .i64 1049)]] J)),(1,.i (.v (.int .i64 (n)))),(7,.i (.v (.int .i64 (3)))),(8,.i (.v (.int .i64 (0))))] []=ew E 0 211 (fu f211 0) [(0,.i (.af 1 [[.v (.int .i64 47)],[.v (.int .i64 1047)],[.v (.int .i64 1049)]] J)),(1,.i (.v (.int .i64 (n)))),(7,.i (.v (.int .i64 (3)))),(8,.i (.v (.int .i64 (1))))] []:=by rw[cO tB 0];simp(disch:=omega)only[aw,simprocAttr,xp,bN,xr]
def ajw{n:Int}(h:¬n=1047):ew E 0 211 (fu f211 0) [(0,.i (.af 1 [[.v (.int .i64 47)],[.v (.int .i64 1047)],[.v (.int .i64 1049)]] J)),(1,.i (.v (.int .i64 (n)))),(7,.i (.v (.int .i64 (3)))),(8,.i (.v (.int .i64 (1))))] []=ew E 0 211 (fu f211 0) [(0,.i (.af 1 [[.v (.int .i64 47)],[.v (.int .i64 1047)],[.v (.int .i64 1049)]] J)),(1,.i (.v (.int .i64 (n)))),(7,.i (.v (.int .i64 (3)))),(8,.i (.v (.int .i64 (2))))] []:=by rw[cO tB 0];simp(disch:=omega)only[aw,simprocAttr,xp,bN,xr]
def aOV{n:Int}(h:¬n=1049):ew E 0 211 (fu f211 0) [(0,.i (.af 1 [[.v (.int .i64 47)],[.v (.int .i64 1047)],[.v (.int .i64 1049)]] J)),(1,.i (.v (.int .i64 (n)))),(7,.i (.v (.int .i64 (3)))),(8,.i (.v (.int .i64 (2))))] []=ew E 0 211 (fu f211 0) [(0,.i (.af 1 [[.v (.int .i64 47)],[.v (.int .i64 1047)],[.v (.int .i64 1049)]] J)),(1,.i (.v (.int .i64 (n)))),(7,.i (.v (.int .i64 (3)))),(8,.i (.v (.int .i64 (3))))] []:=by rw[cO tB 0];simp(disch:=omega)only[aw,simprocAttr,xp,bN,xr]
def aOW{n:Int}:ie tB 0 [(0,.i (.af 1 [[.v (.int .i64 47)],[.v (.int .i64 1047)],[.v (.int .i64 1049)]] J)),(1,n),(7,↑(3:Int)),(8,↑(3:Int))] [] 0 [(0,.i (.af 1 [[.v (.int .i64 47)],[.v (.int .i64 1047)],[.v (.int .i64 1049)]] J)),(1,n),(7,↑(3:Int)),(8,↑(3:Int)),(9,J)] []:=by refine(cO tB 0).trans ?_;simp(disch:=omega)only[aw,simprocAttr,xp,bN,xr]
def aOX{n:Int}(h:n=47):ew E 0 211 (fu f211 0) [(0,.i (.af 1 [[.v (.int .i64 47)],[.v (.int .i64 1047)],[.v (.int .i64 1049)]] J)),(1,.i (.v (.int .i64 (n)))),(7,.i (.v (.int .i64 (3)))),(8,.i (.v (.int .i64 (0))))] []=j (.ret,[(4,.i (.v (.int .i64 (0))))],[]):=by rw[cO tB 0];simp(disch:=omega)only[aw,simprocAttr,xp,bN,xr]
def aOY{n:Int}(h:n=1047):ew E 0 211 (fu f211 0) [(0,.i (.af 1 [[.v (.int .i64 47)],[.v (.int .i64 1047)],[.v (.int .i64 1049)]] J)),(1,.i (.v (.int .i64 (n)))),(7,.i (.v (.int .i64 (3)))),(8,.i (.v (.int .i64 (1))))] []=j (.ret,[(4,.i (.v (.int .i64 (1))))],[]):=by rw[cO tB 0];simp(disch:=omega)only[aw,simprocAttr,xp,bN,xr]
def aOZ{n:Int}(h:n=1049):ew E 0 211 (fu f211 0) [(0,.i (.af 1 [[.v (.int .i64 47)],[.v (.int .i64 1047)],[.v (.int .i64 1049)]] J)),(1,.i (.v (.int .i64 (n)))),(7,.i (.v (.int .i64 (3)))),(8,.i (.v (.int .i64 (2))))] []=j (.ret,[(4,.i (.v (.int .i64 (2))))],[]):=by rw[cO tB 0];simp(disch:=omega)only[aw,simprocAttr,xp,bN,xr]
def aO0(n:Int):∃ac:Int,((qQ n=ah∧0≤ac∧ac≤3)∨(qQ n=J∧ac=-1))∧∀H,cF 211 [.i (.af 1 [[.v (.int .i64 47)],[.v (.int .i64 1047)],[.v (.int .i64 1049)]] J),n] H ac:=by
 have key:(∃ac:Int,(qQ n=ah∧0≤ac∧ac≤3)∧ew E 0 211 (fu f211 0) [(0,.i (.af 1 [[.v (.int .i64 47)],[.v (.int .i64 1047)],[.v (.int .i64 1049)]] J)),(1,.i (.v (.int .i64 (n)))),(7,.i (.v (.int .i64 (3)))),(8,.i (.v (.int .i64 (0))))] []=j (.ret,[(4,.i (.v (.int .i64 (ac))))],[]))∨(qQ n=J∧ew E 0 211 (fu f211 0) [(0,.i (.af 1 [[.v (.int .i64 47)],[.v (.int .i64 1047)],[.v (.int .i64 1049)]] J)),(1,.i (.v (.int .i64 (n)))),(7,.i (.v (.int .i64 (3)))),(8,.i (.v (.int .i64 (0))))] []=j (.exit 0,[(0,.i (.af 1 [[.v (.int .i64 47)],[.v (.int .i64 1047)],[.v (.int .i64 1049)]] J)),(1,.i (.v (.int .i64 (n)))),(7,.i (.v (.int .i64 (3)))),(8,.i (.v (.int .i64 (3)))),(9,.i (.v (.bool (J))))],[])):=by
  by_cases a8:n=47
  ·exact .inl ⟨0,⟨by simp[qQ,a8],aa⟩,aOX a8⟩
  ·by_cases p:n=1047
   ·exact .inl ⟨1,⟨by simp[qQ,p],aa⟩,(T3 a8).trans (aOY p)⟩
   ·by_cases U:n=1049
    ·exact .inl ⟨2,⟨by simp[qQ,U],aa⟩,(T3 a8).trans ((ajw p).trans (aOZ U))⟩
    ·exact .inr ⟨by simp[qQ,a8,p,U],(T3 a8).trans ((ajw p).trans ((aOV U).trans aOW))⟩
 rcases key with⟨ac,bc,e⟩|⟨aF,e⟩
 ·refine⟨ac,.inl bc,λ H=>hF rfl rfl rfl ?_⟩;rw[bz tB];simp(disch:=omega)only[aw,simprocAttr,xp,bN,e,xr];exact be
 ·refine⟨-1,.inr ⟨aF,rfl⟩,λ H=>hF rfl rfl rfl ?_⟩;rw[bz tB];simp(disch:=omega)only[aw,simprocAttr,xp,bN,e,xr];exact be
def aO1(n:Int)(H:ab):cF 148 [.i (.af 1 [[.v (.int .i64 47)],[.v (.int .i64 1047)],[.v (.int .i64 1049)]] J),n] H (↑(qQ n)):=cI (by
 obtain⟨ac,bc,e⟩:=aO0 n;rcases bc with⟨aF,p,U⟩|⟨aF,p⟩
 ·rw[aF];refine bE Sh ?_;simp(disch:=omega)only[aw,simprocAttr,agq,bN,e];exact be
 ·rw[aF];subst p;refine bE Sh ?_;simp(disch:=omega)only[aw,simprocAttr,agq,bN,e];exact be)
def FG(m:M)(a ag b ai:Nat):(aW m a ag b ai).set 35 (.i (iS ((E.kinds 42).getD 35 o) (.af 1 (eZ m.c9) J)))=aW m a ag b ai:=rfl
def FH(m:M)(a ag b ai:Nat):(aW m a ag b ai).set 36 (.i (iS ((E.kinds 42).getD 36 o) (IG m.gD m.back)))=aW {m with gD:=J} a ag b ai:=by
 obtain⟨w,h,G,O,aJ,b3,at',md,cW,ck,c9,gD,back,bn,eX,dL⟩:=m;cases gD with
 |false=>rfl
 |true=>cases back<;>rfl
def T4{m:M}{a ag b ai c gc w h:Nat}(hw:w=m.w)(aV:h=m.h):.i (.v (.int .i64 (w)))::.i (.v (.int .i64 (h)))::.x (.d c gc 0 h)::e_ 3 (aW m a ag b ai)=aW m c gc b ai:=by subst hw aV;rfl
def T5{m:M}{a ag b ai c gc w h:Nat}(hw:w=m.w)(aV:h=m.h):.i (.v (.int .i64 (w)))::.i (.v (.int .i64 (h)))::.x (.d a ag 0 h)::.i (.v (.int .i64 (w)))::.i (.v (.int .i64 (h)))::.x (.d c gc 0 h)::e_ 6 (aW m a ag b ai)=aW m a ag c gc:=by subst hw aV;rfl
def zZ(m:M):M:={m with aJ:=m.b3.aJ,a:=m.b3.a,md:={m.md with dq:=m.b3.dq,dJ:=m.b3.dJ,s1:=m.b3.s1,ef:=m.b3.ef}}
def FI(m:M):M:={m with b3:=⟨m.aJ,m.a,m.md.dq,m.md.dJ,m.md.s1,m.md.ef⟩}
def FJ(m:M)(I n:Int)(on:Bool):M:=
 let d:=hP I on m.md n
 if I=0 then{m with md:=d}else
 if n=6 then{m with md:=d,aJ:=⟨toR 1 (cx {m with md:=d}),lS 1 (cx {m with md:=d}),J⟩}else
 if qQ n=J∨d.gq=m.md.gq then{m with md:=d}else
 if n=1049 then(if d.gq=ah then{m with md:=d,b3:=⟨m.aJ,m.a,m.md.dq,m.md.dJ,m.md.s1,m.md.ef⟩,G:=jE m.w m.h,O:=m.G}else zZ {m with md:=d,G:=m.O,O:=m.G})
 else{m with md:=d,G:=m.O,O:=m.G}
def aO2(I:Int)(on:Bool)(m:li)(n:Int):(hP I on m n).dJ=m.dJ∧(hP I on m n).s1=m.s1∧(hP I on m n).ef=m.ef:=by
 unfold hP;split
 ·unfold Tu;split<;>exact⟨rfl,rfl,rfl⟩
 ·exact⟨rfl,rfl,rfl⟩
def bt.hP{m:M}(h:bt m)(I n:Int)(on:Bool):bt {m with md:=hP I on m.md n}:=by obtain⟨p,U,az⟩:=aO2 I on m.md n;exact h.ND (by rw[p,U,az];exact h.bO)
def bt.FK{m:M}(h:bt m):bt (zZ m):=
 {w:=h.w,h:=h.h,G:=h.G,O:=h.O,aJ:=h.b3,b3:=h.b3,a:=h.aH,aH:=h.aH,dm:=h.dm,c9:=h.c9,back:=h.back,bO:=h.iF,iF:=h.iF,eX:=h.eX,dL:=h.dL}
def bt.I5{m:M}(h:bt m):bt (FI m):=
 {w:=h.w,h:=h.h,G:=h.G,O:=h.O,aJ:=h.aJ,b3:=h.aJ,a:=h.a,aH:=h.a,dm:=h.dm,c9:=h.c9,back:=h.back,bO:=h.bO,iF:=h.bO,eX:=h.eX,dL:=h.dL}
def bt.T6{m:M}(h:bt m){G O:cQ}(mg:G.length=m.h∧lg m.w G)(sJ:O.length=m.h∧lg m.w O):bt {m with G:=G,O:=O}:=
 {w:=h.w,h:=h.h,G:=mg,O:=sJ,aJ:=h.aJ,b3:=h.b3,a:=h.a,aH:=h.aH,dm:=h.dm,c9:=h.c9,back:=h.back,bO:=h.bO,iF:=h.iF,eX:=h.eX,dL:=h.dL}
def T7(w h:Nat):(jE w h).length=h∧lg w (jE w h):=by refine⟨mG,λ r ak=>?_⟩;obtain⟨_,rfl⟩:=TF.1 ak;exact⟨BW _ _,(fj.rC bU w).I⟩
def bt.mod{m:M}(h:bt m)(I n:Int)(on:Bool):bt (FJ m I n on):=by
 have p:=h.hP I n on;unfold FJ;simp only;split
 ·exact p
 ·split
  ·exact p.kx (IQ 1 1 p)
  ·split
   ·exact p
   ·split
    ·split
     ·have U:=(p.T6 (G:=jE m.w m.h) (O:=m.G) (T7 _ _) h.G);exact{w:=h.w,h:=h.h,G:=U.G,O:=U.O,aJ:=h.aJ,b3:=h.aJ,a:=h.a,aH:=h.a,dm:=h.dm,c9:=h.c9,back:=h.back,bO:=p.bO,iF:=h.bO,eX:=h.eX,dL:=h.dL}
     ·exact(p.T6 h.O h.G).FK
    ·exact p.T6 h.O h.G
def aO3(n:Nat):(n+1==n||n==n+999999)=J:=aX
def aO4{m:M}(hm:bt m)(I n:Int)(ax:I=0∨I=63)(on:Bool):h4 109 [.i (.v (.int .u8 (I))),.i (.v (.int .i64 (n))),.i (.v (.bool (on)))] m (.bl []) (FJ m I n on):=by
 intro ag aH ai aL;have ar:=λ H=>aOE m.md I n on H
 have aM:=λ H=>aO1 n H
 have A1:=hm.hP I n on;unfold FJ;simp only;generalize hP I on m.md n=d at*;by_cases ue:I=0
 ·rw[if_pos ue];subst ue;rw[bz EB];simp(disch:=omega)only[aw,simprocAttr,sE,bN,b1,b7,bV,FG,FH,ar,dC];exact⟨_,rfl,eD.eb⟩
 ·rw[if_neg ue];obtain rfl:I=63:=aa;by_cases dN:n=6
  ·rw[if_pos dN];subst dN;rw[show qQ 6=J from rfl]at aM;have bZ:=λ z=>aiK (m:={m with md:=d}) (a:=0) (b:=1) (ag:=ag) (ai:=ai) (T:=.aE 5 ag aH (a7 m.G)::.aE 5 ai aL (a7 m.O)::z) rfl rfl bU A1.cx 1 1
   simp only[cJ,dl]at bZ;rw[bz EB];simp(disch:=omega)only[aw,simprocAttr,sE,bN,b1,b7,bV,FG,FH,ar,aM,bZ,NE,dC];exact⟨_,rfl,eD.eb⟩
  ·rw[if_neg dN];by_cases aF:qQ n=J∨d.gq=m.md.gq
   ·rw[if_pos aF];cases dc:qQ n with
    |false=>rw[dc]at aM;rw[bz EB];simp(disch:=omega)only[aw,simprocAttr,sE,bN,b1,b7,bV,FG,FH,ar,aM,NE,dC];exact⟨_,rfl,eD.eb⟩
    |true=>
     have B6:d.gq=m.md.gq:=by rcases aF with h|h;rw[dc]at h;cases h;exact h
     rw[dc]at aM;have T8:(d.gq==m.md.gq)=ah:=by rw[B6];exact beq_self_eq_true _
     rw[bz EB];simp(disch:=omega)only[aw,simprocAttr,sE,bN,b1,b7,bV,FG,FH,ar,aM,T8,NE,dC];exact⟨_,rfl,eD.eb⟩
   ·rw[if_neg aF];have dc:qQ n=ah:=by cases h:qQ n;exact absurd (.inl h) aF;rfl
    have T8:(d.gq==m.md.gq)=J:=by simp;exact λ h=>aF (.inr h)
    rw[dc]at aM;rw[bz EB];simp(disch:=omega)only[aw,simprocAttr,sE,bN,b1,b7,bV,FG,FH,ar,aM,NE,dC];obtain⟨m3,pe⟩:∃m3,({m with md:=d}:M)=m3:=⟨_,rfl⟩;have z1:m3.md=d:=by rw[←pe]
    have Ci:m3.aJ=m.aJ:=by rw[←pe]
    have aVP:m3.a=m.a:=by rw[←pe]
    have Ch:m3.w=m.w:=by rw[←pe]
    have aO5:m3.h=m.h:=by rw[←pe]
    refine B8 (λ R H=>(∃t,R=(0,.ptr 0 0 0 0)::(2,.i (.v (.int .i64 (n))))::(8,.ptr 3 0 0 0)::t)∧∃T,H=.box (aW m3 1 ag 2 ai)::.aE 5 ag aH (a7 m.G)::.aE 5 ai aL (a7 m.O)::.box (aW {m with gD:=J} 1 ag 2 ai)::T) ?_ ?_
    ·rw[←pe];simp(disch:=omega)only[aw,simprocAttr,sE,bN,T8];exact⟨_,_,rfl,⟨_,rfl⟩,_,rfl⟩
    rintro R H ⟨⟨t,rfl⟩,T,rfl⟩;simp(disch:=omega)only[aw,simprocAttr,sE,bN,b1,b7,bV];have qo:m3.G=m.G∧m3.O=m.O:=by rw[←pe];exact⟨rfl,rfl⟩
    obtain⟨m4,n9⟩:∃m4:M,m4=if n=1049∧d.gq=ah then{m3 with b3:=⟨m3.aJ,m3.a,m.md.dq,m.md.dJ,m.md.s1,m.md.ef⟩}else m3:=⟨_,rfl⟩
    refine B8 (λ R H=>(∃t,R=(0,.ptr 0 0 0 0)::(2,.i (.v (.int .i64 (n))))::t)∧∃T,H=.box (aW m4 1 ag 2 ai)::.aE 5 ag aH (a7 m.G)::.aE 5 ai aL (a7 m.O)::T) ?_ ?_
    ·by_cases Cj:n=1049
     ·subst Cj;cases fS:d.gq with
      |true=>
       rw[if_pos ⟨rfl,fS⟩]at n9;have NF:m3.md.gq=ah:=by rw[z1];exact fS
       have bZ:=λ x z=>aiM (m:={m3 with md:=m.md}) (a:=0) (b:=1) (ag:=ag) (ai:=ai) (T:=.aE 5 ag aH (a7 m.G)::.aE 5 ai aL (a7 m.O)::x::z) rfl rfl bU
       simp only[cJ,dl]at bZ;rw[n9];have ap:(⟨m3.md.ins,m3.md.jd,m3.md.lj,m3.md.dq,m3.md.wr,m3.md.jo,ah,m3.md.lk,m3.md.dJ,m3.md.s1,m3.md.ef⟩:li)=m3.md:=by rw[←NF]
       simp(disch:=omega)only[aw,simprocAttr,sE,bN,b1,b7,bV,NF,bZ];rw[ap];exact⟨_,_,rfl,⟨_,rfl⟩,_,rfl⟩
      |false=>
       rw[if_neg (by simp[fS])]at n9;have NF:m3.md.gq=J:=by rw[z1];exact fS
       rw[n9];simp(disch:=omega)only[aw,simprocAttr,sE,bN,b1,b7,bV,NF];exact⟨_,_,rfl,⟨_,rfl⟩,_,rfl⟩
     ·rw[if_neg (λ h=>Cj h.1)]at n9;rw[n9];simp(disch:=omega)only[aw,simprocAttr,sE,bN,b1,b7,bV];exact⟨_,_,rfl,⟨_,rfl⟩,_,rfl⟩
    rintro R H ⟨⟨t,rfl⟩,T,rfl⟩;have ajx:m4.md=d:=by rw[n9];split<;>exact z1
    have FD:m4.w=m.w∧m4.h=m.h:=by rw[n9];split<;>exact⟨Ch,aO5⟩
    have fin:∀{T:ab},eD {m4 with G:=m.O,O:=m.G} (.box (aW m4 2 ai 1 ag)::.aE 5 ag aH (a7 m.G)::.aE 5 ai aL (a7 m.O)::T):=⟨_,_,_,_,_,rfl,oE (m:={m4 with G:=m.O,O:=m.G}) (a:=1) (b:=0) rfl rfl bU rfl rfl⟩;by_cases Cj:n=1049
    ·rw[if_pos Cj];subst Cj;cases fS:d.gq with
     |true=>
      have T9:m4.md.gq=ah:=by rw[ajx];exact fS
      have dx:=λ H=>aio m.w m.h hm.w hm.h H
      rw[←FD.1,←FD.2]at dx;have e:({m with md:=d,b3:=⟨m.aJ,m.a,m.md.dq,m.md.dJ,m.md.s1,m.md.ef⟩,G:=jE m.w m.h,O:=m.G}:M)={m4 with G:=jE m4.w m4.h,O:=m.G}:=by rw[if_pos ⟨rfl,fS⟩]at n9;rw[n9,←pe]
      simp only[if_true];rw[e];have g1:∀x y:Chunk,(T++[x]++[y])[T.length]?=j x:=λ x y=>aX
      have g2:∀x y z:Chunk,(T++[x]++[y]).set T.length z=T++[z]++[y]:=λ x y z=>aX
      have g3:∀x y a b:Chunk,(a::b::(T++[x]++[y]))[T.length+3]?=j y:=λ x y a b=>by rw[show T.length+3=(T.length+1)+1+1 from rfl,kp,kp,hK aX];simp
      simp(disch:=omega)only[aw,simprocAttr,sE,bN,b1,b7,bV,T4,T5,T9,dx,g1,g2,aO3,Nat.add_sub_cancel_left];have cr:h3 1 {m4 with G:=jE m4.w m4.h,O:=m.G} (T.length+3+1) 0 (0+1) ag (.aE 5 ag aH (a7 m.G)::.aE 5 ai aL (a7 m.O)::(T++[.box [.i (.v (.int .i64 (m4.w))),.i (.v (.int .i64 (m4.h))),.x (.d (T.length+1+1+1+1) 0 0 m4.h)]]++[.aE 5 0 0 (a7 (jE m4.w m4.h))])):=oE (aH:=0) (g3 _ _ _ _) rfl aa rfl rfl;exact⟨_,rfl,zR cr⟩
     |false=>
      have T9:m4.md.gq=J:=by rw[ajx];exact fS
      simp only[gk,if_false];rw[if_neg (by simp[fS])]at n9;have pz:=λ z=>aiO (m:=m4) (a:=1) (b:=0) (ag:=ai) (ai:=ag) (T:=.aE 5 ag aH (a7 m.G)::.aE 5 ai aL (a7 m.O)::z) rfl rfl bU
      simp only[cJ,dl]at pz;simp(disch:=omega)only[aw,simprocAttr,sE,bN,b1,b7,bV,T4,T5,T9,pz];subst n9 pe;unfold zZ;simp only at fS⊢;rw[fS];refine⟨_,rfl,_,_,_,_,_,rfl,?_⟩;exact oE (a:=1) (b:=0) rfl rfl bU rfl rfl
    ·rw[if_neg Cj];rw[if_neg (λ h=>Cj h.1)]at n9;simp(disch:=omega)only[aw,simprocAttr,sE,bN,b1,b7,bV,T4,T5];subst n9 pe;exact⟨_,rfl,fin⟩
def jY(w h:Nat):M:=⟨w,h,jE w h,jE w h,⟨0,0,J⟩,⟨⟨0,0,J⟩,⟨-1,-1,0⟩,J,66,66,0⟩,⟨-1,-1,0⟩,rD,0,h,kV w w,J,[],⟨0,[],[]⟩,[],[]⟩
def mM(w h:Nat)(hw:1≤w∧w≤132)(aV:1≤h∧h≤60):∃a b L,b' E 7 [.i (.v (.int .i64 (w))),.i (.v (.int .i64 (h)))] []=j (.bl [.agg (aW (jY w h) a 0 b 0),.i (.v (.int .i64 (0)))],L)∧a≠b∧L[a]?=j (.aE 5 0 0 (a7 (jE w h)))∧L[b]?=j (.aE 5 0 0 (a7 (jE w h))):=by
 have ar:=λ H=>aio w h hw aV H
 have aM:=λ H=>aMd w hw.2 H
 have ao:(eZ (kV w w)).length=w:=by rw[n5,B1]
 have iz:(a7 (jE w h)).length=h:=Nd w h;unfold jY rD;generalize kV w w=dm at*;generalize jE w h=rC at*;rw[bz afl];simp(disch:=omega)only[aw,simprocAttr,aHy,ar,aM,aOs,aji];exact⟨1,3,_,rfl,bU,by rfl,by rfl⟩
def aO6{g:Nat}{bC:aZ}{a b:Nat}{m:M}{x y:Chunk}{v:bx}{H:ab}(he:E.ext g=o)(ak:bI bC=[])(ap:x.refs=[])(bb:y.refs=[])(dc:a≠b)(aj:∃L,b' E g bC []=j (.bl [.agg (aW m a 0 b 0),.i v],L)∧L[a]?=j x∧L[b]?=j y):
  cE g bC H (.bl [.agg (aW m H.length 0 (H.length+1) 0),.i v]) (H++[x,y]):=by
 obtain⟨L,aj,fl,uI⟩:=aj;have p:=(gx (bD [])).2 bC ak;have mO:=lR ap;have IC:=lR bb;have ib:bj (.bl [.agg (aW m a 0 b 0),.i v])=[a,b]:=rfl;have bK:=fH.2 (bQ.1 fl).1;have bJ:=fH.2 (bQ.1 uI).1;have dA:reach L 64 [a,b] []=[a,b]:=by simp[reach,fl,uI,ap,bb,dc,bi dc,bK,bJ]
 have ar:=ka (dG [] H.length [a,b]) m a 0 b 0 H.length (H.length+1) (by simp[dG,bD]) (by simp[dG,bD,bi dc,rl]);unfold cE dy;rw[ak];simp only[fg,he,reach,p,fN,aj,dS,ti,if_false,nU,tp,dC,ib,dA];simp[cB,cP,ar,fl,uI,mO,IC,ev]
def ajy(w h:Nat)(hw:1≤w∧w≤132)(aV:1≤h∧h≤60)(H:ab):cE 7 [w,h] H (.bl [.agg (aW (jY w h) H.length 0 (H.length+1) 0),↑(0:Int)]) (H++[.aE 5 0 0 (a7 (jE w h)),.aE 5 0 0 (a7 (jE w h))]):=by obtain⟨a,b,L,p,U,az,bh⟩:=mM w h hw aV;exact aO6 rfl rfl rfl rfl U ⟨L,p,az,bh⟩
def bt.new{w h:Nat}(hw:1≤w∧w≤132)(aV:1≤h∧h≤60):bt (jY w h):=
 {w:=hw,h:=aV,G:=T7 w h,O:=T7 w h,aJ:=⟨by simp only[jY];omega,by simp only[jY];omega,by simp[jY]⟩,b3:=⟨by simp only[jY];omega,by simp only[jY];omega,by simp[jY]⟩,a:=(by decide:iv ⟨-1,-1,0⟩=ah),aH:=(by decide:iv ⟨-1,-1,0⟩=ah),dm:=by simp only[jY];omega,c9:=B1 w w,back:=⟨by simp[jY],by simp[jY]⟩,bO:=by simp[jY,rD],iF:=by simp[jY],eX:=by simp[jY],dL:=by simp[jY]}
def I6(m:M):M:=if(sL m.aJ (cx m)).2=ah then lT {m with aJ:=(sL m.aJ (cx m)).1} m.cW (-1) J else{m with aJ:=(sL m.aJ (cx m)).1}
def FL(m:M)(s:bm)(c:Int):M:=
 if s≠[]then{m with md:=qN m.md s c}else
 if c=55 then FI m else if c=56 then zZ m else if c=69 then mh (n7 m)else if c=68 then mh m else if c=77 then I6 m
 else if c=72 then{m with c9:=m.c9.set m.aJ.c.toNat ah}else if c=99 then{jY m.w m.h with bn:=m.bn,dL:=m.dL}else m
def bt.rev{m:M}(h:bt m):bt (I6 m):=by
 unfold I6;split
 ·exact(h.kx (TD m.aJ h)).zS ⟨h.dm.1,h.dm.2.1⟩
 ·exact h.kx (TD m.aJ h)
def bt.T_{m:M}(h:bt m)(s:bm)(c:Int):bt (FL m s c):=by
 have aU:=h.bO;unfold FL;split
 ·refine h.ND ?_;unfold qN;split
  ·split
   ·refine⟨?_,aU.2⟩;simp only;omega
   ·split
    ·refine⟨aU.1,?_,aU.2.2⟩;simp only;omega
    ·exact aU
  ·exact aU
 ·repeat' split
  ·exact h.I5
  ·exact h.FK
  ·exact h.mX.feed
  ·exact h.feed
  ·exact h.rev
  ·exact h.TL (by rw[kl];exact h.c9)
  ·have aI:=bt.new h.w h.h;exact{w:=aI.w,h:=aI.h,G:=aI.G,O:=aI.O,aJ:=aI.aJ,b3:=aI.b3,a:=aI.a,aH:=aI.aH,dm:=aI.dm,c9:=aI.c9,back:=aI.back,bO:=aI.bO,iF:=aI.iF,eX:=aI.eX,dL:=h.dL}
  ·exact h
def T'(m m2:M)(a ag b ai a2 zY dZ xQ:Nat):aW m2 a2 zY dZ xQ++e_ 42 (aW m a ag b ai)=aW m2 a2 zY dZ xQ:=rfl
def aO7{m:M}(hm:bt m)(s:bm)(c:Int):h4 54 [.i (.str s),.i (.v (.int .u8 (c)))] m (.bl []) (FL m s c):=by
 intro ag aH ai aL;have hw:=hm.w;have bA:=hm.c9;have fA:=hm.aJ.2.1;unfold FL;by_cases aU:s=[]
 ·rw[if_neg (λ h=>h aU)];subst aU;by_cases ajz:c=55
  ·subst ajz;rw[if_pos rfl];have ar:=aiM (m:=m) (a:=0) (b:=1) (ag:=ag) (ai:=ai) (T:=[.aE 5 ag aH (a7 m.G),.aE 5 ai aL (a7 m.O)]) rfl rfl bU;simp only[cJ,dl]at ar;rw[bz uA];simp(disch:=omega)only[aw,simprocAttr,vJ,fI,b1,b7,bV,ar];exact⟨_,rfl,eD.eb⟩
  ·rw[if_neg ajz];by_cases ajA:c=56
   ·subst ajA;rw[if_pos rfl];have ar:=aiO (m:=m) (a:=0) (b:=1) (ag:=ag) (ai:=ai) (T:=[.aE 5 ag aH (a7 m.G),.aE 5 ai aL (a7 m.O)]) rfl rfl bU;simp only[cJ,dl]at ar;rw[bz uA];simp(disch:=omega)only[aw,simprocAttr,vJ,fI,b1,b7,bV,ar];exact⟨_,rfl,eD.eb⟩
   ·rw[if_neg ajA];by_cases ajB:c=69
    ·subst ajB;rw[if_pos rfl];have ar:=IH (m:=m) (a:=0) (b:=1) (ag:=ag) (ai:=ai) (T:=[.aE 5 ag aH (a7 m.G),.aE 5 ai aL (a7 m.O)]) rfl rfl bU;obtain⟨bG,aM,dZ⟩:=mW (f:=92) rfl rfl rfl (IR hm.mX) (iO.eb (m:=n7 m) (ag:=ag) (ai:=ai) (aH:=aH) (aL:=aL) (T:=[]));simp only[cJ,dl]at ar;simp only[n7,sP]at aM;rw[bz uA];simp(disch:=omega)only[aw,simprocAttr,vJ,fI,b1,b7,bV,ar,aM];exact⟨_,rfl,dZ.jF⟩
    ·rw[if_neg ajB];by_cases ajC:c=68
     ·subst ajC;rw[if_pos rfl];obtain⟨bG,aM,dZ⟩:=mW (f:=92) rfl rfl rfl (IR hm) (iO.eb (m:=m) (ag:=ag) (ai:=ai) (aH:=aH) (aL:=aL) (T:=[]));rw[bz uA];simp(disch:=omega)only[aw,simprocAttr,vJ,fI,b1,b7,bV,aM];exact⟨_,rfl,dZ.jF⟩
     ·rw[if_neg ajC];by_cases ajD:c=77
      ·subst ajD;rw[if_pos rfl];have ar:=λ z=>II (m:=m) (a:=0) (b:=1) (ag:=ag) (ai:=ai) (T:=.aE 5 ag aH (a7 m.G)::.aE 5 ai aL (a7 m.O)::z) rfl rfl bU
       have aM:=λ H=>aL7 m.aJ hm.cx H
       unfold I6;have M8:=hm.kx (TD m.aJ hm);obtain⟨q,bu⟩:∃q,sL m.aJ (cx m)=q:=⟨_,rfl⟩;rw[bu]at aM M8⊢;simp only[cJ,dl,cx]at ar aM;obtain⟨⟨IS,um,lm⟩,k⟩:=q;simp only at*;cases k with
       |false=>simp only[gk,if_false]at aM⊢;rw[bz uA];simp(disch:=omega)only[aw,simprocAttr,vJ,fI,b1,b7,bV,ar,aM];exact⟨_,rfl,eD.eb⟩
       |true=>simp only[if_true]at aM⊢;obtain⟨b_,c6,b0,c7,dk,bZ,i3,cL⟩:=Tz (f:=107) rfl rfl rfl (IL M8 m.cW (-1) J ⟨hm.dm.1,hm.dm.2.1⟩) (oE (m:={m with aJ:=⟨IS,um,lm⟩}) (a:=0) (b:=1) (ag:=ag) (ai:=ai) (aH:=aH) (aL:=aL) (x:=.aE 5 ag aH (a7 m.G)) (y:=.aE 5 ai aL (a7 m.O)) (T:=[.box [.i (.v (.int .i64 (IS))),.i (.v (.int .i64 (um))),.i (.v (.bool (lm)))]]) rfl rfl bU rfl rfl);simp only[cJ,dl]at bZ;rw[bz uA];simp(disch:=omega)only[aw,simprocAttr,vJ,fI,b1,b7,bV,ar,aM,bZ,show(0-1:Int)=-1 from rfl];exact⟨_,rfl,zR i3⟩
      ·rw[if_neg ajD];by_cases ajE:c=72
       ·subst ajE;rw[if_pos rfl];have ar:=λ H=>aiC m.c9 m.aJ.c.toNat aa aa ah H
        rw[show((m.aJ.c.toNat:Nat):Int)=m.aJ.c by omega]at ar;rw[bz uA];simp(disch:=omega)only[aw,simprocAttr,vJ,fI,b1,b7,bV,ar];exact⟨_,rfl,eD.eb⟩
       ·rw[if_neg ajE];by_cases ajF:c=99
        ·subst ajF;rw[if_pos rfl];have ar:=λ H=>ajy m.w m.h hm.w hm.h H
         obtain⟨hW,hL⟩:∃hW,jY m.w m.h=hW:=⟨_,rfl⟩;rw[hL]at ar⊢;have hmk:(aW ({hW with gD:=J,bn:=⟨m.bn.bO,m.bn.cd,m.bn.ca⟩,dL:=m.dL}:M) 4 0 5 0).set 36 (.i (iS ((E.kinds 42).getD 36 o) (IG J hW.back)))=aW ({hW with gD:=J,bn:=⟨m.bn.bO,m.bn.cd,m.bn.ca⟩,dL:=m.dL}:M) 4 0 5 0:=rfl;have aO8:(aW ({hW with gD:=J,bn:=⟨m.bn.bO,m.bn.cd,m.bn.ca⟩,dL:=m.dL}:M) 4 0 5 0).set 35 (.i (iS ((E.kinds 42).getD 35 o) (.af 1 (eZ hW.c9) J)))=aW ({hW with gD:=J,bn:=⟨m.bn.bO,m.bn.cd,m.bn.ca⟩,dL:=m.dL}:M) 4 0 5 0:=rfl;rw[bz uA];have ak:((ms 4 2).all λ c=>!(c==3||c==1000003))=ah:=rfl;simp(disch:=omega)only[aw,simprocAttr,vJ,fI,b1,b7,bV,FG,FH,T',ak,ar,hmk,aO8,dC];subst hL;refine⟨_,rfl,_,_,_,_,_,rfl,?_⟩;exact oE (a:=3) (b:=4) rfl rfl bU rfl rfl
        ·rw[if_neg ajF];rw[bz uA];simp(disch:=omega)only[aw,simprocAttr,vJ,fI,b1,b7,bV];exact⟨_,rfl,eD.eb⟩
 ·rw[if_pos aU];have ar:=λ H=>aOr m.md s c H
  have Fy:(s==[])=J:=by simpa using aU
  rw[bz uA];simp(disch:=omega)only[aw,simprocAttr,vJ,fI,b1,b7,bV,ar,aU,Fy];exact⟨_,rfl,eD.eb⟩
def I7(al:Nat)(m:M)(L:ab):Prop:=∃A ag B ai T,L=.box (aW m A ag B ai)::T∧h3 al m A ag B ai T
def Ua{n al:Nat}{m:M}{A ag B ai:Nat}{T H:ab}(aT:∀k,H[k+al]?=T[k]?)(cr:h3 al m A ag B ai T):I7 al m (Chunk.box (ff n H (aW m A ag B ai))::e0 n H al T):=by
 obtain⟨a,b,aH,aL,rfl,rfl,aF,an,dc,ao,a8,p⟩:=cr;have NG:H[a+al]?=_:=(aT a).trans aF;have NH:H[b+al]?=_:=(aT b).trans an;have e:ff n H (aW m (a+al) ag (b+al) ai)=aW m (a+al) (if a+al<n then ag else 0) (b+al) (if b+al<n then ai else 0):=by by_cases cm:a+al<n<;>by_cases cp:b+al<n<;>simp[aW,ff,eL,de.c,NG,NH,rS,cm,cp]
 have g:∀k,(e0 n H al T)[k]?=(T[k]?).map (el n H (al+k)):=w7 _ _ T al;refine⟨_,_,_,_,_,by rw[e],a,b,if a+al<n then aH else 0,if b+al<n then aL else 0,rfl,rfl,?_,?_,dc,by rw[qx];exact ao,λ x ap=>?_,λ x ap=>?_⟩
 ·rw[g,aF,eH,rl al a];by_cases cm:a+al<n<;>simp only[el,cm,if_true,if_false]
 ·rw[g,an,eH,rl al b];by_cases cm:b+al<n<;>simp only[el,cm,if_true,if_false]
 ·rw[g]at ap;obtain⟨fc,q,rfl⟩:=dp.1 ap;exact Np (a8 fc q)
 ·rw[g]at ap;obtain⟨fc,q,rfl⟩:=dp.1 ap;exact Np (p fc q)
def I8{P:ab}{m b6:M}{A ag B ai:Nat}{T aq:ab}(mF:∀x∈P,iN x)(cr:h3 (P.length+1) m A ag B ai T)(p:rA P.length b6 aq)(U:tE P.length (P++.box (aW m A ag B ai)::T) aq):
  ∃fJ c6 dQ c7 dk,aq=P++.box (aW b6 fJ c6 dQ c7)::dk∧h3 (P.length+1) b6 fJ c6 dQ c7 dk:=by
 obtain⟨fJ,c6,dQ,c7,aH,aL,cV,i2,i3,i4⟩:=p;obtain⟨bK,bJ,cL⟩:=U;have zF:=(bQ.1 cV).1;have A':aq.take P.length=P:=by
  apply DF;intro k;by_cases aA:k<P.length
  ·rw[Ub aA];have e:=bJ k P[k] (by rw[eO aA];exact eC aA) aa (mF _ (oi aA));rw[e];exact(eC aA).symm
  ·rw[sd (by rw[hV];omega),sd aa]
 obtain⟨ar,aM⟩:=bQ.1 cV;have aO9:aq=P++.box (aW b6 fJ c6 dQ c7)::aq.drop (P.length+1):=by
  conv=>lhs;rw[←Lo P.length aq,A',jk ar,aM]
 have aR:∀k,(aq.drop (P.length+1))[k]?=aq[k+(P.length+1)]?:=λ k=>by rw[s8,rl]
 have place:∀{c g s:Nat} {rows:c0},aq[c]?=j (.aE 5 g s rows)→∃k,c=k+(P.length+1):=λ{c g s rows} h=>by
  rcases Nat.lt_trichotomy c P.length with aj|aj|aj
  ·have e:=bJ c P[c] (by rw[eO aj];exact eC aj) aa (mF _ (oi aj));rw[h]at e;have:=mF _ (oi aj);rw[←q6 e]at this;exact this.elim
  ·subst aj;rw[cV]at h;cases h
  ·exact⟨c-(P.length+1),aa⟩
 obtain⟨b_,rfl⟩:=place i2;obtain⟨b0,rfl⟩:=place i3;obtain⟨a,b,aVQ,aVR,rfl,rfl,aF,an,dc,ao,a8,p⟩:=cr;have dO:∀k,(P++.box (aW m (a+(P.length+1)) ag (b+(P.length+1)) ai)::T)[k+(P.length+1)]?=T[k]?:=λ k=>by rw[hK aa,show k+(P.length+1)-P.length=k+1 by omega,kp]
 have ajG:∀k,k<T.length→(∀x:Chunk,T[k]?=j x→x.refs=[])→∀x:Chunk,(aq.drop (P.length+1))[k]?=j x→x.refs=[]:=λ k aA ap x s'=>by obtain⟨nN,gf,ft⟩:=cL (k+(P.length+1)) T[k] (by rw[dO];exact eC aA) aa (ap _ (eC aA));rw[aR,gf]at s';cases s';exact ft
 refine⟨_,_,_,_,_,aO9,b_,b0,aH,aL,rfl,rfl,by rw[aR];exact i2,by rw[aR];exact i3,aa,?_,ajG 0 aa a8,ajG 1 aa p⟩;rw[j6];simp only[dK,da]at bK;omega
def Ck(aY:Nat→cu):∀a b:aZ,cP aY (a++b)=cP aY a++cP aY b
 |[],b=>rfl
 |x::a,b=>by simp only[vF,cP,Ck aY a b]
def Cl:∀a b:aZ,bI (a++b)=bI a++bI b
 |[],b=>rfl
 |x::a,b=>by simp only[vF,bI,Cl a b,eo]
structure v7 (H:ab) (I:Nat) (m:M) (A ag B ai:Nat):Prop where
 ax:H[I]?=j (.box (aW m A ag B ai))
 b9:∃aH,H[A]?=j (.aE 5 ag aH (a7 m.G))
 c_:∃aL,H[B]?=j (.aE 5 ai aL (a7 m.O))
 jq:A≠B
def v7.lt{H:ab}{I:Nat}{m:M}{A ag B ai:Nat}(h:v7 H I m A ag B ai):¬H.length≤I∧¬H.length≤A∧¬H.length≤B∧I≠A∧I≠B:=by
 obtain⟨aH,b9⟩:=h.b9;obtain⟨aL,c_⟩:=h.c_;refine⟨fH.2 (bQ.1 h.ax).1,fH.2 (bQ.1 b9).1,fH.2 (bQ.1 c_).1,λ e=>?_,λ e=>?_⟩
 ·subst e;have:=h.ax;rw[b9]at this;cases this
 ·subst e;have:=h.ax;rw[c_]at this;cases this
def gi(X:ab)(f:Nat)(bC:aZ)(m:M)(r:ay)(b6:M):Prop:=∀ag aH ai aL,∃L,b' E f bC (X++[.box (aW m (X.length+1) ag (X.length+2) ai),.aE 5 ag aH (a7 m.G),.aE 5 ai aL (a7 m.O)])=j (r,X++L)∧I7 (X.length+1) b6 L
def h4.lm{f:Nat}{bC:aZ}{m b6:M}{r:ay}(h:h4 f bC m r b6):gi [] f (.ptr 0 0 0 0::bC) m r b6:=λ ag aH ai aL=>by obtain⟨L,e,A,c6,B,c7,T,rfl,i⟩:=h ag aH ai aL;exact⟨_,e,A,c6,B,c7,T,rfl,i⟩
def I9{f:Nat}{bC:aZ}{r:ay}{m b6:M}{H:ab}{I A ag B ai:Nat}(he:E.ext f=o)(hA:bI bC=[])(ak:bj r=[])(h:h4 f bC m r b6)(aT:v7 H I m A ag B ai):
  ∃aq,cE f (.ptr I 0 0 0::bC) H r aq∧rA I b6 aq∧tE I H aq:=by
 obtain⟨dt,fh,rH,gM,gU⟩:=aT.lt;obtain⟨ax,⟨aH,b9⟩,⟨aL,c_⟩,jq⟩:=aT;refine zO (vX:=.ptr 0 0 0 0::bC) (a1:=[]) (Z:=[]) (X:=[]) he ak ax b9 c_ jq ?_ ?_ rfl aX aX aX (λ _ _=>rfl) aX (λ _ _ _ _ _ h=>aiW h) (λ ag aH ai aL=>?_)
 ·simp[bI,bj,hA,reach,ax,b9,c_,kw,bV,dt,fh,rH,bi gM,bi gU,bi jq,Chunk.refs]
 ·simp only[cP,cB,(gx _).2 bC hA];simp[bD]
 ·obtain⟨L,e,A,c6,B,c7,T,rfl,i⟩:=h ag aH ai aL;exact⟨A,c6,B,c7,T,e,i⟩
def I_{f:Nat}{bC:aZ}{r:ay}{m b6:M}{H:ab}{q I A ag B ai:Nat}(he:E.ext f=o)(hA:bI bC=[])(ak:bj r=[])(h:gi [.box [.ptr 1 0 0 0]] f (bC++[.ptr 0 0 0 0]) m r b6)(aT:v7 H I m A ag B ai)(bu:H[q]?=j (.box [.ptr I 0 0 0])):
  ∃aq,cE f (bC++[.ptr q 0 0 0]) H r aq∧rA I b6 aq∧tE I H aq:=by
 obtain⟨dt,fh,rH,gM,gU⟩:=aT.lt;obtain⟨ax,⟨aH,b9⟩,⟨aL,c_⟩,jq⟩:=aT;have aO_:=fH.2 (bQ.1 bu).1;have Uc:q≠I:=λ e=>by subst e;rw[bu]at ax;cases ax
 have ajH:q≠A:=λ e=>by subst e;rw[bu]at b9;cases b9
 have ajI:q≠B:=λ e=>by subst e;rw[bu]at c_;cases c_
 refine zO (vX:=bC++[.ptr 0 0 0 0]) (a1:=[q]) (Z:=[1]) (X:=[.box [.ptr 1 0 0 0]]) he ak ax b9 c_ jq ?_ ?_ ?_ (by simp[bi Uc]) (by simp[bi ajH]) (by simp[bi ajI]) ?_ aX ?_ (λ ag aH ai aL=>?_)
 ·simp[Cl,bI,bj,hA,reach,bu,ax,b9,c_,kw,bV,aO_,dt,fh,rH,bi gM,bi gU,bi jq,bi Uc,bi ajH,bi ajI,Chunk.refs]
 ·rw[Ck,(gx _).2 bC hA];simp[cP,cB,bD]
 ·simp[bu,jp,cP,cB,bD,bi Uc]
 ·intro back an;have e:=an 1 I rfl;simp[bu,jp,cP,cB,e]
 ·intro fJ c6 dQ c7 dk cr;obtain⟨a,b,aH,aL,rfl,rfl,aF,an,dc,_⟩:=cr;have bK:=fH.2 (bQ.1 aF).1;have bJ:=fH.2 (bQ.1 an).1;simp[reach,kw,bV,bI,bj,aF,an,bK,bJ,bi dc,Chunk.refs]
 ·obtain⟨L,e,A,c6,B,c7,T,rfl,i⟩:=h ag aH ai aL;exact⟨A,c6,B,c7,T,e,i⟩
def p3{f g:Nat}{bC:aZ}{r:ay}{m b6:M}{H:ab}{k ac I A ag B ai:Nat}(he:E.ext f=o)(hA:bI bC=[])(ak:bj r=[])(h:gi [.box [.aS (.func g) [] [.ptr 1 0 0 0]],.box [.ptr 2 0 0 0]] f (bC++[.ptr 0 0 0 0]) m r b6)(aT:v7 H I m A ag B ai)(aA:H[k]?=j (.box [.aS (.func g) [] [.ptr ac 0 0 0]]))(bc:H[ac]?=j (.box [.ptr I 0 0 0]))(je:k≠ac):
  ∃aq,cE f (bC++[.ptr k 0 0 0]) H r aq∧rA I b6 aq∧tE I H aq:=by
 obtain⟨dt,fh,rH,gM,gU⟩:=aT.lt;obtain⟨ax,⟨aH,b9⟩,⟨aL,c_⟩,jq⟩:=aT;have kW:=fH.2 (bQ.1 aA).1;have ky:k≠I:=λ e=>by subst e;rw[aA]at ax;cases ax
 have lp:k≠A:=λ e=>by subst e;rw[aA]at b9;cases b9
 have lq:k≠B:=λ e=>by subst e;rw[aA]at c_;cases c_
 have qR:=fH.2 (bQ.1 bc).1;have n_:ac≠I:=λ e=>by subst e;rw[bc]at ax;cases ax
 have n':ac≠A:=λ e=>by subst e;rw[bc]at b9;cases b9
 have oa:ac≠B:=λ e=>by subst e;rw[bc]at c_;cases c_
 refine zO (vX:=bC++[.ptr 0 0 0 0]) (a1:=[k,ac]) (Z:=[1,2]) (X:=[.box [.aS (.func g) [] [.ptr 1 0 0 0]],.box [.ptr 2 0 0 0]]) he ak ax b9 c_ jq ?_ ?_ ?_ (by simp[bi ky,bi n_]) (by simp[bi lp,bi n']) (by simp[bi lq,bi oa]) ?_ aX ?_ (λ ag aH ai aL=>?_)
 ·simp[Cl,bI,bj,hA,reach,ax,b9,c_,kw,bV,dt,fh,rH,bi gM,bi gU,bi jq,Chunk.refs,aA,kW,bi ky,bi lp,bi lq,bc,qR,bi n_,bi n',bi oa,je,bi je]
 ·rw[Ck,(gx _).2 bC hA];simp[cP,cB,bD,aA,kW,bi ky,bi lp,bi lq,bc,qR,bi n_,bi n',bi oa,je,bi je]
 ·simp[jp,cP,cB,bD,aA,kW,bi ky,bi lp,bi lq,bc,qR,bi n_,bi n',bi oa,je,bi je]
 ·intro back an;have ar:=an 1 ac rfl;have aM:=an 2 I rfl;simp[jp,cP,cB,aA,bc,ar,aM]
 ·intro fJ c6 dQ c7 dk cr;obtain⟨a,b,aH,aL,rfl,rfl,aF,an,dc,_⟩:=cr;have bK:=fH.2 (bQ.1 aF).1;have bJ:=fH.2 (bQ.1 an).1;simp[reach,kw,bV,bI,bj,aF,an,bK,bJ,bi dc,Chunk.refs]
 ·obtain⟨L,e,A,c6,B,c7,T,rfl,i⟩:=h ag aH ai aL;exact⟨A,c6,B,c7,T,e,i⟩
def Cm{f g:Nat}{bC:aZ}{r:ay}{m b6:M}{H:ab}{k I A ag B ai:Nat}(he:E.ext f=o)(hA:bI bC=[])(ak:bj r=[])(h:gi [.box [.aS (.func g) [.ptr 1 0 0 0] []]] f (bC++[.ptr 0 0 0 0]) m r b6)(aT:v7 H I m A ag B ai)(aA:H[k]?=j (.box [.aS (.func g) [.ptr I 0 0 0] []])):
  ∃aq,cE f (bC++[.ptr k 0 0 0]) H r aq∧rA I b6 aq∧tE I H aq:=by
 obtain⟨dt,fh,rH,gM,gU⟩:=aT.lt;obtain⟨ax,⟨aH,b9⟩,⟨aL,c_⟩,jq⟩:=aT;have kW:=fH.2 (bQ.1 aA).1;have ky:k≠I:=λ e=>by subst e;rw[aA]at ax;cases ax
 have lp:k≠A:=λ e=>by subst e;rw[aA]at b9;cases b9
 have lq:k≠B:=λ e=>by subst e;rw[aA]at c_;cases c_
 refine zO (vX:=bC++[.ptr 0 0 0 0]) (a1:=[k]) (Z:=[1]) (X:=[.box [.aS (.func g) [.ptr 1 0 0 0] []]]) he ak ax b9 c_ jq ?_ ?_ ?_ (by simp[bi ky]) (by simp[bi lp]) (by simp[bi lq]) ?_ aX ?_ (λ ag aH ai aL=>?_)
 ·simp[Cl,bI,bj,hA,reach,ax,b9,c_,kw,bV,dt,fh,rH,bi gM,bi gU,bi jq,Chunk.refs,aA,kW,bi ky,bi lp,bi lq]
 ·rw[Ck,(gx _).2 bC hA];simp[cP,cB,bD,aA,kW,bi ky,bi lp,bi lq]
 ·simp[jp,cP,cB,bD,aA,kW,bi ky,bi lp,bi lq]
 ·intro back an;have ar:=an 1 I rfl;simp[jp,cP,cB,aA,ar]
 ·intro fJ c6 dQ c7 dk cr;obtain⟨a,b,aH,aL,rfl,rfl,aF,an,dc,_⟩:=cr;have bK:=fH.2 (bQ.1 aF).1;have bJ:=fH.2 (bQ.1 an).1;simp[reach,kw,bV,bI,bj,aF,an,bK,bJ,bi dc,Chunk.refs]
 ·obtain⟨L,e,A,c6,B,c7,T,rfl,i⟩:=h ag aH ai aL;exact⟨A,c6,B,c7,T,e,i⟩
def aO'{f g:Nat}{bC:aZ}{r:ay}{m b6:M}{H:ab}{k ac I A ag B ai:Nat}(he:E.ext f=o)(hA:bI bC=[])(ak:bj r=[])(h:gi [.box [.aS (.func g) [] [.ptr 1 0 0 0]],.box [.ptr 2 0 0 0]] f (bC++[.ptr 0 0 0 0,.ptr 1 0 0 0]) m r b6)(aT:v7 H I m A ag B ai)(aA:H[k]?=j (.box [.aS (.func g) [] [.ptr ac 0 0 0]]))(bc:H[ac]?=j (.box [.ptr I 0 0 0]))(je:k≠ac):
  ∃aq,cE f (bC++[.ptr k 0 0 0,.ptr ac 0 0 0]) H r aq∧rA I b6 aq∧tE I H aq:=by
 obtain⟨dt,fh,rH,gM,gU⟩:=aT.lt;obtain⟨ax,⟨aH,b9⟩,⟨aL,c_⟩,jq⟩:=aT;have kW:=fH.2 (bQ.1 aA).1;have ky:k≠I:=λ e=>by subst e;rw[aA]at ax;cases ax
 have lp:k≠A:=λ e=>by subst e;rw[aA]at b9;cases b9
 have lq:k≠B:=λ e=>by subst e;rw[aA]at c_;cases c_
 have qR:=fH.2 (bQ.1 bc).1;have n_:ac≠I:=λ e=>by subst e;rw[bc]at ax;cases ax
 have n':ac≠A:=λ e=>by subst e;rw[bc]at b9;cases b9
 have oa:ac≠B:=λ e=>by subst e;rw[bc]at c_;cases c_
 refine zO (vX:=bC++[.ptr 0 0 0 0,.ptr 1 0 0 0]) (a1:=[k,ac]) (Z:=[1,2]) (X:=[.box [.aS (.func g) [] [.ptr 1 0 0 0]],.box [.ptr 2 0 0 0]]) he ak ax b9 c_ jq ?_ ?_ ?_ (by simp[bi ky,bi n_]) (by simp[bi lp,bi n']) (by simp[bi lq,bi oa]) ?_ aX ?_ (λ ag aH ai aL=>?_)
 ·simp[Cl,bI,bj,hA,reach,ax,b9,c_,kw,bV,dt,fh,rH,bi gM,bi gU,bi jq,Chunk.refs,aA,kW,bi ky,bi lp,bi lq,bc,qR,bi n_,bi n',bi oa,je,bi je]
 ·rw[Ck,(gx _).2 bC hA];simp[cP,cB,bD,aA,kW,bi ky,bi lp,bi lq,bc,qR,bi n_,bi n',bi oa,je,bi je]
 ·simp[jp,cP,cB,bD,aA,kW,bi ky,bi lp,bi lq,bc,qR,bi n_,bi n',bi oa,je,bi je]
 ·intro back an;have ar:=an 1 ac rfl;have aM:=an 2 I rfl;simp[jp,cP,cB,aA,bc,ar,aM]
 ·intro fJ c6 dQ c7 dk cr;obtain⟨a,b,aH,aL,rfl,rfl,aF,an,dc,_⟩:=cr;have bK:=fH.2 (bQ.1 aF).1;have bJ:=fH.2 (bQ.1 an).1;simp[reach,kw,bV,bI,bj,aF,an,bK,bJ,bi dc,Chunk.refs]
 ·obtain⟨L,e,A,c6,B,c7,T,rfl,i⟩:=h ag aH ai aL;exact⟨A,c6,B,c7,T,e,i⟩
def aPa{f g d:Nat}{bC:aZ}{r:ay}{m b6:M}{H:ab}{k i ac I A ag B ai:Nat}(he:E.ext f=o)(hA:bI bC=[])(ak:bj r=[])(h:gi [.box [.aS (.func g) [] [.ptr 1 0 0 0,.ptr 2 0 0 0]],.box [.aS (.func d) [] [.ptr 2 0 0 0]],.box [.ptr 3 0 0 0]] f (bC++[.ptr 0 0 0 0]) m r b6)(aT:v7 H I m A ag B ai)(aA:H[k]?=j (.box [.aS (.func g) [] [.ptr i 0 0 0,.ptr ac 0 0 0]]))(aB:H[i]?=j (.box [.aS (.func d) [] [.ptr ac 0 0 0]]))(bc:H[ac]?=j (.box [.ptr I 0 0 0]))(sQ:k≠i)(je:k≠ac)(sR:i≠ac):
  ∃aq,cE f (bC++[.ptr k 0 0 0]) H r aq∧rA I b6 aq∧tE I H aq:=by
 obtain⟨dt,fh,rH,gM,gU⟩:=aT.lt;obtain⟨ax,⟨aH,b9⟩,⟨aL,c_⟩,jq⟩:=aT;have kW:=fH.2 (bQ.1 aA).1;have ky:k≠I:=λ e=>by subst e;rw[aA]at ax;cases ax
 have lp:k≠A:=λ e=>by subst e;rw[aA]at b9;cases b9
 have lq:k≠B:=λ e=>by subst e;rw[aA]at c_;cases c_
 have Cn:=fH.2 (bQ.1 aB).1;have ip:i≠I:=λ e=>by subst e;rw[aB]at ax;cases ax
 have xR:i≠A:=λ e=>by subst e;rw[aB]at b9;cases b9
 have xS:i≠B:=λ e=>by subst e;rw[aB]at c_;cases c_
 have qR:=fH.2 (bQ.1 bc).1;have n_:ac≠I:=λ e=>by subst e;rw[bc]at ax;cases ax
 have n':ac≠A:=λ e=>by subst e;rw[bc]at b9;cases b9
 have oa:ac≠B:=λ e=>by subst e;rw[bc]at c_;cases c_
 refine zO (vX:=bC++[.ptr 0 0 0 0]) (a1:=[k,i,ac]) (Z:=[1,2,3]) (X:=[.box [.aS (.func g) [] [.ptr 1 0 0 0,.ptr 2 0 0 0]],.box [.aS (.func d) [] [.ptr 2 0 0 0]],.box [.ptr 3 0 0 0]]) he ak ax b9 c_ jq ?_ ?_ ?_ (by simp[bi ky,bi ip,bi n_]) (by simp[bi lp,bi xR,bi n']) (by simp[bi lq,bi xS,bi oa]) ?_ aX ?_ (λ ag aH ai aL=>?_)
 ·simp[Cl,bI,bj,hA,reach,ax,b9,c_,kw,bV,dt,fh,rH,bi gM,bi gU,bi jq,Chunk.refs,aA,kW,bi ky,bi lp,bi lq,aB,Cn,bi ip,bi xR,bi xS,bc,qR,bi n_,bi n',bi oa,sQ,bi sQ,je,bi je,sR,bi sR]
 ·rw[Ck,(gx _).2 bC hA];simp[cP,cB,bD,aA,kW,bi ky,bi lp,bi lq,aB,Cn,bi ip,bi xR,bi xS,bc,qR,bi n_,bi n',bi oa,sQ,bi sQ,je,bi je,sR,bi sR]
 ·simp[jp,cP,cB,bD,aA,kW,bi ky,bi lp,bi lq,aB,Cn,bi ip,bi xR,bi xS,bc,qR,bi n_,bi n',bi oa,sQ,bi sQ,je,bi je,sR,bi sR]
 ·intro back an;have ar:=an 1 i rfl;have aM:=an 2 ac rfl;have bZ:=an 3 I rfl;simp[jp,cP,cB,aA,aB,bc,ar,aM,bZ]
 ·intro fJ c6 dQ c7 dk cr;obtain⟨a,b,aH,aL,rfl,rfl,aF,an,dc,_⟩:=cr;have bK:=fH.2 (bQ.1 aF).1;have bJ:=fH.2 (bQ.1 an).1;simp[reach,kw,bV,bI,bj,aF,an,bK,bJ,bi dc,Chunk.refs]
 ·obtain⟨L,e,A,c6,B,c7,T,rfl,i⟩:=h ag aH ai aL;exact⟨A,c6,B,c7,T,e,i⟩
def aPb{f g d:Nat}{bC:aZ}{r:ay}{m b6:M}{H:ab}{k i ac I A ag B ai:Nat}(he:E.ext f=o)(hA:bI bC=[])(ak:bj r=[])(h:gi [.box [.aS (.func g) [] [.ptr 1 0 0 0]],.box [.aS (.func d) [] [.ptr 2 0 0 0]],.box [.ptr 3 0 0 0]] f (bC++[.ptr 0 0 0 0]) m r b6)(aT:v7 H I m A ag B ai)(aA:H[k]?=j (.box [.aS (.func g) [] [.ptr i 0 0 0]]))(aB:H[i]?=j (.box [.aS (.func d) [] [.ptr ac 0 0 0]]))(bc:H[ac]?=j (.box [.ptr I 0 0 0]))(sQ:k≠i)(je:k≠ac)(sR:i≠ac):
  ∃aq,cE f (bC++[.ptr k 0 0 0]) H r aq∧rA I b6 aq∧tE I H aq:=by
 obtain⟨dt,fh,rH,gM,gU⟩:=aT.lt;obtain⟨ax,⟨aH,b9⟩,⟨aL,c_⟩,jq⟩:=aT;have kW:=fH.2 (bQ.1 aA).1;have ky:k≠I:=λ e=>by subst e;rw[aA]at ax;cases ax
 have lp:k≠A:=λ e=>by subst e;rw[aA]at b9;cases b9
 have lq:k≠B:=λ e=>by subst e;rw[aA]at c_;cases c_
 have Cn:=fH.2 (bQ.1 aB).1;have ip:i≠I:=λ e=>by subst e;rw[aB]at ax;cases ax
 have xR:i≠A:=λ e=>by subst e;rw[aB]at b9;cases b9
 have xS:i≠B:=λ e=>by subst e;rw[aB]at c_;cases c_
 have qR:=fH.2 (bQ.1 bc).1;have n_:ac≠I:=λ e=>by subst e;rw[bc]at ax;cases ax
 have n':ac≠A:=λ e=>by subst e;rw[bc]at b9;cases b9
 have oa:ac≠B:=λ e=>by subst e;rw[bc]at c_;cases c_
 refine zO (vX:=bC++[.ptr 0 0 0 0]) (a1:=[k,i,ac]) (Z:=[1,2,3]) (X:=[.box [.aS (.func g) [] [.ptr 1 0 0 0]],.box [.aS (.func d) [] [.ptr 2 0 0 0]],.box [.ptr 3 0 0 0]]) he ak ax b9 c_ jq ?_ ?_ ?_ (by simp[bi ky,bi ip,bi n_]) (by simp[bi lp,bi xR,bi n']) (by simp[bi lq,bi xS,bi oa]) ?_ aX ?_ (λ ag aH ai aL=>?_)
 ·simp[Cl,bI,bj,hA,reach,ax,b9,c_,kw,bV,dt,fh,rH,bi gM,bi gU,bi jq,Chunk.refs,aA,kW,bi ky,bi lp,bi lq,aB,Cn,bi ip,bi xR,bi xS,bc,qR,bi n_,bi n',bi oa,sQ,bi sQ,je,bi je,sR,bi sR]
 ·rw[Ck,(gx _).2 bC hA];simp[cP,cB,bD,aA,kW,bi ky,bi lp,bi lq,aB,Cn,bi ip,bi xR,bi xS,bc,qR,bi n_,bi n',bi oa,sQ,bi sQ,je,bi je,sR,bi sR]
 ·simp[jp,cP,cB,bD,aA,kW,bi ky,bi lp,bi lq,aB,Cn,bi ip,bi xR,bi xS,bc,qR,bi n_,bi n',bi oa,sQ,bi sQ,je,bi je,sR,bi sR]
 ·intro back an;have ar:=an 1 i rfl;have aM:=an 2 ac rfl;have bZ:=an 3 I rfl;simp[jp,cP,cB,aA,aB,bc,ar,aM,bZ]
 ·intro fJ c6 dQ c7 dk cr;obtain⟨a,b,aH,aL,rfl,rfl,aF,an,dc,_⟩:=cr;have bK:=fH.2 (bQ.1 aF).1;have bJ:=fH.2 (bQ.1 an).1;simp[reach,kw,bV,bI,bj,aF,an,bK,bJ,bi dc,Chunk.refs]
 ·obtain⟨L,e,A,c6,B,c7,T,rfl,i⟩:=h ag aH ai aL;exact⟨A,c6,B,c7,T,e,i⟩
def FM{f:Nat}{bC:aZ}{m b6:M}{r:ay}(mg:b6.G=m.G)(sJ:b6.O=m.O)(h:∀(ag ai aH aL:Nat) (x y:c0),∃L,b' E f (.ptr 0 0 0 0::bC) [.box (aW m 1 ag 2 ai),.aE 5 ag aH x,.aE 5 ai aL y]=j (r,.box (aW b6 1 ag 2 ai)::.aE 5 ag aH x::.aE 5 ai aL y::L)):h4 f bC m r b6:=λ ag aH ai aL=>by obtain⟨L,e⟩:=h ag ai aH aL (a7 m.G) (a7 m.O);refine⟨_,e,?_⟩;rw[←mg,←sJ];exact eD.eb
def Ud(m:M):h4 91 [] m (.bl []) (n7 m):=FM rfl rfl λ _ _ _ _ _ _=>aiH
def Ue{m:M}(h:bt m)(n:Int):h4 159 [.i (.v (.int .i64 (n)))] m (.bl []) {m with aJ:=jn m.aJ n (cx m)}:=FM rfl rfl λ _ _ _ _ _ _=>aNn h.cx n
def ajJ{m:M}(h:bt m)(n:Int):h4 99 [.i (.v (.int .i64 (n)))] m (.bl []) {m with aJ:=n2 m.aJ n (cx m)}:=FM rfl rfl λ _ _ _ _ _ _=>aiJ h.cx n
def aPc{m:M}(h:bt m)(r c:Int):h4 147 [.i (.v (.int .i64 (r))),.i (.v (.int .i64 (c)))] m (.bl []) {m with aJ:=⟨toR r (cx m),lS c (cx m),J⟩}:=FM rfl rfl λ _ _ _ _ _ _=>Tw h.cx r c
def aPd(m:M):h4 103 [] m (.bl []) (FI m):=FM rfl rfl λ _ _ _ _ _ _=>aiL
def aPe(m:M):h4 104 [] m (.bl []) (zZ m):=FM rfl rfl λ _ _ _ _ _ _=>aiN
def p4{f:Nat}{bC:aZ}{r:ay}{m b6:M}(he:E.ext f=o)(hA:bI bC=[])(ak:bj r=[])(h:h4 f bC m r b6){x:Chunk}(ap:iN x){A ag B ai:Nat}{T:ab}(cr:h3 2 m A ag B ai T):
  ∃b_ c6 b0 c7 dk,cE f (.ptr 1 0 0 0::bC) (x::.box (aW m A ag B ai)::T) r (x::.box (aW b6 (b_+2) c6 (b0+2) c7)::dk)∧h3 2 b6 (b_+2) c6 (b0+2) c7 dk:=by
 have uT:=cr;obtain⟨a,b,aH,aL,rfl,rfl,aF,an,dc,_⟩:=cr;obtain⟨aq,e,p,U⟩:=I9 (H:=x::.box (aW m (a+2) ag (b+2) ai)::T) (I:=1) (A:=a+2) (B:=b+2) (ag:=ag) (ai:=ai) he hA ak h ⟨rfl,⟨aH,aF⟩,⟨aL,an⟩,aa⟩;obtain⟨fJ,c6,dQ,c7,dk,rfl,i⟩:=I8 (P:=[x]) (λ y bb=>by rw[Co.1 bb];exact ap) uT p U;obtain⟨b_,b0,p1,oD,rfl,rfl,i⟩:=i;exact⟨b_,c6,b0,c7,dk,e,b_,b0,p1,oD,rfl,rfl,i⟩
def aPf{m:M}{a ag b ai aH aL:Nat}{x y:Chunk}{T:ab}(p:(x::y::T)[a]?=j (.aE 5 ag aH (a7 m.G)))(U:(x::y::T)[b]?=j (.aE 5 ai aL (a7 m.O)))(dc:a≠b)(ap:x.refs=[])(bb:y.refs=[]):h3 2 m (a+2) ag (b+2) ai (x::y::T):=
 ⟨a,b,aH,aL,rfl,rfl,p,U,dc,aX,λ z h=>by cases h;exact ap,λ z h=>by cases h;exact bb⟩
def oH{m:M}{ag ai aH aL:Nat}{T:ab}:h3 2 m 2 ag 3 ai (.aE 5 ag aH (a7 m.G)::.aE 5 ai aL (a7 m.O)::T):=aPf (a:=0) (b:=1) rfl rfl bU rfl rfl
def nH{n:Nat}{x:Chunk}{m:M}{A ag B ai:Nat}{T:ab}(cr:h3 2 m A ag B ai T):I7 2 m (Chunk.box (ff n (x::.box (aW m A ag B ai)::T) (aW m A ag B ai))::e0 n (x::.box (aW m A ag B ai)::T) 2 T):=Ua (λ k=>rfl) cr
def aPg{m:M}(hm:bt m)(n:Int)(aI:1≤n∧n≤100000):gi [.box [.ptr 1 0 0 0]] 167 [.i (.v (.int .i64 (n))),.ptr 0 0 0 0] m (.bl []) ({m with aJ:=n2 m.aJ (0-n) (cx m)}):=by intro ag aH ai aL;have hw:=hm.w;have fA:=hm.aJ.2.1;obtain⟨b_,c6,b0,c7,dk,ar,cV⟩:=p4 rfl rfl rfl (ajJ hm (0-n)) (x:=.box [.ptr 1 0 0 0]) trivial (oH (m:=m) (ag:=ag) (ai:=ai) (aH:=aH) (aL:=aL) (T:=[]));simp only[db,cJ,dl,cC];rw[bz agA];simp(disch:=omega)only[aw,simprocAttr,aIC,b1,b7,bV,ar];exact⟨_,rfl,nH cV⟩
def ajK{m:M}(hm:bt m)(n:Int)(aI:1≤n∧n≤100000):gi [.box [.ptr 1 0 0 0]] 158 [.i (.v (.int .i64 (n))),.ptr 0 0 0 0] m (.bl []) ({m with aJ:=jn m.aJ (0-n) (cx m)}):=by intro ag aH ai aL;have hw:=hm.w;have fA:=hm.aJ.2.1;obtain⟨b_,c6,b0,c7,dk,ar,cV⟩:=p4 rfl rfl rfl (Ue hm (0-n)) (x:=.box [.ptr 1 0 0 0]) trivial (oH (m:=m) (ag:=ag) (ai:=ai) (aH:=aH) (aL:=aL) (T:=[]));simp only[db,cJ,dl,cC];rw[bz agt];simp(disch:=omega)only[aw,simprocAttr,aIv,b1,b7,bV,ar];exact⟨_,rfl,nH cV⟩
def aPh{m:M}(hm:bt m)(n:Int)(aI:1≤n∧n≤100000):gi [.box [.ptr 1 0 0 0]] 163 [.i (.v (.int .i64 (n))),.ptr 0 0 0 0] m (.bl []) (tF m ah n.toNat):=by intro ag aH ai aL;have hw:=hm.w;have fA:=hm.aJ.2.1;obtain⟨k,rfl⟩:=jC (show 0≤n by omega);obtain⟨b_,c6,b0,c7,dk,ar,cV⟩:=p4 rfl rfl rfl (aNN hm k aa) (x:=.box [.ptr 1 0 0 0]) trivial (oH (m:=m) (ag:=ag) (ai:=ai) (aH:=aH) (aL:=aL) (T:=[]));simp only[db,cJ,dl,cC];rw[bz agw];simp(disch:=omega)only[aw,simprocAttr,aIz,b1,b7,bV,ar];exact⟨_,rfl,nH cV⟩
def aPi{m:M}(hm:bt m)(n:Int)(aI:1≤n∧n≤100000):gi [.box [.ptr 1 0 0 0]] 165 [.i (.v (.int .i64 (n))),.ptr 0 0 0 0] m (.bl []) (tF m J n.toNat):=by intro ag aH ai aL;have hw:=hm.w;have fA:=hm.aJ.2.1;obtain⟨k,rfl⟩:=jC (show 0≤n by omega);obtain⟨b_,c6,b0,c7,dk,ar,cV⟩:=p4 rfl rfl rfl (aNO hm k aa) (x:=.box [.ptr 1 0 0 0]) trivial (oH (m:=m) (ag:=ag) (ai:=ai) (aH:=aH) (aL:=aL) (T:=[]));simp only[db,cJ,dl,cC];rw[bz agy];simp(disch:=omega)only[aw,simprocAttr,aIA,b1,b7,bV,ar];exact⟨_,rfl,nH cV⟩
def aPj{m:M}(hm:bt m)(n:Int)(aI:1≤n∧n≤100000):gi [.box [.ptr 1 0 0 0]] 170 [.i (.v (.int .i64 (n))),.ptr 0 0 0 0] m (.bl []) ({m with aJ:=⟨toR n (cx m),lS (m.aJ.c+1) (cx m),J⟩}):=by intro ag aH ai aL;have hw:=hm.w;have fA:=hm.aJ.2.1;obtain⟨b_,c6,b0,c7,dk,ar,cV⟩:=p4 rfl rfl rfl (aPc hm n (m.aJ.c+1)) (x:=.box [.ptr 1 0 0 0]) trivial (oH (m:=m) (ag:=ag) (ai:=ai) (aH:=aH) (aL:=aL) (T:=[]));simp only[db,cJ,dl,cC];rw[bz agD];simp(disch:=omega)only[aw,simprocAttr,aIF,b1,b7,bV,ar];exact⟨_,rfl,nH cV⟩
def aPk{m:M}(hm:bt m)(n:Int)(aI:1≤n∧n≤100000):gi [.box [.ptr 1 0 0 0]] 171 [.i (.v (.int .i64 (n))),.ptr 0 0 0 0] m (.bl []) (oF pc (min n.toNat m.w) m):=by intro ag aH ai aL;have hw:=hm.w;have fA:=hm.aJ.2.1;obtain⟨k,rfl⟩:=jC (show 0≤n by omega);obtain⟨b_,c6,b0,c7,dk,ar,cV⟩:=p4 rfl rfl rfl (aN0 hm k aa) (x:=.box [.ptr 1 0 0 0]) trivial (oH (m:=m) (ag:=ag) (ai:=ai) (aH:=aH) (aL:=aL) (T:=[]));simp only[db,cJ,dl,cC];rw[bz agE];simp(disch:=omega)only[aw,simprocAttr,aIG,b1,b7,bV,ar];exact⟨_,rfl,nH cV⟩
def aPl{m:M}(hm:bt m)(n:Int)(aI:1≤n∧n≤100000):gi [.box [.ptr 1 0 0 0]] 173 [.i (.v (.int .i64 (n))),.ptr 0 0 0 0] m (.bl []) (oF rz (min n.toNat m.w) m):=by intro ag aH ai aL;have hw:=hm.w;have fA:=hm.aJ.2.1;obtain⟨k,rfl⟩:=jC (show 0≤n by omega);obtain⟨b_,c6,b0,c7,dk,ar,cV⟩:=p4 rfl rfl rfl (aN1 hm k aa) (x:=.box [.ptr 1 0 0 0]) trivial (oH (m:=m) (ag:=ag) (ai:=ai) (aH:=aH) (aL:=aL) (T:=[]));simp only[db,cJ,dl,cC];rw[bz agF];simp(disch:=omega)only[aw,simprocAttr,aIH,b1,b7,bV,ar];exact⟨_,rfl,nH cV⟩
def aPm{m:M}(hm:bt m)(n:Int)(aI:1≤n∧n≤100000):gi [.box [.ptr 1 0 0 0]] 178 [.i (.v (.int .i64 (n))),.ptr 0 0 0 0] m (.bl []) (lT m m.cW n ah):=by intro ag aH ai aL;have hw:=hm.w;have fA:=hm.aJ.2.1;obtain⟨b_,c6,b0,c7,dk,ar,cV⟩:=p4 rfl rfl rfl (IL hm m.cW n ah ⟨hm.dm.1,hm.dm.2.1⟩) (x:=.box [.ptr 1 0 0 0]) trivial (oH (m:=m) (ag:=ag) (ai:=ai) (aH:=aH) (aL:=aL) (T:=[]));simp only[db,cJ,dl,cC];rw[bz agH];simp(disch:=omega)only[aw,simprocAttr,aIJ,b1,b7,bV,ar];exact⟨_,rfl,nH cV⟩
def aPn{m:M}(hm:bt m)(n:Int)(aI:1≤n∧n≤100000):gi [.box [.ptr 1 0 0 0]] 179 [.i (.v (.int .i64 (n))),.ptr 0 0 0 0] m (.bl []) (lT m m.cW (0-n) J):=by intro ag aH ai aL;have hw:=hm.w;have fA:=hm.aJ.2.1;obtain⟨b_,c6,b0,c7,dk,ar,cV⟩:=p4 rfl rfl rfl (IL hm m.cW (0-n) J ⟨hm.dm.1,hm.dm.2.1⟩) (x:=.box [.ptr 1 0 0 0]) trivial (oH (m:=m) (ag:=ag) (ai:=ai) (aH:=aH) (aL:=aL) (T:=[]));simp only[db,cJ,dl,cC];rw[bz agI];simp(disch:=omega)only[aw,simprocAttr,aIK,b1,b7,bV,ar];exact⟨_,rfl,nH cV⟩
def ajL{f:Nat}{bC:aZ}{r:ay}{m b6:M}{x:Chunk}{X Y:c0}{ag ai aH aL:Nat}(he:E.ext f=o)(aF:bI bC=[])(ak:bj r=[])
  (h:∃L,b' E f (.ptr 0 0 0 0::bC) [.box (aW m 1 ag 2 ai),.aE 5 ag aH X,.aE 5 ai aL Y]=j (r,.box (aW b6 1 ag 2 ai)::.aE 5 ag aH X::.aE 5 ai aL Y::L)):
  cE f (.ptr 1 0 0 0::bC) [x,.box (aW m 2 ag 3 ai),.aE 5 ag aH X,.aE 5 ai aL Y] r [x,.box (aW b6 2 ag 3 ai),.aE 5 ag aH X,.aE 5 ai aL Y]:=by
 obtain⟨L,h⟩:=h;have xx:∀aY,cP aY bC=bC:=λ aY=>(gx aY).2 bC aF
 have iW:∀aY,cB aY r=r:=λ aY=>(gx aY).1 r ak
 have o8:=λ aY=>lR (show(Chunk.aE 5 ag aH X).refs=[]from rfl) aY
 have uM:=λ aY=>lR (show(Chunk.aE 5 ai aL Y).refs=[]from rfl) aY
 have dA:reach [x,.box (aW m 2 ag 3 ai),.aE 5 ag aH X,.aE 5 ai aL Y] 64 [1] []=[1,2,3]:=by simp[reach,kw,bV,Chunk.refs]
 have ar:=ka (bD [1,2,3]) m 2 ag 3 ai 1 2 (by simp[bD]) (by simp[bD]);have aM:=ka (dG [1,2,3] 4 []) b6 1 ag 2 ai 2 3 rfl rfl;have B3:reach (.box (aW b6 1 ag 2 ai)::.aE 5 ag aH X::.aE 5 ai aL Y::L) 64 [1,2] []=[1,2]:=by simp[reach,Chunk.refs]
 have nT:bD [1,2,3] 1=j 0:=by simp[bD]
 unfold cE dy;simp only[fg,he,bI,bj,aF,dC,dA];simp[cP,cB,xx,nT,jp,o8,uM,ar,h,kw,bV,ak,Chunk.refs,B3,aM,iW,ev]
def Cp(m:M)(n:Int):M:={m with aJ:=zM ⟨m.aJ.r,n-1,J⟩ (cx m)}
def v8(m:M)(n:Int):M:=if m.cW≤m.aJ.r∧m.aJ.r<m.ck then n7 (lT m m.aJ.r n J)else m
def NI(m:M)(n:Int):M:=n7 {m with aJ:=jn m.aJ n (cx m)}
def NJ(m:M)(n:Int):M:=zU m m.aJ.c.toNat (min (m.aJ.c+n) m.w).toNat
def aPo{m:M}(hm:bt m)(n:Int)(aI:0≤n):h4 181 [.i (.v (.int .i64 (m.aJ.c))),.i (.v (.int .i64 (min (m.aJ.c+n) m.w)))] m (.bl []) (NJ m n):=by have aj:=hm.aJ.2.1;have e:=Nt hm m.aJ.c.toNat (min (m.aJ.c+n) m.w).toNat aa aa;rw[Int.toNat_of_nonneg aj.1,Int.toNat_of_nonneg aa]at e;exact e
def aPp{m:M}(hm:bt m)(n:Int)(aI:1≤n∧n≤100000):gi [.box [.ptr 1 0 0 0]] 161 [.i (.v (.int .i64 (n))),.ptr 0 0 0 0] m (.bl []) (Cp m n):=by
 intro ag aH ai aL;have hw:=hm.w;have fA:=hm.aJ.2.1;have du:=λ H=>aL5 ⟨m.aJ.r,n-1,J⟩ hm.cx H
 simp only[cx]at du;have ar:=ajL (x:=.box [.ptr 1 0 0 0]) rfl rfl rfl (aiI (m:=m) (ag:=ag) (ai:=ai) (aH:=aH) (aL:=aL) (x:=a7 m.G) (y:=a7 m.O));unfold Cp;simp only[db,cJ,dl,cC];rw[bz agv];simp(disch:=omega)only[aw,simprocAttr,aIy,b1,b7,bV,ar,du,cx];exact⟨_,rfl,_,_,_,_,_,rfl,oH⟩
def ajM{m:M}(hm:bt m)(n:Int)(aI:-100000≤n∧n≤100000):gi [.box [.ptr 1 0 0 0]] 162 [.i (.v (.int .i64 (n))),.ptr 0 0 0 0] m (.bl []) (v8 m n):=by
 intro ag aH ai aL;have hw:=hm.w;have fA:=hm.aJ.2.1;unfold v8;have aVS:=hm.dm;by_cases cm:m.cW≤m.aJ.r
 ·by_cases cp:m.aJ.r<m.ck
  ·rw[if_pos ⟨cm,cp⟩];obtain⟨b_,c6,b0,c7,dk,ar,cV⟩:=p4 rfl rfl rfl (IL hm m.aJ.r n J ⟨aa,cp⟩) (x:=.box [.ptr 1 0 0 0]) trivial (oH (m:=m) (ag:=ag) (ai:=ai) (aH:=aH) (aL:=aL) (T:=[]));obtain⟨a2,zY,dZ,xQ,hn,aM,i2⟩:=p4 rfl rfl rfl (Ud (lT m m.aJ.r n J)) (x:=.box [.ptr 1 0 0 0]) trivial cV;simp only[db,cJ,dl,cC];rw[bz Mp];simp(disch:=omega)only[aw,simprocAttr,Sk,b1,b7,bV,ar,aM,cm,cp];exact⟨_,rfl,nH i2⟩
  ·rw[if_neg aa];simp only[db,cJ,dl,cC];rw[bz Mp];simp(disch:=omega)only[aw,simprocAttr,Sk,b1,b7,bV,cm,cp];exact⟨_,rfl,_,_,_,_,_,rfl,oH⟩
 ·rw[if_neg aa];simp only[db,cJ,dl,cC];rw[bz Mp];simp(disch:=omega)only[aw,simprocAttr,Sk,b1,b7,bV,cm];exact⟨_,rfl,_,_,_,_,_,rfl,oH⟩
def aPq{m:M}(hm:bt m)(n:Int)(aI:1≤n∧n≤100000):gi [.box [.ptr 1 0 0 0]] 169 [.i (.v (.int .i64 (n))),.ptr 0 0 0 0] m (.bl []) (NI m n):=by intro ag aH ai aL;have hw:=hm.w;have fA:=hm.aJ.2.1;unfold NI;obtain⟨b_,c6,b0,c7,dk,ar,cV⟩:=p4 rfl rfl rfl (Ue hm n) (x:=.box [.ptr 1 0 0 0]) trivial (oH (m:=m) (ag:=ag) (ai:=ai) (aH:=aH) (aL:=aL) (T:=[]));obtain⟨a2,zY,dZ,xQ,hn,aM,i2⟩:=p4 rfl rfl rfl (Ud {m with aJ:=jn m.aJ n (cx m)}) (x:=.box [.ptr 1 0 0 0]) trivial cV;simp only[db,cJ,dl,cC];rw[bz agC];simp(disch:=omega)only[aw,simprocAttr,aIE,b1,b7,bV,ar,aM];exact⟨_,rfl,nH i2⟩
def aPr{m:M}(hm:bt m)(n:Int)(aI:1≤n∧n≤100000):gi [.box [.ptr 1 0 0 0]] 180 [.i (.v (.int .i64 (n))),.ptr 0 0 0 0] m (.bl []) (NJ m n):=by intro ag aH ai aL;have hw:=hm.w;have fA:=hm.aJ.2.1;obtain⟨b_,c6,b0,c7,dk,ar,cV⟩:=p4 rfl rfl rfl (aPo hm n aa) (x:=.box [.ptr 1 0 0 0]) trivial (oH (m:=m) (ag:=ag) (ai:=ai) (aH:=aH) (aL:=aL) (T:=[]));simp only[db,cJ,dl,cC];rw[bz agJ];simp(disch:=omega)only[aw,simprocAttr,aIL,b1,b7,bV,ar];exact⟨_,rfl,nH cV⟩
def aPs{m:M}(hm:bt m)(l:bX):gi [.box [.ptr 1 0 0 0]] 185 [.i (.af 1 (cc l) J),.ptr 0 0 0 0] m (.bl []) (FI m):=by intro ag aH ai aL;have hw:=hm.w;have fA:=hm.aJ.2.1;obtain⟨b_,c6,b0,c7,dk,ar,cV⟩:=p4 rfl rfl rfl (aPd m) (x:=.box [.ptr 1 0 0 0]) trivial (oH (m:=m) (ag:=ag) (ai:=ai) (aH:=aH) (aL:=aL) (T:=[]));simp only[db,cJ,dl,cC];rw[bz So];simp(disch:=omega)only[aw,simprocAttr,aIN,b1,b7,bV,ar];exact⟨_,rfl,nH cV⟩
def aPt{m:M}(hm:bt m)(l:bX):gi [.box [.ptr 1 0 0 0]] 186 [.i (.af 1 (cc l) J),.ptr 0 0 0 0] m (.bl []) (zZ m):=by intro ag aH ai aL;have hw:=hm.w;have fA:=hm.aJ.2.1;obtain⟨b_,c6,b0,c7,dk,ar,cV⟩:=p4 rfl rfl rfl (aPe m) (x:=.box [.ptr 1 0 0 0]) trivial (oH (m:=m) (ag:=ag) (ai:=ai) (aH:=aH) (aL:=aL) (T:=[]));simp only[db,cJ,dl,cC];rw[bz Sp];simp(disch:=omega)only[aw,simprocAttr,aIO,b1,b7,bV,ar];exact⟨_,rfl,nH cV⟩
def Cq{P:ab}{f k:Nat}{bC:aZ}{r:ay}{m b6:M}(aA:k=P.length)(mF:∀x∈P,iN x)(he:E.ext f=o)(hA:bI bC=[])(ak:bj r=[])(h:h4 f bC m r b6){A ag B ai:Nat}{T:ab}(cr:h3 (P.length+1) m A ag B ai T):
  ∃fJ c6 dQ c7 dk,cE f (.ptr k 0 0 0::bC) (P++.box (aW m A ag B ai)::T) r (P++.box (aW b6 fJ c6 dQ c7)::dk)∧h3 (P.length+1) b6 fJ c6 dQ c7 dk:=by
 subst aA;have uT:=cr;obtain⟨a,b,aH,aL,rfl,rfl,aF,an,dc,_⟩:=cr;have dO:∀k,(P++.box (aW m (a+(P.length+1)) ag (b+(P.length+1)) ai)::T)[k+(P.length+1)]?=T[k]?:=λ k=>by rw[hK aa,show k+(P.length+1)-P.length=k+1 by omega,kp]
 obtain⟨aq,e,p,U⟩:=I9 (H:=P++.box (aW m (a+(P.length+1)) ag (b+(P.length+1)) ai)::T) (I:=P.length) (ag:=ag) (ai:=ai) he hA ak h ⟨by rw[hK (cS _),r7];rfl,⟨aH,(dO a).trans aF⟩,⟨aL,(dO b).trans an⟩,aa⟩;obtain⟨fJ,c6,dQ,c7,dk,rfl,i⟩:=I8 mF uT p U;exact⟨fJ,c6,dQ,c7,dk,e,i⟩
def qS{P:ab}{f q:Nat}{bC:aZ}{r:ay}{m b6:M}(bu:P[q]?=j (.box [.ptr P.length 0 0 0]))(mF:∀x∈P,iN x)(he:E.ext f=o)(hA:bI bC=[])(ak:bj r=[])(h:gi [.box [.ptr 1 0 0 0]] f (bC++[.ptr 0 0 0 0]) m r b6){A ag B ai:Nat}{T:ab}(cr:h3 (P.length+1) m A ag B ai T):
  ∃fJ c6 dQ c7 dk,cE f (bC++[.ptr q 0 0 0]) (P++.box (aW m A ag B ai)::T) r (P++.box (aW b6 fJ c6 dQ c7)::dk)∧h3 (P.length+1) b6 fJ c6 dQ c7 dk:=by
 have uT:=cr;obtain⟨a,b,aH,aL,rfl,rfl,aF,an,dc,_⟩:=cr;have dO:∀k,(P++.box (aW m (a+(P.length+1)) ag (b+(P.length+1)) ai)::T)[k+(P.length+1)]?=T[k]?:=λ k=>by rw[hK aa,show k+(P.length+1)-P.length=k+1 by omega,kp]
 obtain⟨aq,e,p,U⟩:=I_ (H:=P++.box (aW m (a+(P.length+1)) ag (b+(P.length+1)) ai)::T) (q:=q) (I:=P.length) (ag:=ag) (ai:=ai) he hA ak h ⟨by rw[hK (cS _),r7];rfl,⟨aH,(dO a).trans aF⟩,⟨aL,(dO b).trans an⟩,aa⟩ (by rw[eO (bQ.1 bu).1];exact bu);obtain⟨fJ,c6,dQ,c7,dk,rfl,i⟩:=I8 mF uT p U;exact⟨fJ,c6,dQ,c7,dk,e,i⟩
def lU(al:Nat){m:M}{ag ai aH aL:Nat}{T:ab}:h3 al m (0+al) ag (1+al) ai (.aE 5 ag aH (a7 m.G)::.aE 5 ai aL (a7 m.O)::T):=
 ⟨0,1,aH,aL,rfl,rfl,rfl,rfl,bU,aX,λ z h=>by cases h;rfl,λ z h=>by cases h;rfl⟩
def qT{n:Nat}{x y:Chunk}{m:M}{A ag B ai:Nat}{T:ab}(cr:h3 3 m A ag B ai T):I7 3 m (Chunk.box (ff n (x::y::.box (aW m A ag B ai)::T) (aW m A ag B ai))::e0 n (x::y::.box (aW m A ag B ai)::T) 3 T):=Ua (λ k=>rfl) cr
def NK(m:M)(n:Int):M:=n7 {m with aJ:=jn m.aJ (0-n) (cx m)}
def aPu{m:M}(hm:bt m)(n:Int)(aI:1≤n∧n≤100000):gi [.box [.aS (.func 158) [] [.ptr 1 0 0 0]],.box [.ptr 2 0 0 0]] 168 [.i (.v (.int .i64 (n))),.ptr 0 0 0 0,.ptr 1 0 0 0] m (.bl []) (NK m n):=by intro ag aH ai aL;obtain⟨mj,kY,ml,kZ,hc,ar,cV⟩:=qS (P:=[.box [.aS (.func 158) [] [.ptr 1 0 0 0]],.box [.ptr 2 0 0 0]]) (q:=1) (bC:=[.i (.v (.int .i64 (n)))]) rfl (by simp[iN]) rfl rfl rfl (ajK hm n aI) (lU 3 (m:=m) (ag:=ag) (ai:=ai) (aH:=aH) (aL:=aL) (T:=[]));obtain⟨zP,zY,zQ,xQ,hn,aM,i2⟩:=Cq (P:=[.box [.aS (.func 158) [] [.ptr 1 0 0 0]],.box [.ptr 2 0 0 0]]) (k:=2) rfl (by simp[iN]) rfl rfl rfl (Ud {m with aJ:=jn m.aJ (0-n) (cx m)}) cV;unfold NK;simp only[db,cJ,dl,cC];simp only[db,cJ,dl,cC]at ar cV;simp only[db,cJ,dl,cC]at aM i2;rw[bz agB];simp(disch:=omega)only[aw,simprocAttr,aID,b1,b7,bV,ar,aM,RU];exact⟨_,rfl,qT i2⟩
def aPv{m:M}(hm:bt m)(n:Int)(aI:1≤n∧n≤100000):gi [.box [.aS (.func 162) [] [.ptr 1 0 0 0]],.box [.ptr 2 0 0 0]] 177 [.i (.v (.int .i64 (n))),.ptr 0 0 0 0] m (.bl []) (v8 m (0-n)):=by intro ag aH ai aL;obtain⟨mj,kY,ml,kZ,hc,ar,cV⟩:=qS (P:=[.box [.aS (.func 162) [] [.ptr 1 0 0 0]],.box [.ptr 2 0 0 0]]) (q:=1) (bC:=[.i (.v (.int .i64 (0-n)))]) rfl (by simp[iN]) rfl rfl rfl (ajM hm (0-n) aa) (lU 3 (m:=m) (ag:=ag) (ai:=ai) (aH:=aH) (aL:=aL) (T:=[]));simp only[db,cJ,dl,cC];simp only[db,cJ,dl,cC]at ar cV;rw[bz agG];simp(disch:=omega)only[aw,simprocAttr,aII,b1,b7,bV,ar,RV];exact⟨_,rfl,qT cV⟩
def ajN{m:M}(hm:bt m)(l:bX)(ao:l.length<100000)(aI:1≤b8 l 0 1∧b8 l 0 1≤100000):gi [.box [.aS (.func 158) [] [.ptr 1 0 0 0]],.box [.ptr 2 0 0 0]] 154 [.i (.af 1 (cc l) J),.ptr 0 0 0 0] m (.bl []) ({m with aJ:=jn m.aJ (0-(b8 l 0 1)) (cx m)}):=by
 intro ag aH ai aL;have du:=λ H=>kX l 0 1 ao H
 obtain⟨mj,kY,ml,kZ,hc,ar,cV⟩:=qS (P:=[.box [.aS (.func 158) [] [.ptr 1 0 0 0]],.box [.ptr 2 0 0 0]]) (q:=1) (bC:=[.i (.v (.int .i64 (b8 l 0 1)))]) rfl (by simp[iN]) rfl rfl rfl (ajK hm (b8 l 0 1) aI) (lU 3 (m:=m) (ag:=ag) (ai:=ai) (aH:=aH) (aL:=aL) (T:=[]));simp only[db,cJ,dl,cC];simp only[db,cJ,dl,cC]at ar cV;rw[bz nZ];simp(disch:=omega)only[aw,simprocAttr,o5,bN,b1,b7,bV,du,ar,RU];exact⟨_,rfl,qT cV⟩
def ajO{m:M}(hm:bt m)(l:bX)(ao:l.length<100000)(aI:1≤b8 l 0 1∧b8 l 0 1≤100000):gi [.box [.aS (.func 161) [] [.ptr 1 0 0 0]],.box [.ptr 2 0 0 0]] 154 [.i (.af 1 (cc l) J),.ptr 0 0 0 0] m (.bl []) (Cp m (b8 l 0 1)):=by
 intro ag aH ai aL;have du:=λ H=>kX l 0 1 ao H
 obtain⟨mj,kY,ml,kZ,hc,ar,cV⟩:=qS (P:=[.box [.aS (.func 161) [] [.ptr 1 0 0 0]],.box [.ptr 2 0 0 0]]) (q:=1) (bC:=[.i (.v (.int .i64 (b8 l 0 1)))]) rfl (by simp[iN]) rfl rfl rfl (aPp hm (b8 l 0 1) aI) (lU 3 (m:=m) (ag:=ag) (ai:=ai) (aH:=aH) (aL:=aL) (T:=[]));simp only[db,cJ,dl,cC];simp only[db,cJ,dl,cC]at ar cV;rw[bz nZ];simp(disch:=omega)only[aw,simprocAttr,o5,bN,b1,b7,bV,du,ar,aeO];exact⟨_,rfl,qT cV⟩
def aPw{m:M}(hm:bt m)(l:bX)(ao:l.length<100000)(aI:1≤b8 l 0 1∧b8 l 0 1≤100000):gi [.box [.aS (.func 163) [] [.ptr 1 0 0 0]],.box [.ptr 2 0 0 0]] 154 [.i (.af 1 (cc l) J),.ptr 0 0 0 0] m (.bl []) (tF m ah (b8 l 0 1).toNat):=by
 intro ag aH ai aL;have du:=λ H=>kX l 0 1 ao H
 obtain⟨mj,kY,ml,kZ,hc,ar,cV⟩:=qS (P:=[.box [.aS (.func 163) [] [.ptr 1 0 0 0]],.box [.ptr 2 0 0 0]]) (q:=1) (bC:=[.i (.v (.int .i64 (b8 l 0 1)))]) rfl (by simp[iN]) rfl rfl rfl (aPh hm (b8 l 0 1) aI) (lU 3 (m:=m) (ag:=ag) (ai:=ai) (aH:=aH) (aL:=aL) (T:=[]));simp only[db,cJ,dl,cC];simp only[db,cJ,dl,cC]at ar cV;rw[bz nZ];simp(disch:=omega)only[aw,simprocAttr,o5,bN,b1,b7,bV,du,ar,aeP];exact⟨_,rfl,qT cV⟩
def aPx{m:M}(hm:bt m)(l:bX)(ao:l.length<100000)(aI:1≤b8 l 0 1∧b8 l 0 1≤100000):gi [.box [.aS (.func 165) [] [.ptr 1 0 0 0]],.box [.ptr 2 0 0 0]] 154 [.i (.af 1 (cc l) J),.ptr 0 0 0 0] m (.bl []) (tF m J (b8 l 0 1).toNat):=by
 intro ag aH ai aL;have du:=λ H=>kX l 0 1 ao H
 obtain⟨mj,kY,ml,kZ,hc,ar,cV⟩:=qS (P:=[.box [.aS (.func 165) [] [.ptr 1 0 0 0]],.box [.ptr 2 0 0 0]]) (q:=1) (bC:=[.i (.v (.int .i64 (b8 l 0 1)))]) rfl (by simp[iN]) rfl rfl rfl (aPi hm (b8 l 0 1) aI) (lU 3 (m:=m) (ag:=ag) (ai:=ai) (aH:=aH) (aL:=aL) (T:=[]));simp only[db,cJ,dl,cC];simp only[db,cJ,dl,cC]at ar cV;rw[bz nZ];simp(disch:=omega)only[aw,simprocAttr,o5,bN,b1,b7,bV,du,ar,aeR];exact⟨_,rfl,qT cV⟩
def aPy{m:M}(hm:bt m)(l:bX)(ao:l.length<100000)(aI:1≤b8 l 0 1∧b8 l 0 1≤100000):gi [.box [.aS (.func 167) [] [.ptr 1 0 0 0]],.box [.ptr 2 0 0 0]] 154 [.i (.af 1 (cc l) J),.ptr 0 0 0 0] m (.bl []) ({m with aJ:=n2 m.aJ (0-(b8 l 0 1)) (cx m)}):=by
 intro ag aH ai aL;have du:=λ H=>kX l 0 1 ao H
 obtain⟨mj,kY,ml,kZ,hc,ar,cV⟩:=qS (P:=[.box [.aS (.func 167) [] [.ptr 1 0 0 0]],.box [.ptr 2 0 0 0]]) (q:=1) (bC:=[.i (.v (.int .i64 (b8 l 0 1)))]) rfl (by simp[iN]) rfl rfl rfl (aPg hm (b8 l 0 1) aI) (lU 3 (m:=m) (ag:=ag) (ai:=ai) (aH:=aH) (aL:=aL) (T:=[]));simp only[db,cJ,dl,cC];simp only[db,cJ,dl,cC]at ar cV;rw[bz nZ];simp(disch:=omega)only[aw,simprocAttr,o5,bN,b1,b7,bV,du,ar,aeS];exact⟨_,rfl,qT cV⟩
def aPz{m:M}(hm:bt m)(l:bX)(ao:l.length<100000)(aI:1≤b8 l 0 1∧b8 l 0 1≤100000):gi [.box [.aS (.func 169) [] [.ptr 1 0 0 0]],.box [.ptr 2 0 0 0]] 154 [.i (.af 1 (cc l) J),.ptr 0 0 0 0] m (.bl []) (NI m (b8 l 0 1)):=by
 intro ag aH ai aL;have du:=λ H=>kX l 0 1 ao H
 obtain⟨mj,kY,ml,kZ,hc,ar,cV⟩:=qS (P:=[.box [.aS (.func 169) [] [.ptr 1 0 0 0]],.box [.ptr 2 0 0 0]]) (q:=1) (bC:=[.i (.v (.int .i64 (b8 l 0 1)))]) rfl (by simp[iN]) rfl rfl rfl (aPq hm (b8 l 0 1) aI) (lU 3 (m:=m) (ag:=ag) (ai:=ai) (aH:=aH) (aL:=aL) (T:=[]));simp only[db,cJ,dl,cC];simp only[db,cJ,dl,cC]at ar cV;rw[bz nZ];simp(disch:=omega)only[aw,simprocAttr,o5,bN,b1,b7,bV,du,ar,aeU];exact⟨_,rfl,qT cV⟩
def aPA{m:M}(hm:bt m)(l:bX)(ao:l.length<100000)(aI:1≤b8 l 0 1∧b8 l 0 1≤100000):gi [.box [.aS (.func 170) [] [.ptr 1 0 0 0]],.box [.ptr 2 0 0 0]] 154 [.i (.af 1 (cc l) J),.ptr 0 0 0 0] m (.bl []) ({m with aJ:=⟨toR (b8 l 0 1) (cx m),lS (m.aJ.c+1) (cx m),J⟩}):=by
 intro ag aH ai aL;have du:=λ H=>kX l 0 1 ao H
 obtain⟨mj,kY,ml,kZ,hc,ar,cV⟩:=qS (P:=[.box [.aS (.func 170) [] [.ptr 1 0 0 0]],.box [.ptr 2 0 0 0]]) (q:=1) (bC:=[.i (.v (.int .i64 (b8 l 0 1)))]) rfl (by simp[iN]) rfl rfl rfl (aPj hm (b8 l 0 1) aI) (lU 3 (m:=m) (ag:=ag) (ai:=ai) (aH:=aH) (aL:=aL) (T:=[]));simp only[db,cJ,dl,cC];simp only[db,cJ,dl,cC]at ar cV;rw[bz nZ];simp(disch:=omega)only[aw,simprocAttr,o5,bN,b1,b7,bV,du,ar,aeV];exact⟨_,rfl,qT cV⟩
def aPB{m:M}(hm:bt m)(l:bX)(ao:l.length<100000)(aI:1≤b8 l 0 1∧b8 l 0 1≤100000):gi [.box [.aS (.func 171) [] [.ptr 1 0 0 0]],.box [.ptr 2 0 0 0]] 154 [.i (.af 1 (cc l) J),.ptr 0 0 0 0] m (.bl []) (oF pc (min (b8 l 0 1).toNat m.w) m):=by
 intro ag aH ai aL;have du:=λ H=>kX l 0 1 ao H
 obtain⟨mj,kY,ml,kZ,hc,ar,cV⟩:=qS (P:=[.box [.aS (.func 171) [] [.ptr 1 0 0 0]],.box [.ptr 2 0 0 0]]) (q:=1) (bC:=[.i (.v (.int .i64 (b8 l 0 1)))]) rfl (by simp[iN]) rfl rfl rfl (aPk hm (b8 l 0 1) aI) (lU 3 (m:=m) (ag:=ag) (ai:=ai) (aH:=aH) (aL:=aL) (T:=[]));simp only[db,cJ,dl,cC];simp only[db,cJ,dl,cC]at ar cV;rw[bz nZ];simp(disch:=omega)only[aw,simprocAttr,o5,bN,b1,b7,bV,du,ar,aeW];exact⟨_,rfl,qT cV⟩
def aPC{m:M}(hm:bt m)(l:bX)(ao:l.length<100000)(aI:1≤b8 l 0 1∧b8 l 0 1≤100000):gi [.box [.aS (.func 173) [] [.ptr 1 0 0 0]],.box [.ptr 2 0 0 0]] 154 [.i (.af 1 (cc l) J),.ptr 0 0 0 0] m (.bl []) (oF rz (min (b8 l 0 1).toNat m.w) m):=by
 intro ag aH ai aL;have du:=λ H=>kX l 0 1 ao H
 obtain⟨mj,kY,ml,kZ,hc,ar,cV⟩:=qS (P:=[.box [.aS (.func 173) [] [.ptr 1 0 0 0]],.box [.ptr 2 0 0 0]]) (q:=1) (bC:=[.i (.v (.int .i64 (b8 l 0 1)))]) rfl (by simp[iN]) rfl rfl rfl (aPl hm (b8 l 0 1) aI) (lU 3 (m:=m) (ag:=ag) (ai:=ai) (aH:=aH) (aL:=aL) (T:=[]));simp only[db,cJ,dl,cC];simp only[db,cJ,dl,cC]at ar cV;rw[bz nZ];simp(disch:=omega)only[aw,simprocAttr,o5,bN,b1,b7,bV,du,ar,aeY];exact⟨_,rfl,qT cV⟩
def aPD{m:M}(hm:bt m)(l:bX)(ao:l.length<100000)(aI:1≤b8 l 0 1∧b8 l 0 1≤100000):gi [.box [.aS (.func 178) [] [.ptr 1 0 0 0]],.box [.ptr 2 0 0 0]] 154 [.i (.af 1 (cc l) J),.ptr 0 0 0 0] m (.bl []) (lT m m.cW (b8 l 0 1) ah):=by
 intro ag aH ai aL;have du:=λ H=>kX l 0 1 ao H
 obtain⟨mj,kY,ml,kZ,hc,ar,cV⟩:=qS (P:=[.box [.aS (.func 178) [] [.ptr 1 0 0 0]],.box [.ptr 2 0 0 0]]) (q:=1) (bC:=[.i (.v (.int .i64 (b8 l 0 1)))]) rfl (by simp[iN]) rfl rfl rfl (aPm hm (b8 l 0 1) aI) (lU 3 (m:=m) (ag:=ag) (ai:=ai) (aH:=aH) (aL:=aL) (T:=[]));simp only[db,cJ,dl,cC];simp only[db,cJ,dl,cC]at ar cV;rw[bz nZ];simp(disch:=omega)only[aw,simprocAttr,o5,bN,b1,b7,bV,du,ar,ae1];exact⟨_,rfl,qT cV⟩
def aPE{m:M}(hm:bt m)(l:bX)(ao:l.length<100000)(aI:1≤b8 l 0 1∧b8 l 0 1≤100000):gi [.box [.aS (.func 179) [] [.ptr 1 0 0 0]],.box [.ptr 2 0 0 0]] 154 [.i (.af 1 (cc l) J),.ptr 0 0 0 0] m (.bl []) (lT m m.cW (0-(b8 l 0 1)) J):=by
 intro ag aH ai aL;have du:=λ H=>kX l 0 1 ao H
 obtain⟨mj,kY,ml,kZ,hc,ar,cV⟩:=qS (P:=[.box [.aS (.func 179) [] [.ptr 1 0 0 0]],.box [.ptr 2 0 0 0]]) (q:=1) (bC:=[.i (.v (.int .i64 (b8 l 0 1)))]) rfl (by simp[iN]) rfl rfl rfl (aPn hm (b8 l 0 1) aI) (lU 3 (m:=m) (ag:=ag) (ai:=ai) (aH:=aH) (aL:=aL) (T:=[]));simp only[db,cJ,dl,cC];simp only[db,cJ,dl,cC]at ar cV;rw[bz nZ];simp(disch:=omega)only[aw,simprocAttr,o5,bN,b1,b7,bV,du,ar,ae2];exact⟨_,rfl,qT cV⟩
def aPF{m:M}(hm:bt m)(l:bX)(ao:l.length<100000)(aI:1≤b8 l 0 1∧b8 l 0 1≤100000):gi [.box [.aS (.func 180) [] [.ptr 1 0 0 0]],.box [.ptr 2 0 0 0]] 154 [.i (.af 1 (cc l) J),.ptr 0 0 0 0] m (.bl []) (NJ m (b8 l 0 1)):=by
 intro ag aH ai aL;have du:=λ H=>kX l 0 1 ao H
 obtain⟨mj,kY,ml,kZ,hc,ar,cV⟩:=qS (P:=[.box [.aS (.func 180) [] [.ptr 1 0 0 0]],.box [.ptr 2 0 0 0]]) (q:=1) (bC:=[.i (.v (.int .i64 (b8 l 0 1)))]) rfl (by simp[iN]) rfl rfl rfl (aPr hm (b8 l 0 1) aI) (lU 3 (m:=m) (ag:=ag) (ai:=ai) (aH:=aH) (aL:=aL) (T:=[]));simp only[db,cJ,dl,cC];simp only[db,cJ,dl,cC]at ar cV;rw[bz nZ];simp(disch:=omega)only[aw,simprocAttr,o5,bN,b1,b7,bV,du,ar,ae3];exact⟨_,rfl,qT cV⟩
def ajP{n:Nat}{x y z:Chunk}{m:M}{A ag B ai:Nat}{T:ab}(cr:h3 4 m A ag B ai T):I7 4 m (Chunk.box (ff n (x::y::z::.box (aW m A ag B ai)::T) (aW m A ag B ai))::e0 n (x::y::z::.box (aW m A ag B ai)::T) 4 T):=Ua (λ k=>rfl) cr
def aPG{P:ab}{f g k ac:Nat}{bC:aZ}{r:ay}{m b6:M}(aA:P[k]?=j (.box [.aS (.func g) [] [.ptr ac 0 0 0]]))(bc:P[ac]?=j (.box [.ptr P.length 0 0 0]))(mF:∀x∈P,iN x)(he:E.ext f=o)(hA:bI bC=[])(ak:bj r=[])(h:gi [.box [.aS (.func g) [] [.ptr 1 0 0 0]],.box [.ptr 2 0 0 0]] f (bC++[.ptr 0 0 0 0]) m r b6){A ag B ai:Nat}{T:ab}(cr:h3 (P.length+1) m A ag B ai T)(je:k≠ac):
  ∃fJ c6 dQ c7 dk,cE f (bC++[.ptr k 0 0 0]) (P++.box (aW m A ag B ai)::T) r (P++.box (aW b6 fJ c6 dQ c7)::dk)∧h3 (P.length+1) b6 fJ c6 dQ c7 dk:=by
 have uT:=cr;obtain⟨a,b,aH,aL,rfl,rfl,aF,an,dc,_⟩:=cr;have dO:∀k,(P++.box (aW m (a+(P.length+1)) ag (b+(P.length+1)) ai)::T)[k+(P.length+1)]?=T[k]?:=λ k=>by rw[hK aa,show k+(P.length+1)-P.length=k+1 by omega,kp]
 obtain⟨aq,e,p,U⟩:=p3 (H:=P++.box (aW m (a+(P.length+1)) ag (b+(P.length+1)) ai)::T) (k:=k) (ac:=ac) (I:=P.length) (ag:=ag) (ai:=ai) he hA ak h ⟨by rw[hK (cS _),r7];rfl,⟨aH,(dO a).trans aF⟩,⟨aL,(dO b).trans an⟩,aa⟩ (by rw[eO (bQ.1 aA).1];exact aA) (by rw[eO (bQ.1 bc).1];exact bc) je;obtain⟨fJ,c6,dQ,c7,dk,rfl,i⟩:=I8 mF uT p U;exact⟨fJ,c6,dQ,c7,dk,e,i⟩
def aPH{P:ab}{f g k ac:Nat}{bC:aZ}{r:ay}{m b6:M}(aA:P[k]?=j (.box [.aS (.func g) [] [.ptr ac 0 0 0]]))(bc:P[ac]?=j (.box [.ptr P.length 0 0 0]))(mF:∀x∈P,iN x)(he:E.ext f=o)(hA:bI bC=[])(ak:bj r=[])(h:gi [.box [.aS (.func g) [] [.ptr 1 0 0 0]],.box [.ptr 2 0 0 0]] f (bC++[.ptr 0 0 0 0,.ptr 1 0 0 0]) m r b6){A ag B ai:Nat}{T:ab}(cr:h3 (P.length+1) m A ag B ai T)(je:k≠ac):
  ∃fJ c6 dQ c7 dk,cE f (bC++[.ptr k 0 0 0,.ptr ac 0 0 0]) (P++.box (aW m A ag B ai)::T) r (P++.box (aW b6 fJ c6 dQ c7)::dk)∧h3 (P.length+1) b6 fJ c6 dQ c7 dk:=by
 have uT:=cr;obtain⟨a,b,aH,aL,rfl,rfl,aF,an,dc,_⟩:=cr;have dO:∀k,(P++.box (aW m (a+(P.length+1)) ag (b+(P.length+1)) ai)::T)[k+(P.length+1)]?=T[k]?:=λ k=>by rw[hK aa,show k+(P.length+1)-P.length=k+1 by omega,kp]
 obtain⟨aq,e,p,U⟩:=aO' (H:=P++.box (aW m (a+(P.length+1)) ag (b+(P.length+1)) ai)::T) (k:=k) (ac:=ac) (I:=P.length) (ag:=ag) (ai:=ai) he hA ak h ⟨by rw[hK (cS _),r7];rfl,⟨aH,(dO a).trans aF⟩,⟨aL,(dO b).trans an⟩,aa⟩ (by rw[eO (bQ.1 aA).1];exact aA) (by rw[eO (bQ.1 bc).1];exact bc) je;obtain⟨fJ,c6,dQ,c7,dk,rfl,i⟩:=I8 mF uT p U;exact⟨fJ,c6,dQ,c7,dk,e,i⟩
def aPI{m:M}(hm:bt m)(l:bX)(ao:l.length<100000)(aI:1≤b8 l 0 1∧b8 l 0 1≤100000):gi [.box [.aS (.func 159) [.ptr 1 0 0 0] []]] 154 [.i (.af 1 (cc l) J),.ptr 0 0 0 0] m (.bl []) ({m with aJ:=jn m.aJ (b8 l 0 1) (cx m)}):=by
 intro ag aH ai aL;have du:=λ H=>kX l 0 1 ao H
 obtain⟨mj,kY,ml,kZ,hc,ar,cV⟩:=Cq (P:=[.box [.aS (.func 159) [.ptr 1 0 0 0] []]]) (k:=1) (bC:=[.i (.v (.int .i64 (b8 l 0 1)))]) rfl (by simp[iN]) rfl rfl rfl (Ue hm (b8 l 0 1)) (lU 2 (m:=m) (ag:=ag) (ai:=ai) (aH:=aH) (aL:=aL) (T:=[]));simp only[db,cJ,dl,cC];simp only[db,cJ,dl,cC]at ar cV;rw[bz nZ];simp(disch:=omega)only[aw,simprocAttr,o5,bN,b1,b7,bV,du,ar,L6];exact⟨_,rfl,nH cV⟩
def ajQ{m:M}(hm:bt m)(l:bX)(ao:l.length<100000)(aI:1≤b8 l 0 1∧b8 l 0 1≤100000):gi [.box [.aS (.func 99) [.ptr 1 0 0 0] []]] 154 [.i (.af 1 (cc l) J),.ptr 0 0 0 0] m (.bl []) ({m with aJ:=n2 m.aJ (b8 l 0 1) (cx m)}):=by
 intro ag aH ai aL;have du:=λ H=>kX l 0 1 ao H
 obtain⟨mj,kY,ml,kZ,hc,ar,cV⟩:=Cq (P:=[.box [.aS (.func 99) [.ptr 1 0 0 0] []]]) (k:=1) (bC:=[.i (.v (.int .i64 (b8 l 0 1)))]) rfl (by simp[iN]) rfl rfl rfl (ajJ hm (b8 l 0 1)) (lU 2 (m:=m) (ag:=ag) (ai:=ai) (aH:=aH) (aL:=aL) (T:=[]));simp only[db,cJ,dl,cC];simp only[db,cJ,dl,cC]at ar cV;rw[bz nZ];simp(disch:=omega)only[aw,simprocAttr,o5,bN,b1,b7,bV,du,ar,LZ];exact⟨_,rfl,nH cV⟩
def aPJ{m:M}(hm:bt m)(l:bX)(ao:l.length<100000)(aI:0≤b8 l 0 0∧b8 l 0 0≤100000):gi [.box [.aS (.func 175) [.ptr 1 0 0 0] []]] 157 [.i (.af 1 (cc l) J),.ptr 0 0 0 0] m (.bl []) (zV m (b8 l 0 0)):=by
 intro ag aH ai aL;have du:=λ H=>kX l 0 0 ao H
 obtain⟨mj,kY,ml,kZ,hc,ar,cV⟩:=Cq (P:=[.box [.aS (.func 175) [.ptr 1 0 0 0] []]]) (k:=1) (bC:=[.i (.v (.int .i64 (b8 l 0 0)))]) rfl (by simp[iN]) rfl rfl rfl (aNS hm (b8 l 0 0)) (lU 2 (m:=m) (ag:=ag) (ai:=ai) (aH:=aH) (aL:=aL) (T:=[]));simp only[db,cJ,dl,cC];simp only[db,cJ,dl,cC]at ar cV;rw[bz EL];simp(disch:=omega)only[aw,simprocAttr,Mo,bN,b1,b7,bV,du,ar,aeZ];exact⟨_,rfl,nH cV⟩
def aPK{m:M}(hm:bt m)(l:bX)(ao:l.length<100000)(aI:0≤b8 l 0 0∧b8 l 0 0≤100000):gi [.box [.aS (.func 176) [.ptr 1 0 0 0] []]] 157 [.i (.af 1 (cc l) J),.ptr 0 0 0 0] m (.bl []) (uO m (b8 l 0 0)):=by
 intro ag aH ai aL;have du:=λ H=>kX l 0 0 ao H
 obtain⟨mj,kY,ml,kZ,hc,ar,cV⟩:=Cq (P:=[.box [.aS (.func 176) [.ptr 1 0 0 0] []]]) (k:=1) (bC:=[.i (.v (.int .i64 (b8 l 0 0)))]) rfl (by simp[iN]) rfl rfl rfl (ai' hm (b8 l 0 0)) (lU 2 (m:=m) (ag:=ag) (ai:=ai) (aH:=aH) (aL:=aL) (T:=[]));simp only[db,cJ,dl,cC];simp only[db,cJ,dl,cC]at ar cV;rw[bz EL];simp(disch:=omega)only[aw,simprocAttr,Mo,bN,b1,b7,bV,du,ar,RW];exact⟨_,rfl,nH cV⟩
def aPL{m:M}(hm:bt m)(l:bX)(ao:l.length<100000)(aI:0≤b8 l 0 0∧b8 l 0 0≤100000):gi [.box [.aS (.func 182) [.ptr 1 0 0 0] []]] 157 [.i (.af 1 (cc l) J),.ptr 0 0 0 0] m (.bl []) (Ca m (b8 l 0 0)):=by
 intro ag aH ai aL;have du:=λ H=>kX l 0 0 ao H
 obtain⟨mj,kY,ml,kZ,hc,ar,cV⟩:=Cq (P:=[.box [.aS (.func 182) [.ptr 1 0 0 0] []]]) (k:=1) (bC:=[.i (.v (.int .i64 (b8 l 0 0)))]) rfl (by simp[iN]) rfl rfl rfl (aN2 hm (b8 l 0 0)) (lU 2 (m:=m) (ag:=ag) (ai:=ai) (aH:=aH) (aL:=aL) (T:=[]));simp only[db,cJ,dl,cC];simp only[db,cJ,dl,cC]at ar cV;rw[bz EL];simp(disch:=omega)only[aw,simprocAttr,Mo,bN,b1,b7,bV,du,ar,ae5];exact⟨_,rfl,nH cV⟩
def aPM{m:M}(hm:bt m)(l:bX)(ao:l.length<100000)(aI:0≤b8 l 0 0∧b8 l 0 0≤100000):gi [.box [.aS (.func 183) [.ptr 1 0 0 0] []]] 157 [.i (.af 1 (cc l) J),.ptr 0 0 0 0] m (.bl []) (Cb m (b8 l 0 0)):=by
 intro ag aH ai aL;have du:=λ H=>kX l 0 0 ao H
 obtain⟨mj,kY,ml,kZ,hc,ar,cV⟩:=Cq (P:=[.box [.aS (.func 183) [.ptr 1 0 0 0] []]]) (k:=1) (bC:=[.i (.v (.int .i64 (b8 l 0 0)))]) rfl (by simp[iN]) rfl rfl rfl (aN3 hm (b8 l 0 0)) (lU 2 (m:=m) (ag:=ag) (ai:=ai) (aH:=aH) (aL:=aL) (T:=[]));simp only[db,cJ,dl,cC];simp only[db,cJ,dl,cC]at ar cV;rw[bz EL];simp(disch:=omega)only[aw,simprocAttr,Mo,bN,b1,b7,bV,du,ar,ae6];exact⟨_,rfl,nH cV⟩
def aPN{m:M}(hm:bt m)(l:bX)(ao:l.length<100000)(aI:1≤b8 l 0 1∧b8 l 0 1≤100000):gi [.box [.aS (.func 168) [] [.ptr 1 0 0 0,.ptr 2 0 0 0]],.box [.aS (.func 158) [] [.ptr 2 0 0 0]],.box [.ptr 3 0 0 0]] 154 [.i (.af 1 (cc l) J),.ptr 0 0 0 0] m (.bl []) (NK m (b8 l 0 1)):=by
 intro ag aH ai aL;have du:=λ H=>kX l 0 1 ao H
 obtain⟨mj,kY,ml,kZ,hc,ar,cV⟩:=aPH (P:=[.box [.aS (.func 168) [] [.ptr 1 0 0 0,.ptr 2 0 0 0]],.box [.aS (.func 158) [] [.ptr 2 0 0 0]],.box [.ptr 3 0 0 0]]) (k:=1) (ac:=2) (bC:=[.i (.v (.int .i64 (b8 l 0 1)))]) rfl rfl (by simp[iN]) rfl rfl rfl (aPu hm (b8 l 0 1) aI) (lU 4 (m:=m) (ag:=ag) (ai:=ai) (aH:=aH) (aL:=aL) (T:=[])) bU;simp only[db,cJ,dl,cC];simp only[db,cJ,dl,cC]at ar cV;rw[bz nZ];simp(disch:=omega)only[aw,simprocAttr,o5,bN,b1,b7,bV,du,ar,aeT];exact⟨_,rfl,ajP cV⟩
def aPO{m:M}(hm:bt m)(l:bX)(ao:l.length<100000)(aI:1≤b8 l 0 1∧b8 l 0 1≤100000):gi [.box [.aS (.func 177) [] [.ptr 1 0 0 0]],.box [.aS (.func 162) [] [.ptr 2 0 0 0]],.box [.ptr 3 0 0 0]] 154 [.i (.af 1 (cc l) J),.ptr 0 0 0 0] m (.bl []) (v8 m (0-b8 l 0 1)):=by
 intro ag aH ai aL;have du:=λ H=>kX l 0 1 ao H
 obtain⟨mj,kY,ml,kZ,hc,ar,cV⟩:=aPG (P:=[.box [.aS (.func 177) [] [.ptr 1 0 0 0]],.box [.aS (.func 162) [] [.ptr 2 0 0 0]],.box [.ptr 3 0 0 0]]) (k:=1) (ac:=2) (bC:=[.i (.v (.int .i64 (b8 l 0 1)))]) rfl rfl (by simp[iN]) rfl rfl rfl (aPv hm (b8 l 0 1) aI) (lU 4 (m:=m) (ag:=ag) (ai:=ai) (aH:=aH) (aL:=aL) (T:=[])) bU;simp only[db,cJ,dl,cC];simp only[db,cJ,dl,cC]at ar cV;rw[bz nZ];simp(disch:=omega)only[aw,simprocAttr,o5,bN,b1,b7,bV,du,ar,ae0];exact⟨_,rfl,ajP cV⟩
def aPP{m:M}(hm:bt m)(l:bX)(ao:l.length<100000)(aI:1≤b8 l 0 1∧b8 l 0 1≤100000):gi [.box [.aS (.func 162) [] [.ptr 1 0 0 0]],.box [.ptr 2 0 0 0]] 154 [.i (.af 1 (cc l) J),.ptr 0 0 0 0] m (.bl []) (v8 m (b8 l 0 1)):=by
 intro ag aH ai aL;have du:=λ H=>kX l 0 1 ao H
 obtain⟨mj,kY,ml,kZ,hc,ar,cV⟩:=qS (P:=[.box [.aS (.func 162) [] [.ptr 1 0 0 0]],.box [.ptr 2 0 0 0]]) (q:=1) (bC:=[.i (.v (.int .i64 (b8 l 0 1)))]) rfl (by simp[iN]) rfl rfl rfl (ajM hm (b8 l 0 1) aa) (lU 3 (m:=m) (ag:=ag) (ai:=ai) (aH:=aH) (aL:=aL) (T:=[]));simp only[db,cJ,dl,cC];simp only[db,cJ,dl,cC]at ar cV;rw[bz nZ];simp(disch:=omega)only[aw,simprocAttr,o5,bN,b1,b7,bV,du,ar,RV];exact⟨_,rfl,qT cV⟩
def ajR{m:M}(hm:bt m)(l:bX)(ao:l.length<100000):gi [.box [.ptr 1 0 0 0]] 160 [.i (.af 1 (cc l) J),.ptr 0 0 0 0] m (.bl []) ({m with aJ:=⟨toR (b8 l 0 1) (cx m),lS (b8 l 1 1) (cx m),J⟩}):=by
 intro ag aH ai aL;have du:=λ H=>kX l 0 1 ao H
 have Uf:=λ H=>kX l 1 1 ao H
 have ar:=ajL (x:=.box [.ptr 1 0 0 0]) rfl rfl rfl (Tw (m:=m) (ag:=ag) (ai:=ai) (aH:=aH) (aL:=aL) (x:=a7 m.G) (y:=a7 m.O) hm.cx (b8 l 0 1) (b8 l 1 1));simp only[db,cJ,dl,cC];rw[bz Sj];simp(disch:=omega)only[aw,simprocAttr,aIx,bN,b1,b7,bV,du,Uf,ar];exact⟨_,rfl,_,_,_,_,_,rfl,oH⟩
def aPQ{m:M}{ag ai aH aL:Nat}{x y:c0}(g:Nat):b' E 153 [.aS (.func g) [] [.ptr 0 0 0 0]] [.box [.ptr 1 0 0 0],.box (aW m (1+1) ag (1+2) ai),.aE 5 ag aH x,.aE 5 ai aL y]=j (.aS (.func 154) [] [.ptr 4 0 0 0],[.box [.ptr 1 0 0 0],.box (aW m (1+1) ag (1+2) ai),.aE 5 ag aH x,.aE 5 ai aL y,.box [.aS (.func g) [] [.ptr 0 0 0 0]]]):=by rw[bz If];simp(disch:=omega)only[aw,simprocAttr,Mm,b1,b7]
def aPR{m:M}{ag ai aH aL:Nat}{x y:c0}(g:Nat)(T:ab):cE 153 [.aS (.func g) [] [.ptr 3 0 0 0]] (.box (aW (m) 1 ag 2 ai)::.aE 5 ag aH x::.aE 5 ai aL y::.box [.ptr 0 0 0 0]::T) (.aS (.func 154) [] [.ptr (T.length+4) 0 0 0]) (.box (aW (m) 1 ag 2 ai)::.aE 5 ag aH x::.aE 5 ai aL y::.box [.ptr 0 0 0 0]::(T++[.box [.aS (.func g) [] [.ptr 3 0 0 0]]])):=by
 have h:=aPQ (m:=m) (ag:=ag) (ai:=ai) (aH:=aH) (aL:=aL) (x:=x) (y:=y) g;have ar:=ka (bD [3,0,1,2]) m 1 ag 2 ai 2 3 rfl rfl;have aM:=ka (dG [3,0,1,2] (T.length+1+1+1+1) [4]) m 2 ag 3 ai 1 2 rfl rfl;simp only[dl]at h;unfold cE dy;have q:∀n,dG [3,0,1,2] n [4] 0=j 3∧dG [3,0,1,2] n [4] 1=j 0∧dG [3,0,1,2] n [4] 4=j (0+n):=λ n=>⟨rfl,rfl,rfl⟩
 simp[fg,LQ,bI,bj,reach,Chunk.refs,bV,cP,cB,Chunk.c2,ar,show bD [3,0,1,2] 3=j 0 from rfl,show bD [3,0,1,2] 0=j 1 from rfl,h,aM,q,ev]
def aPS{m:M}{ag ai aH aL:Nat}{x y:c0}(g:Nat):b' E 153 [.aS (.func g) [.ptr 0 0 0 0] []] [.box (aW m (0+1) ag (0+2) ai),.aE 5 ag aH x,.aE 5 ai aL y]=j (.aS (.func 154) [] [.ptr 3 0 0 0],[.box (aW m (0+1) ag (0+2) ai),.aE 5 ag aH x,.aE 5 ai aL y,.box [.aS (.func g) [.ptr 0 0 0 0] []]]):=by rw[bz If];simp(disch:=omega)only[aw,simprocAttr,Mm,b1,b7]
def aPT{m:M}{ag ai aH aL:Nat}{x y:c0}(g:Nat)(T:ab):cE 153 [.aS (.func g) [.ptr 0 0 0 0] []] (.box (aW (m) 1 ag 2 ai)::.aE 5 ag aH x::.aE 5 ai aL y::.box [.ptr 0 0 0 0]::T) (.aS (.func 154) [] [.ptr (T.length+4) 0 0 0]) (.box (aW (m) 1 ag 2 ai)::.aE 5 ag aH x::.aE 5 ai aL y::.box [.ptr 0 0 0 0]::(T++[.box [.aS (.func g) [.ptr 0 0 0 0] []]])):=by
 have h:=aPS (m:=m) (ag:=ag) (ai:=ai) (aH:=aH) (aL:=aL) (x:=x) (y:=y) g;have ar:=ka (bD [0,1,2]) m 1 ag 2 ai 1 2 rfl rfl;have aM:=ka (dG [0,1,2] (T.length+1+1+1+1) [3]) m 1 ag 2 ai 1 2 rfl rfl;simp only[dl]at h;unfold cE dy;have q:∀n,dG [0,1,2] n [3] 0=j 0∧dG [0,1,2] n [3] 3=j (0+n):=λ n=>⟨rfl,rfl⟩
 simp[fg,LQ,bI,bj,reach,Chunk.refs,bV,cP,cB,Chunk.c2,ar,show bD [0,1,2] 0=j 0 from rfl,h,aM,q,ev]
def aPU{m:M}{ag ai aH aL:Nat}{x y:c0}(g:Nat):b' E 156 [.aS (.func g) [.ptr 0 0 0 0] []] [.box (aW m (0+1) ag (0+2) ai),.aE 5 ag aH x,.aE 5 ai aL y]=j (.aS (.func 157) [] [.ptr 3 0 0 0],[.box (aW m (0+1) ag (0+2) ai),.aE 5 ag aH x,.aE 5 ai aL y,.box [.aS (.func g) [.ptr 0 0 0 0] []]]):=by rw[bz ags];simp(disch:=omega)only[aw,simprocAttr,aIu,b1,b7]
def aPV{m:M}{ag ai aH aL:Nat}{x y:c0}(g:Nat)(T:ab):cE 156 [.aS (.func g) [.ptr 0 0 0 0] []] (.box (aW (m) 1 ag 2 ai)::.aE 5 ag aH x::.aE 5 ai aL y::.box [.ptr 0 0 0 0]::T) (.aS (.func 157) [] [.ptr (T.length+4) 0 0 0]) (.box (aW (m) 1 ag 2 ai)::.aE 5 ag aH x::.aE 5 ai aL y::.box [.ptr 0 0 0 0]::(T++[.box [.aS (.func g) [.ptr 0 0 0 0] []]])):=by
 have h:=aPU (m:=m) (ag:=ag) (ai:=ai) (aH:=aH) (aL:=aL) (x:=x) (y:=y) g;have ar:=ka (bD [0,1,2]) m 1 ag 2 ai 1 2 rfl rfl;have aM:=ka (dG [0,1,2] (T.length+1+1+1+1) [3]) m 1 ag 2 ai 1 2 rfl rfl;simp only[dl]at h;unfold cE dy;have q:∀n,dG [0,1,2] n [3] 0=j 0∧dG [0,1,2] n [3] 3=j (0+n):=λ n=>⟨rfl,rfl⟩
 simp[fg,azZ,bI,bj,reach,Chunk.refs,bV,cP,cB,Chunk.c2,ar,show bD [0,1,2] 0=j 0 from rfl,h,aM,q,ev]
def aPW{m:M}{ag ai aH aL:Nat}{x y:c0}(g d:Nat):b' E 153 [.aS (.func g) [] [.ptr 0 0 0 0,.ptr 1 0 0 0]] [.box [.aS (.func d) [] [.ptr 1 0 0 0]],.box [.ptr 2 0 0 0],.box (aW m (2+1) ag (2+2) ai),.aE 5 ag aH x,.aE 5 ai aL y]=j (.aS (.func 154) [] [.ptr 5 0 0 0],[.box [.aS (.func d) [] [.ptr 1 0 0 0]],.box [.ptr 2 0 0 0],.box (aW m (2+1) ag (2+2) ai),.aE 5 ag aH x,.aE 5 ai aL y,.box [.aS (.func g) [] [.ptr 0 0 0 0,.ptr 1 0 0 0]]]):=by rw[bz If];simp(disch:=omega)only[aw,simprocAttr,Mm,b1,b7]
def aPX{m:M}{ag ai aH aL:Nat}{x y:c0}(g d:Nat)(T:ab):cE 153 [.aS (.func g) [] [.ptr 4 0 0 0,.ptr 3 0 0 0]] (.box (aW (m) 1 ag 2 ai)::.aE 5 ag aH x::.aE 5 ai aL y::.box [.ptr 0 0 0 0]::.box [.aS (.func d) [] [.ptr 3 0 0 0]]::T) (.aS (.func 154) [] [.ptr (T.length+5) 0 0 0]) (.box (aW (m) 1 ag 2 ai)::.aE 5 ag aH x::.aE 5 ai aL y::.box [.ptr 0 0 0 0]::.box [.aS (.func d) [] [.ptr 3 0 0 0]]::(T++[.box [.aS (.func g) [] [.ptr 4 0 0 0,.ptr 3 0 0 0]]])):=by
 have h:=aPW (m:=m) (ag:=ag) (ai:=ai) (aH:=aH) (aL:=aL) (x:=x) (y:=y) g d;have ar:=ka (bD [4,3,0,1,2]) m 1 ag 2 ai 3 4 rfl rfl;have aM:=ka (dG [4,3,0,1,2] (T.length+1+1+1+1+1) [5]) m 3 ag 4 ai 1 2 rfl rfl;simp only[dl]at h;unfold cE dy;have q:∀n,dG [4,3,0,1,2] n [5] 0=j 4∧dG [4,3,0,1,2] n [5] 1=j 3∧dG [4,3,0,1,2] n [5] 2=j 0∧dG [4,3,0,1,2] n [5] 5=j (0+n):=λ n=>⟨rfl,rfl,rfl,rfl⟩
 simp[fg,LQ,bI,bj,reach,Chunk.refs,bV,cP,cB,Chunk.c2,ar,show bD [4,3,0,1,2] 4=j 0 from rfl,show bD [4,3,0,1,2] 3=j 1 from rfl,show bD [4,3,0,1,2] 0=j 2 from rfl,h,aM,q,ev]
def aPY{m:M}{ag ai aH aL:Nat}{x y:c0}(g d:Nat):b' E 153 [.aS (.func g) [] [.ptr 0 0 0 0]] [.box [.aS (.func d) [] [.ptr 1 0 0 0]],.box [.ptr 2 0 0 0],.box (aW m (2+1) ag (2+2) ai),.aE 5 ag aH x,.aE 5 ai aL y]=j (.aS (.func 154) [] [.ptr 5 0 0 0],[.box [.aS (.func d) [] [.ptr 1 0 0 0]],.box [.ptr 2 0 0 0],.box (aW m (2+1) ag (2+2) ai),.aE 5 ag aH x,.aE 5 ai aL y,.box [.aS (.func g) [] [.ptr 0 0 0 0]]]):=by rw[bz If];simp(disch:=omega)only[aw,simprocAttr,Mm,b1,b7]
def aPZ{m:M}{ag ai aH aL:Nat}{x y:c0}(g d:Nat)(fU c5:Chunk)(T:ab):cE 153 [.aS (.func g) [] [.ptr 6 0 0 0]] (.box (aW (m) 1 ag 2 ai)::.aE 5 ag aH x::.aE 5 ai aL y::.box [.ptr 0 0 0 0]::fU::c5::.box [.aS (.func d) [] [.ptr 3 0 0 0]]::T) (.aS (.func 154) [] [.ptr (T.length+7) 0 0 0]) (.box (aW (m) 1 ag 2 ai)::.aE 5 ag aH x::.aE 5 ai aL y::.box [.ptr 0 0 0 0]::fU::c5::.box [.aS (.func d) [] [.ptr 3 0 0 0]]::(T++[.box [.aS (.func g) [] [.ptr 6 0 0 0]]])):=by
 have h:=aPY (m:=m) (ag:=ag) (ai:=ai) (aH:=aH) (aL:=aL) (x:=x) (y:=y) g d;have ar:=ka (bD [6,3,0,1,2]) m 1 ag 2 ai 3 4 rfl rfl;have aM:=ka (dG [6,3,0,1,2] (T.length+1+1+1+1+1+1+1) [5]) m 3 ag 4 ai 1 2 rfl rfl;simp only[dl]at h;unfold cE dy;have q:∀n,dG [6,3,0,1,2] n [5] 0=j 6∧dG [6,3,0,1,2] n [5] 1=j 3∧dG [6,3,0,1,2] n [5] 2=j 0∧dG [6,3,0,1,2] n [5] 5=j (0+n):=λ n=>⟨rfl,rfl,rfl,rfl⟩
 simp[fg,LQ,bI,bj,reach,Chunk.refs,bV,cP,cB,Chunk.c2,ar,show bD [6,3,0,1,2] 6=j 0 from rfl,show bD [6,3,0,1,2] 3=j 1 from rfl,show bD [6,3,0,1,2] 0=j 2 from rfl,h,aM,q,ev]
def Cr(m:M)(ag ai aH aL:Nat)(x y:c0):ab:=[.box (aW m 1 ag 2 ai),.aE 5 ag aH x,.aE 5 ai aL y,.box [.ptr 0 0 0 0],.box [.aS (.func 158) [] [.ptr 3 0 0 0]],.box [.aS (.func 161) [] [.ptr 3 0 0 0]],.box [.aS (.func 162) [] [.ptr 3 0 0 0]],.map [(.v (.int .u8 64),.aS (.func 154) [] [.ptr 8 0 0 0]),(.v (.int .u8 65),.aS (.func 154) [] [.ptr 10 0 0 0]),(.v (.int .u8 66),.aS (.func 154) [] [.ptr 11 0 0 0]),(.v (.int .u8 67),.aS (.func 154) [] [.ptr 13 0 0 0]),(.v (.int .u8 68),.aS (.func 154) [] [.ptr 15 0 0 0]),(.v (.int .u8 69),.aS (.func 154) [] [.ptr 16 0 0 0]),(.v (.int .u8 70),.aS (.func 154) [] [.ptr 17 0 0 0]),(.v (.int .u8 71),.aS (.func 154) [] [.ptr 5 0 0 0]),(.v (.int .u8 72),.aS (.func 160) [] [.ptr 3 0 0 0]),(.v (.int .u8 73),.aS (.func 154) [] [.ptr 19 0 0 0]),(.v (.int .u8 74),.aS (.func 157) [] [.ptr 21 0 0 0]),(.v (.int .u8 75),.aS (.func 157) [] [.ptr 22 0 0 0]),(.v (.int .u8 76),.aS (.func 154) [] [.ptr 23 0 0 0]),(.v (.int .u8 77),.aS (.func 154) [] [.ptr 24 0 0 0]),(.v (.int .u8 80),.aS (.func 154) [] [.ptr 9 0 0 0]),(.v (.int .u8 83),.aS (.func 154) [] [.ptr 25 0 0 0]),(.v (.int .u8 84),.aS (.func 154) [] [.ptr 26 0 0 0]),(.v (.int .u8 88),.aS (.func 154) [] [.ptr 27 0 0 0]),(.v (.int .u8 90),.aS (.func 154) [] [.ptr 20 0 0 0]),(.v (.int .u8 96),.aS (.func 154) [] [.ptr 5 0 0 0]),(.v (.int .u8 97),.aS (.func 154) [] [.ptr 14 0 0 0]),(.v (.int .u8 100),.aS (.func 154) [] [.ptr 18 0 0 0]),(.v (.int .u8 101),.aS (.func 154) [] [.ptr 12 0 0 0]),(.v (.int .u8 102),.aS (.func 160) [] [.ptr 3 0 0 0]),(.v (.int .u8 103),.aS (.func 157) [] [.ptr 28 0 0 0]),(.v (.int .u8 110),.aS (.func 157) [] [.ptr 29 0 0 0]),(.v (.int .u8 114),.aS (.func 184) [.ptr 0 0 0 0] []),(.v (.int .u8 115),.aS (.func 185) [] [.ptr 3 0 0 0]),(.v (.int .u8 117),.aS (.func 186) [] [.ptr 3 0 0 0])],.box [.aS (.func 163) [] [.ptr 3 0 0 0]],.box [.aS (.func 165) [] [.ptr 3 0 0 0]],.box [.aS (.func 159) [.ptr 0 0 0 0] []],.box [.aS (.func 158) [] [.ptr 3 0 0 0]],.box [.aS (.func 158) [] [.ptr 3 0 0 0]],.box [.aS (.func 99) [.ptr 0 0 0 0] []],.box [.aS (.func 99) [.ptr 0 0 0 0] []],.box [.aS (.func 167) [] [.ptr 3 0 0 0]],.box [.aS (.func 168) [] [.ptr 4 0 0 0,.ptr 3 0 0 0]],.box [.aS (.func 169) [] [.ptr 3 0 0 0]],.box [.aS (.func 170) [] [.ptr 3 0 0 0]],.box [.aS (.func 171) [] [.ptr 3 0 0 0]],.box [.aS (.func 173) [] [.ptr 3 0 0 0]],.box [.aS (.func 175) [.ptr 0 0 0 0] []],.box [.aS (.func 176) [.ptr 0 0 0 0] []],.box [.aS (.func 177) [] [.ptr 6 0 0 0]],.box [.aS (.func 162) [] [.ptr 3 0 0 0]],.box [.aS (.func 178) [] [.ptr 3 0 0 0]],.box [.aS (.func 179) [] [.ptr 3 0 0 0]],.box [.aS (.func 180) [] [.ptr 3 0 0 0]],.box [.aS (.func 182) [.ptr 0 0 0 0] []],.box [.aS (.func 183) [.ptr 0 0 0 0] []]]
def aP0{m:M}{ag ai aH aL:Nat}{x y:c0}:b' E 111 [.ptr 0 0 0 0] [.box (aW m 1 ag 2 ai),.aE 5 ag aH x,.aE 5 ai aL y]=j (.dV 7,Cr m ag ai aH aL x y):=by rw[bz af7];simp(maxSteps:=9000000) (disch:=omega)only[aw,simprocAttr,aId,b1,b7,Zk,k3,ik,gT,lx,oc,aFm,aFr,aPR,aPT,aPX,aPZ,aPV];rfl
def aP1(m:M)(ag ai aH aL:Nat)(x y:c0):reach (Cr m ag ai aH aL x y) 64 [7,1,2] []=[7,8,3,0,1,2,10,11,13,15,16,4,17,5,19,21,22,23,6,24,9,25,26,27,20,14,18,12,28,29]:=aK
def I':cq:=[7,8,3,10,11,13,15,16,4,17,5,19,21,22,23,6,24,9,25,26,27,20,14,18,12,28,29]
def ajS(m:M)(ag ai aH aL:Nat):ab:=I'.map λ i=>(((Cr m ag ai aH aL (a7 m.G) (a7 m.O))[i]?).map (Chunk.c2 (dG [0,1,2] 4 I'))).getD (.iter [] 0)
def aP2{m:M}{ag ai aH aL:Nat}{c:aZ}:cE 111 [.ptr 0 0 0 0] [.box (aW m 1 ag 2 ai),.aE 5 ag aH (a7 m.G),.aE 5 ai aL (a7 m.O),.box c] (.dV 4) ([.box (aW m 1 ag 2 ai),.aE 5 ag aH (a7 m.G),.aE 5 ai aL (a7 m.O),.box c]++ajS m ag ai aH aL):=by
 have dA:reach [.box (aW m 1 ag 2 ai),.aE 5 ag aH (a7 m.G),.aE 5 ai aL (a7 m.O),.box c] 64 [0] []=[0,1,2]:=aK;have o8:=λ aY=>lR (show(Chunk.aE 5 ag aH (a7 m.G)).refs=[]from rfl) aY
 have uM:=λ aY=>lR (show(Chunk.aE 5 ai aL (a7 m.O)).refs=[]from rfl) aY
 have ar:=ka (bD [0,1,2]) m 1 ag 2 ai 1 2 rfl rfl;have aM:=ka (dG [0,1,2] 4 I') m 1 ag 2 ai 1 2 rfl rfl;have ao:[0,1,2].map (λ k=>(([Chunk.box (aW m 1 ag 2 ai),.aE 5 ag aH (a7 m.G),.aE 5 ai aL (a7 m.O),.box c][k]?).map (Chunk.c2 (bD [0,1,2]))).getD (.iter [] 0))=[.box (aW m 1 ag 2 ai),.aE 5 ag aH (a7 m.G),.aE 5 ai aL (a7 m.O)]:=by simp[jp,o8,uM,ar]
 have j7:=aP1 m ag ai aH aL (a7 m.G) (a7 m.O);have aN:(bj (.dV 7)++((Cr m ag ai aH aL (a7 m.G) (a7 m.O)).take 3).flatMap Chunk.refs)=[7,1,2]:=aK;have aP3:([7,8,3,0,1,2,10,11,13,15,16,4,17,5,19,21,22,23,6,24,9,25,26,27,20,14,18,12,28,29]:cq).filter (λ i=>decide (3≤i))=I':=bU;have bA:((Cr m ag ai aH aL (a7 m.G) (a7 m.O)).take 3).map (Chunk.c2 (dG [0,1,2] 4 I'))=[.box (aW m 1 ag 2 ai),.aE 5 ag aH (a7 m.G),.aE 5 ai aL (a7 m.O)]:=by simp[Cr,jp,o8,uM,aM]
 have B0:(Cr m ag ai aH aL (a7 m.G) (a7 m.O)).length=30:=rfl;unfold cE dy;simp only[fg,azW,bI,bj,dC,dA,ao,cP,cB,show bD [0,1,2] 0=j 0 from rfl,aP0,jQ];simp only[bj]at aN;simp only[B0,db,dl,Nat.reduceLT,if_false,aN,j7,aP3,bA];rfl
def z6:fa:=[(.v (.int .u8 64),.aS (.func 154) [] [.ptr 5 0 0 0]),(.v (.int .u8 65),.aS (.func 154) [] [.ptr 7 0 0 0]),(.v (.int .u8 66),.aS (.func 154) [] [.ptr 8 0 0 0]),(.v (.int .u8 67),.aS (.func 154) [] [.ptr 9 0 0 0]),(.v (.int .u8 68),.aS (.func 154) [] [.ptr 10 0 0 0]),(.v (.int .u8 69),.aS (.func 154) [] [.ptr 11 0 0 0]),(.v (.int .u8 70),.aS (.func 154) [] [.ptr 13 0 0 0]),(.v (.int .u8 71),.aS (.func 154) [] [.ptr 14 0 0 0]),(.v (.int .u8 72),.aS (.func 160) [] [.ptr 6 0 0 0]),(.v (.int .u8 73),.aS (.func 154) [] [.ptr 15 0 0 0]),(.v (.int .u8 74),.aS (.func 157) [] [.ptr 16 0 0 0]),(.v (.int .u8 75),.aS (.func 157) [] [.ptr 17 0 0 0]),(.v (.int .u8 76),.aS (.func 154) [] [.ptr 18 0 0 0]),(.v (.int .u8 77),.aS (.func 154) [] [.ptr 20 0 0 0]),(.v (.int .u8 80),.aS (.func 154) [] [.ptr 21 0 0 0]),(.v (.int .u8 83),.aS (.func 154) [] [.ptr 22 0 0 0]),(.v (.int .u8 84),.aS (.func 154) [] [.ptr 23 0 0 0]),(.v (.int .u8 88),.aS (.func 154) [] [.ptr 24 0 0 0]),(.v (.int .u8 90),.aS (.func 154) [] [.ptr 25 0 0 0]),(.v (.int .u8 96),.aS (.func 154) [] [.ptr 14 0 0 0]),(.v (.int .u8 97),.aS (.func 154) [] [.ptr 26 0 0 0]),(.v (.int .u8 100),.aS (.func 154) [] [.ptr 27 0 0 0]),(.v (.int .u8 101),.aS (.func 154) [] [.ptr 28 0 0 0]),(.v (.int .u8 102),.aS (.func 160) [] [.ptr 6 0 0 0]),(.v (.int .u8 103),.aS (.func 157) [] [.ptr 29 0 0 0]),(.v (.int .u8 110),.aS (.func 157) [] [.ptr 30 0 0 0]),(.v (.int .u8 114),.aS (.func 184) [.ptr 0 0 0 0] []),(.v (.int .u8 115),.aS (.func 185) [] [.ptr 6 0 0 0]),(.v (.int .u8 117),.aS (.func 186) [] [.ptr 6 0 0 0])]
def Ug:ab:=[.box [.aS (.func 163) [] [.ptr 6 0 0 0]],.box [.ptr 0 0 0 0],.box [.aS (.func 159) [.ptr 0 0 0 0] []],.box [.aS (.func 158) [] [.ptr 6 0 0 0]],.box [.aS (.func 99) [.ptr 0 0 0 0] []],.box [.aS (.func 167) [] [.ptr 6 0 0 0]],.box [.aS (.func 168) [] [.ptr 12 0 0 0,.ptr 6 0 0 0]],.box [.aS (.func 158) [] [.ptr 6 0 0 0]],.box [.aS (.func 169) [] [.ptr 6 0 0 0]],.box [.aS (.func 161) [] [.ptr 6 0 0 0]],.box [.aS (.func 171) [] [.ptr 6 0 0 0]],.box [.aS (.func 175) [.ptr 0 0 0 0] []],.box [.aS (.func 176) [.ptr 0 0 0 0] []],.box [.aS (.func 177) [] [.ptr 19 0 0 0]],.box [.aS (.func 162) [] [.ptr 6 0 0 0]],.box [.aS (.func 162) [] [.ptr 6 0 0 0]],.box [.aS (.func 165) [] [.ptr 6 0 0 0]],.box [.aS (.func 178) [] [.ptr 6 0 0 0]],.box [.aS (.func 179) [] [.ptr 6 0 0 0]],.box [.aS (.func 180) [] [.ptr 6 0 0 0]],.box [.aS (.func 173) [] [.ptr 6 0 0 0]],.box [.aS (.func 99) [.ptr 0 0 0 0] []],.box [.aS (.func 170) [] [.ptr 6 0 0 0]],.box [.aS (.func 158) [] [.ptr 6 0 0 0]],.box [.aS (.func 182) [.ptr 0 0 0 0] []],.box [.aS (.func 183) [.ptr 0 0 0 0] []]]
def aP4(m:M)(ag ai aH aL:Nat):ajS m ag ai aH aL=.map z6::Ug:=aK
def z7(m:M)(c:Int)(l:bX):M:=
 if c=64 then tF m ah (b8 l 0 1).toNat else
 if c=65 then{m with aJ:=jn m.aJ (b8 l 0 1) (cx m)}else
 if c=66 then{m with aJ:=jn m.aJ (0-b8 l 0 1) (cx m)}else
 if c=67 then{m with aJ:=n2 m.aJ (b8 l 0 1) (cx m)}else
 if c=68 then{m with aJ:=n2 m.aJ (0-b8 l 0 1) (cx m)}else
 if c=69 then NK m (b8 l 0 1)else
 if c=70 then NI m (b8 l 0 1)else
 if c=71 then Cp m (b8 l 0 1)else
 if c=72 then{m with aJ:=⟨toR (b8 l 0 1) (cx m),lS (b8 l 1 1) (cx m),J⟩}else
 if c=73 then oF pc (min (b8 l 0 1).toNat m.w) m else
 if c=74 then zV m (b8 l 0 0)else
 if c=75 then uO m (b8 l 0 0)else
 if c=76 then v8 m (0-b8 l 0 1)else
 if c=77 then v8 m (b8 l 0 1)else
 if c=80 then tF m J (b8 l 0 1).toNat else
 if c=83 then lT m m.cW (b8 l 0 1) ah else
 if c=84 then lT m m.cW (0-b8 l 0 1) J else
 if c=88 then NJ m (b8 l 0 1)else
 if c=90 then oF rz (min (b8 l 0 1).toNat m.w) m else
 if c=96 then Cp m (b8 l 0 1)else
 if c=97 then{m with aJ:=n2 m.aJ (b8 l 0 1) (cx m)}else
 if c=100 then{m with aJ:=⟨toR (b8 l 0 1) (cx m),lS (m.aJ.c+1) (cx m),J⟩}else
 if c=101 then{m with aJ:=jn m.aJ (0-b8 l 0 1) (cx m)}else
 if c=102 then{m with aJ:=⟨toR (b8 l 0 1) (cx m),lS (b8 l 1 1) (cx m),J⟩}else
 if c=103 then Ca m (b8 l 0 0)else
 if c=110 then Cb m (b8 l 0 0)else
 if c=114 then Ft m l else
 if c=115 then FI m else
 if c=117 then zZ m else
 m
def ajT{m b6:M}{H aq:ab}(h:iO m H)(p:rA 0 b6 aq)(U:tE 0 H aq):iO b6 aq:=by
 obtain⟨a,ag,b,ai,T,rfl,a0,dj,aH,aL,B9,B_,aF,an,dc,ao,nr,cy⟩:=h;obtain⟨A,c6,B,c7,p1,oD,cV,i2,i3,i4⟩:=p;obtain⟨bK,bJ,cL⟩:=U
 match aq,cV,i2,i3,bK,bJ,cL with
 |y::dk,cV,i2,i3,bK,bJ,cL=>
  cases cV
  match A,B,i2,i3,i4 with
  |0,_,i2,_,_=>cases i2
  |_+1,0,_,i3,_=>cases i3
  |b_+1,b0+1,i2,i3,i4=>
   refine⟨b_,c6,b0,c7,dk,rfl,b_,b0,p1,oD,rfl,rfl,i2,i3,aa,s6 ao (by simpa using bK),?_,?_⟩
   ·intro x ap;obtain⟨fc,l_⟩:∃fc,T[0]?=j fc:=⟨T[0],eC aa⟩;obtain⟨nN,gf,ft⟩:=cL 1 fc l_ aa (nr fc l_);rw[kp,ap]at gf;cases gf;exact ft
   ·intro x ap;obtain⟨fc,l_⟩:∃fc,T[1]?=j fc:=⟨T[1],eC aa⟩;obtain⟨nN,gf,ft⟩:=cL 2 fc l_ aa (cy fc l_);rw[kp,ap]at gf;cases gf;exact ft
def FN(m:M)(ag ai aH aL:Nat)(c:aZ):ab:=.box (aW m 1 ag 2 ai)::.aE 5 ag aH (a7 m.G)::.aE 5 ai aL (a7 m.O)::.box c::.map z6::Ug
def jG{m:M}{ag ai aH aL:Nat}{c:aZ}:v7 (FN m ag ai aH aL c) 0 m 1 ag 2 ai:=⟨rfl,⟨aH,rfl⟩,⟨aL,rfl⟩,bU⟩
def NL:cq:=[154,157,160,184,185,186]
def ajU(m:M)(l:bX)(H:ab)(c:Int)(f:Nat)(pf lm:aZ):Prop:=(f∈NL∧((pf=[]∧∃k,lm=[.ptr k 0 0 0])∨(pf=[.ptr 0 0 0 0]∧lm=[])))∧∃aq,dy E (b' E) f (pf++.i (.af 1 (cc l) J)::lm) H=j (.bl [],aq)∧iO (z7 m c l) aq
def jH{m b6:M}{l:bX}{c:Int}{f:Nat}{pf lm:aZ}{ag ai aH aL:Nat}{q:aZ}(aN:f∈NL∧((pf=[]∧∃k,lm=[.ptr k 0 0 0])∨(pf=[.ptr 0 0 0 0]∧lm=[])))(he:b6=z7 m c l)(h:∃aq,cE f (pf++.i (.af 1 (cc l) J)::lm) (FN m ag ai aH aL q) (.bl []) aq∧rA 0 b6 aq∧tE 0 (FN m ag ai aH aL q) aq):ajU m l (FN m ag ai aH aL q) c f pf lm:=by obtain⟨aq,p,U,az⟩:=h;exact⟨aN,aq,p,he▸ajT iO.eb U az⟩
def aP5{m:M}(hm:bt m)(l:bX)(ao:l.length<100000)(p:1≤b8 l 0 1∧b8 l 0 1≤100000)(a8:0≤b8 l 0 0∧b8 l 0 0≤100000)(ag ai aH aL:Nat)(q:aZ)(I:bx×ay)(ax:I∈z6):∃(c:Int) (f:Nat) (pf lm:aZ),I=(.v (.int .u8 c),.aS (.func f) pf lm)∧ajU m l (FN m ag ai aH aL q) c f pf lm:=by
 simp only[z6,mx,zj,or_false]at ax;rcases ax with rfl|rfl|rfl|rfl|rfl|rfl|rfl|rfl|rfl|rfl|rfl|rfl|rfl|rfl|rfl|rfl|rfl|rfl|rfl|rfl|rfl|rfl|rfl|rfl|rfl|rfl|rfl|rfl|rfl
 ·exact⟨64,_,_,_,rfl,jH ⟨bU,.inl ⟨rfl,_,rfl⟩⟩ rfl (p3 (bC:=[.i (.af 1 (cc l) J)]) (k:=5) (ac:=6) rfl rfl rfl (aPw hm l ao p) jG rfl rfl bU)⟩
 ·exact⟨65,_,_,_,rfl,jH ⟨bU,.inl ⟨rfl,_,rfl⟩⟩ rfl (Cm (bC:=[.i (.af 1 (cc l) J)]) (k:=7) rfl rfl rfl (aPI hm l ao p) jG rfl)⟩
 ·exact⟨66,_,_,_,rfl,jH ⟨bU,.inl ⟨rfl,_,rfl⟩⟩ rfl (p3 (bC:=[.i (.af 1 (cc l) J)]) (k:=8) (ac:=6) rfl rfl rfl (ajN hm l ao p) jG rfl rfl bU)⟩
 ·exact⟨67,_,_,_,rfl,jH ⟨bU,.inl ⟨rfl,_,rfl⟩⟩ rfl (Cm (bC:=[.i (.af 1 (cc l) J)]) (k:=9) rfl rfl rfl (ajQ hm l ao p) jG rfl)⟩
 ·exact⟨68,_,_,_,rfl,jH ⟨bU,.inl ⟨rfl,_,rfl⟩⟩ rfl (p3 (bC:=[.i (.af 1 (cc l) J)]) (k:=10) (ac:=6) rfl rfl rfl (aPy hm l ao p) jG rfl rfl bU)⟩
 ·exact⟨69,_,_,_,rfl,jH ⟨bU,.inl ⟨rfl,_,rfl⟩⟩ rfl (aPa (bC:=[.i (.af 1 (cc l) J)]) (k:=11) (i:=12) (ac:=6) rfl rfl rfl (aPN hm l ao p) jG rfl rfl rfl bU bU bU)⟩
 ·exact⟨70,_,_,_,rfl,jH ⟨bU,.inl ⟨rfl,_,rfl⟩⟩ rfl (p3 (bC:=[.i (.af 1 (cc l) J)]) (k:=13) (ac:=6) rfl rfl rfl (aPz hm l ao p) jG rfl rfl bU)⟩
 ·exact⟨71,_,_,_,rfl,jH ⟨bU,.inl ⟨rfl,_,rfl⟩⟩ rfl (p3 (bC:=[.i (.af 1 (cc l) J)]) (k:=14) (ac:=6) rfl rfl rfl (ajO hm l ao p) jG rfl rfl bU)⟩
 ·exact⟨72,_,_,_,rfl,jH ⟨bU,.inl ⟨rfl,_,rfl⟩⟩ rfl (I_ (bC:=[.i (.af 1 (cc l) J)]) (q:=6) rfl rfl rfl (ajR hm l ao) jG rfl)⟩
 ·exact⟨73,_,_,_,rfl,jH ⟨bU,.inl ⟨rfl,_,rfl⟩⟩ rfl (p3 (bC:=[.i (.af 1 (cc l) J)]) (k:=15) (ac:=6) rfl rfl rfl (aPB hm l ao p) jG rfl rfl bU)⟩
 ·exact⟨74,_,_,_,rfl,jH ⟨bU,.inl ⟨rfl,_,rfl⟩⟩ rfl (Cm (bC:=[.i (.af 1 (cc l) J)]) (k:=16) rfl rfl rfl (aPJ hm l ao a8) jG rfl)⟩
 ·exact⟨75,_,_,_,rfl,jH ⟨bU,.inl ⟨rfl,_,rfl⟩⟩ rfl (Cm (bC:=[.i (.af 1 (cc l) J)]) (k:=17) rfl rfl rfl (aPK hm l ao a8) jG rfl)⟩
 ·exact⟨76,_,_,_,rfl,jH ⟨bU,.inl ⟨rfl,_,rfl⟩⟩ rfl (aPb (bC:=[.i (.af 1 (cc l) J)]) (k:=18) (i:=19) (ac:=6) rfl rfl rfl (aPO hm l ao p) jG rfl rfl rfl bU bU bU)⟩
 ·exact⟨77,_,_,_,rfl,jH ⟨bU,.inl ⟨rfl,_,rfl⟩⟩ rfl (p3 (bC:=[.i (.af 1 (cc l) J)]) (k:=20) (ac:=6) rfl rfl rfl (aPP hm l ao p) jG rfl rfl bU)⟩
 ·exact⟨80,_,_,_,rfl,jH ⟨bU,.inl ⟨rfl,_,rfl⟩⟩ rfl (p3 (bC:=[.i (.af 1 (cc l) J)]) (k:=21) (ac:=6) rfl rfl rfl (aPx hm l ao p) jG rfl rfl bU)⟩
 ·exact⟨83,_,_,_,rfl,jH ⟨bU,.inl ⟨rfl,_,rfl⟩⟩ rfl (p3 (bC:=[.i (.af 1 (cc l) J)]) (k:=22) (ac:=6) rfl rfl rfl (aPD hm l ao p) jG rfl rfl bU)⟩
 ·exact⟨84,_,_,_,rfl,jH ⟨bU,.inl ⟨rfl,_,rfl⟩⟩ rfl (p3 (bC:=[.i (.af 1 (cc l) J)]) (k:=23) (ac:=6) rfl rfl rfl (aPE hm l ao p) jG rfl rfl bU)⟩
 ·exact⟨88,_,_,_,rfl,jH ⟨bU,.inl ⟨rfl,_,rfl⟩⟩ rfl (p3 (bC:=[.i (.af 1 (cc l) J)]) (k:=24) (ac:=6) rfl rfl rfl (aPF hm l ao p) jG rfl rfl bU)⟩
 ·exact⟨90,_,_,_,rfl,jH ⟨bU,.inl ⟨rfl,_,rfl⟩⟩ rfl (p3 (bC:=[.i (.af 1 (cc l) J)]) (k:=25) (ac:=6) rfl rfl rfl (aPC hm l ao p) jG rfl rfl bU)⟩
 ·exact⟨96,_,_,_,rfl,jH ⟨bU,.inl ⟨rfl,_,rfl⟩⟩ rfl (p3 (bC:=[.i (.af 1 (cc l) J)]) (k:=14) (ac:=6) rfl rfl rfl (ajO hm l ao p) jG rfl rfl bU)⟩
 ·exact⟨97,_,_,_,rfl,jH ⟨bU,.inl ⟨rfl,_,rfl⟩⟩ rfl (Cm (bC:=[.i (.af 1 (cc l) J)]) (k:=26) rfl rfl rfl (ajQ hm l ao p) jG rfl)⟩
 ·exact⟨100,_,_,_,rfl,jH ⟨bU,.inl ⟨rfl,_,rfl⟩⟩ rfl (p3 (bC:=[.i (.af 1 (cc l) J)]) (k:=27) (ac:=6) rfl rfl rfl (aPA hm l ao p) jG rfl rfl bU)⟩
 ·exact⟨101,_,_,_,rfl,jH ⟨bU,.inl ⟨rfl,_,rfl⟩⟩ rfl (p3 (bC:=[.i (.af 1 (cc l) J)]) (k:=28) (ac:=6) rfl rfl rfl (ajN hm l ao p) jG rfl rfl bU)⟩
 ·exact⟨102,_,_,_,rfl,jH ⟨bU,.inl ⟨rfl,_,rfl⟩⟩ rfl (I_ (bC:=[.i (.af 1 (cc l) J)]) (q:=6) rfl rfl rfl (ajR hm l ao) jG rfl)⟩
 ·exact⟨103,_,_,_,rfl,jH ⟨bU,.inl ⟨rfl,_,rfl⟩⟩ rfl (Cm (bC:=[.i (.af 1 (cc l) J)]) (k:=29) rfl rfl rfl (aPL hm l ao a8) jG rfl)⟩
 ·exact⟨110,_,_,_,rfl,jH ⟨bU,.inl ⟨rfl,_,rfl⟩⟩ rfl (Cm (bC:=[.i (.af 1 (cc l) J)]) (k:=30) rfl rfl rfl (aPM hm l ao a8) jG rfl)⟩
 ·exact⟨114,_,_,_,rfl,jH ⟨bU,.inr ⟨rfl,rfl⟩⟩ rfl (I9 (bC:=[.i (.af 1 (cc l) J)]) rfl rfl rfl (aN4 hm l ao) jG)⟩
 ·exact⟨115,_,_,_,rfl,jH ⟨bU,.inl ⟨rfl,_,rfl⟩⟩ rfl (I_ (bC:=[.i (.af 1 (cc l) J)]) (q:=6) rfl rfl rfl (aPs hm l) jG rfl)⟩
 ·exact⟨117,_,_,_,rfl,jH ⟨bU,.inl ⟨rfl,_,rfl⟩⟩ rfl (I_ (bC:=[.i (.af 1 (cc l) J)]) (q:=6) rfl rfl rfl (aPt hm l) jG rfl)⟩
def ajV{k:bx}:∀{es:fa} {v:ay},ik k es=j (j v)→∃I∈es,gT k I.1=j ah∧I.2=v
 |[],v,h=>by simp[ik]at h
 |(ac,x)::r,v,h=>by
  simp only[ik]at h;cases aU:gT k ac with
  |none=>rw[aU]at h;cases h
  |some b=>
   rw[aU]at h;cases b with
   |true=>cases h;exact⟨_,Fq,aU,rfl⟩
   |false=>obtain⟨I,p,U⟩:=ajV h;exact⟨I,vk _ p,U⟩
def ajW(c:Int):∀{es:fa},(∀I∈es,∃d,I.1=.v (.int .u8 d))→∃al,ik (.v (.int .u8 c)) es=j al
 |[],_=>⟨o,rfl⟩
 |(ac,x)::r,h=>by
  obtain⟨d,aP⟩:=h _ Fq;simp only at aP;subst aP;simp only[ik,gT,if_true];by_cases e:c=d
  ·simp only[e,decide_true];exact be
  ·simp only[e,decide_false];exact ajW c λ I ax=>h I (vk _ ax)
def aP6:∀I∈z6,∃d,I.1=.v (.int .u8 d):=by intro I ax;simp only[z6,mx,zj,or_false]at ax;rcases ax with rfl|rfl|rfl|rfl|rfl|rfl|rfl|rfl|rfl|rfl|rfl|rfl|rfl|rfl|rfl|rfl|rfl|rfl|rfl|rfl|rfl|rfl|rfl|rfl|rfl|rfl|rfl|rfl|rfl<;>exact be
def aP7{c:Int}(h:ik (.v (.int .u8 c)) z6=j o)(m:M)(l:bX):z7 m c l=m:=by have h:=Of.1 h;simp only[z6,mx,zj,or_false,forall_eq_or_imp,forall_eq,gT,if_true,br,decide_eq_false_iff_not]at h;simp only[z7,h,if_false]
def v_(e:ih):ay:=.agg (lu (EZ e))
def z8(e:ih):v_ e=.agg [.i (.v (.int .i64 e.k)),.i (.v (.int .i32 e.r)),.i (.v (.int .u8 e.c)),.i (.v (.int .u8 e.v)),.i (.str e.i),.i (.af 1 (cc e.bn) J),.i (.str e.t)]:=rfl
def Cs(e:ih):Bool:=hp e.r &&!decide (e.r<32) &&!(decide (127≤e.r) &&decide (e.r≤159)) &&(decide (e.c=0) &&decide (e.v=0) &&e.i.isEmpty &&e.t.isEmpty &&e.bn.isEmpty)
def Ja(e:ih):Bool:=!(decide (32≤e.c)||decide (e.c=24)||decide (e.c=26)||decide (e.c=27)) &&(decide (e.r=0) &&decide (e.v=0) &&e.i.isEmpty &&e.t.isEmpty &&e.bn.isEmpty)
def FO(e:ih):Bool:=!decide (3≤e.i.length) &&!e.i.any (lf 32 47) &&!(decide (e.c<48)||decide (126<e.c)) &&!(e.i.isEmpty &&(decide (e.c=91)||decide (e.c=93))) &&(decide (e.r=0) &&decide (e.v=0) &&e.t.isEmpty &&e.bn.isEmpty)
def FP(e:ih):Bool:=decide ((p2 e.v e.bn e.i).2=0) &&!(decide (e.c<64)||decide (126<e.c)) &&(decide (e.r=0) &&e.t.isEmpty)
def Jb(e:ih):Bool:=!decide (256<e.t.length) &&!e.t.any (lf 32 255) &&(decide (e.r=0) &&decide (e.c=0) &&decide (e.v=0) &&e.i.isEmpty &&e.bn.isEmpty)
def qU(e:ih):Bool:=if e.k=1 then Cs e else if e.k=2 then Ja e else if e.k=3 then FO e else if e.k=4 then FP e else if e.k=5 then Jb e else J
def aP8(r:Int)(ak:-2147483648≤r∧r≤2147483647)(c v:Int)(i:bm)(bn:bX)(t:bm):
  gV 88 [v_ ⟨1,r,c,v,i,bn,t⟩] (↑(Cs ⟨1,r,c,v,i,bn,t⟩)):=by
 rw[z8];unfold Cs;have aP:=aKF r;have ao:(gC (fi r)).length≤4:=by
  rw[gC,mE];unfold fi;repeat' split
  all_goals simp only[db];omega
 have gh:=λ H=>uE r ak H
 have qF:=λ H=>sF [] (gC (fi r)) (by simp only[dS];omega) H
 simp only[hb,aP]at qF;simp only[];cases aR:hp r with
 |false=>
  have gE:¬65533=r:=by rintro rfl;exact absurd aR bU
  simp only[aR,gk,if_false,show hH [65533]=[[.v (.int .i32 65533)]]from rfl]at qF;simp only[mb]
  (refine bE fW ?_;simp(disch:=omega)only[aw,simprocAttr,gg,cY,bN,uE,sF,hb,fe,cA,dD,gh,qF,gE];exact be)
 |true=>
  simp only[aR,if_true,show hH [r]=[[.v (.int .i32 r)]]from rfl]at qF;simp only[ks];by_cases p:r<32
  ·simp only[p,decide_true,LO,mb]
   (refine bE fW ?_;simp(disch:=omega)only[aw,simprocAttr,gg,cY,bN,uE,sF,hb,fe,cA,dD,gh,qF,p];exact be)
  ·simp only[p,decide_false,sD,ks];by_cases U:127≤r∧r≤159
   ·obtain⟨U,az⟩:=U;simp only[U,az,decide_true,Bw,LO,mb]
    (refine bE fW ?_;simp(disch:=omega)only[aw,simprocAttr,gg,cY,bN,uE,sF,hb,fe,cA,dD,gh,qF,p,U,az];exact be)
   ·rw[show(decide (127≤r) &&decide (r≤159))=J by simp;omega];simp only[sD,ks];have aP9:¬127≤r∨¬r≤159:=aa;rcases aP9 with U|U
    all_goals
     by_cases cy:c=0;rotate_left
     ·simp only[cy,gy];(refine bE fW ?_;simp(disch:=omega)only[aw,simprocAttr,gg,cY,bN,uE,sF,hb,fe,cA,dD,gh,qF,p,U,cy];exact be)
     subst cy;by_cases cN:v=0;rotate_left
     ·simp only[cN,gy];(refine bE fW ?_;simp(disch:=omega)only[aw,simprocAttr,gg,cY,bN,uE,sF,hb,fe,cA,dD,gh,qF,p,U,cN];exact be)
     subst cN;cases i with
     |cons i0 i=>simp only[da,gy];(refine bE fW ?_;simp(disch:=omega)only[aw,simprocAttr,gg,cY,bN,uE,sF,hb,fe,cA,dD,gh,qF,p,U,da];exact be)
     |nil=>
      cases t with
      |cons i0 i=>simp only[da,gy];(refine bE fW ?_;simp(disch:=omega)only[aw,simprocAttr,gg,cY,bN,uE,sF,hb,fe,cA,dD,gh,qF,p,U,da];exact be)
      |nil=>
       cases bn with
       |cons k7 bn=>simp only[da,gy];(refine bE fW ?_;simp(disch:=omega)only[aw,simprocAttr,gg,cY,bN,uE,sF,hb,fe,cA,dD,gh,qF,p,U,cc,da];exact be)
       |nil=>simp only[dS,gy];(refine bE fW ?_;simp(disch:=omega)only[aw,simprocAttr,gg,cY,bN,uE,sF,hb,fe,cA,dD,gh,qF,p,U,cc,dS];exact be)
structure z_ (m:M) (c:List ay) (I:Nat) (H:ab):Prop where
 an:iO m H
 zT:3≤I
 ax:H[I]?=j (.box c)
def FQ{B:Nat}{H:ab}:∀{c:aZ},(∀a∈c,∃x,a=.i x)→ff B H c=c
 |[],_=>by simp[ff]
 |a::r,h=>by obtain⟨x,rfl⟩:=h a aX;simp only[ff,eL];rw[FQ λ b an=>h b (by simp[an])]
def z'{aY:Nat→cu}:∀{c:aZ},(∀a∈c,∃x,a=.i x)→cP aY c=c∧bI c=[]
 |[],_=>by simp[cP,bI]
 |a::r,h=>by
  obtain⟨x,rfl⟩:=h a aX;have:=z' (aY:=aY) λ b an=>h b (vk _ an)
  simp[cP,cB,bI,bj,this.1,this.2]
def Ct{m:M}{I A ag B ai fJ dQ l0:Nat}{T:ab}{a1:cq}{x y z:bx}(b9:bD (0::a1) A=j fJ)(c_:bD (0::a1) B=j dQ)(ax:bD (0::a1) I=j l0):
  yb (0::a1) [(0,.ptr 0 0 0 0),(3,.ptr (I) 0 0 0),(47,.i x),(48,.i y),(49,.i z)] (.box (aW m A ag B ai)::T)=([(0,.ptr 0 0 0 0),(3,.ptr (l0) 0 0 0),(47,.i x),(48,.i y),(49,.i z)],.box (aW m fJ ag dQ ai)::a1.map λ c=>(((Chunk.box (aW m A ag B ai)::T)[c]?).map (Chunk.c2 (bD (0::a1)))).getD (.iter [] 0)):=by
 have a8:bD (0::a1) 0=j 0:=rfl;simp only[yb,fC,fN,cB,ax,a8,rc,eH,jQ,jp,ka _ m _ _ _ _ _ _ b9 c_]
def Aa(aY:Nat→cu)(z g s:Nat)(r:c0):(Chunk.aE z g s r).c2 aY=.aE z g s r:=rfl
def aP_{m:M}{c:aZ}{I:Nat}{H:ab}(aj:∀a∈c,∃x,a=.i x)(h:z_ m c I H)(x y z:bx):∃l0 aq,gc 3 [(0,.ptr 0 0 0 0),(3,.ptr (I) 0 0 0),(47,.i x),(48,.i y),(49,.i z)] H=([(0,.ptr 0 0 0 0),(3,.ptr (l0) 0 0 0),(47,.i x),(48,.i y),(49,.i z)],aq)∧z_ m c l0 aq:=by
 obtain⟨⟨a,ag,b,ai,T,rfl,a0,dj,aH,aL,B9,B_,aF,an,dc,ao,nr,cy⟩,zT,ax⟩:=h;obtain rfl:a=a0:=aa;obtain rfl:b=dj:=aa;obtain⟨I,rfl⟩:∃q,I=q+3:=⟨I-3,aa⟩
 match T,ao,aF,an,ax,nr,cy with
 |t0::t1::T,ao,aF,an,ax,nr,cy=>
  have iB:=nr t0 rfl;have g_:=cy t1 rfl;clear nr cy;have ky:=fH.2 (bQ.1 ax).1;have NG:=fH.2 (bQ.1 aF).1;have NH:=fH.2 (bQ.1 an).1;have ajX:¬I+3=a+1:=λ e=>by have:I+2=a:=aa;subst this;have ax:(t0::t1::T)[I+2]?=_:=ax;rw[aF]at ax;cases ax
  have ajY:¬I+3=b+1:=λ e=>by have:I+2=b:=aa;subst this;have ax:(t0::t1::T)[I+2]?=_:=ax;rw[an]at ax;cases ax
  have aP':¬I+2=a:=aa;have aQa:¬I+2=b:=aa;have aQb:=(z' (aY:=λ _=>o) aj).2;have xJ:=λ aY=>(z' (aY:=aY) aj).1
  have dA:reach (.box (aW m (a+1) ag (b+1) ai)::t0::t1::T) 64 [0,I+3,a+1,b+1] []=[0,a+1,b+1,I+3]:=by simp only[da]at ky NG NH;have nv:T[I]?=j (.box c):=ax;simp[reach,kw,bV,aF,an,nv,aQb,Chunk.refs,NG,NH,bi dc,ajX,ajY,bi ajX,bi ajY,aP',aQa,fH.2 (bQ.1 nv).1]
  have mg:oL 3 [(0,.ptr 0 0 0 0),(3,.ptr (I+3) 0 0 0),(47,.i x),(48,.i y),(49,.i z)] (.box (aW m (a+1) ag (b+1) ai)::t0::t1::T)=[0,1,2]++([a+1,b+1,I+3].filter λ i=>decide (3≤i)):=by unfold oL;simp only[fC,fN,bI,bj,dC,cC,w6,nU,zi,tp,kw,bV,iB,g_,dA];rfl
  have gL:=λ aY=>lR iB aY
  have ht:=λ aY=>lR g_ aY
  have nv:T[I]?=j (.box c):=ax;rw[HR aX,mg];rcases a with _|_|a<;>rcases b with _|_|b
  ·exact absurd rfl dc
  ·cases aF;cases an;have hE:([0+1,0+1+1,I+3].filter λ i=>decide (3≤i))=[I+3]:=by simp[sN]
   rw[hE];refine⟨3,.box (aW m 1 ag 2 ai)::[.aE 5 ag aH (a7 m.G),.aE 5 ai aL (a7 m.O),.box c],?_,⟨0,ag,1,ai,[.aE 5 ag aH (a7 m.G),.aE 5 ai aL (a7 m.O),.box c],rfl,oE rfl rfl bU rfl rfl⟩,aa,rfl⟩;refine(Ct (a1:=[1,2,I+3]) (fJ:=1) (dQ:=2) (l0:=3) (by simp[bD]) (by simp[bD]) (by simp[bD])).trans ?_;simp only[fC,fN,kp,rc,show∀x:Nat,x+3=x+1+1+1 from λ _=>rfl,nv,eH,jQ,Aa,jp,xJ]
  ·have Jc:¬I=b:=aa;cases aF;have iZ:T[b]?=_:=an;have hE:([0+1,b+1+1+1,I+3].filter λ i=>decide (3≤i))=[b+1+1+1,I+3]:=by simp[sN]
   rw[hE];refine⟨4,.box (aW m 1 ag 3 ai)::[.aE 5 ag aH (a7 m.G),t1,.aE 5 ai aL (a7 m.O),.box c],?_,⟨0,ag,2,ai,[.aE 5 ag aH (a7 m.G),t1,.aE 5 ai aL (a7 m.O),.box c],rfl,oE rfl rfl bU rfl g_⟩,aa,rfl⟩;refine(Ct (a1:=[1,2,b+1+1+1,I+3]) (fJ:=1) (dQ:=3) (l0:=4) (by simp[bD]) (by simp[bD]) (by simp[bD,Jc])).trans ?_;simp only[fC,fN,kp,rc,show∀x:Nat,x+3=x+1+1+1 from λ _=>rfl,nv,iZ,eH,jQ,Aa,jp,xJ,ht]
  ·cases aF;cases an;have hE:([0+1+1,0+1,I+3].filter λ i=>decide (3≤i))=[I+3]:=by simp[sN]
   rw[hE];refine⟨3,.box (aW m 2 ag 1 ai)::[.aE 5 ai aL (a7 m.O),.aE 5 ag aH (a7 m.G),.box c],?_,⟨1,ag,0,ai,[.aE 5 ai aL (a7 m.O),.aE 5 ag aH (a7 m.G),.box c],rfl,oE rfl rfl bU rfl rfl⟩,aa,rfl⟩;refine(Ct (a1:=[1,2,I+3]) (fJ:=2) (dQ:=1) (l0:=3) (by simp[bD]) (by simp[bD]) (by simp[bD])).trans ?_;simp only[fC,fN,kp,rc,show∀x:Nat,x+3=x+1+1+1 from λ _=>rfl,nv,eH,jQ,Aa,jp,xJ]
  ·exact absurd rfl dc
  ·have Jc:¬I=b:=aa;cases aF;have iZ:T[b]?=_:=an;have hE:([0+1+1,b+1+1+1,I+3].filter λ i=>decide (3≤i))=[b+1+1+1,I+3]:=by simp[sN]
   rw[hE];refine⟨4,.box (aW m 2 ag 3 ai)::[t0,.aE 5 ag aH (a7 m.G),.aE 5 ai aL (a7 m.O),.box c],?_,⟨1,ag,2,ai,[t0,.aE 5 ag aH (a7 m.G),.aE 5 ai aL (a7 m.O),.box c],rfl,oE rfl rfl bU iB rfl⟩,aa,rfl⟩;refine(Ct (a1:=[1,2,b+1+1+1,I+3]) (fJ:=2) (dQ:=3) (l0:=4) (by simp[bD]) (by simp[bD]) (by simp[bD,Jc])).trans ?_;simp only[fC,fN,kp,rc,show∀x:Nat,x+3=x+1+1+1 from λ _=>rfl,nv,iZ,eH,jQ,Aa,jp,xJ,gL]
  ·have Jd:¬I=a:=aa;have Cu:T[a]?=_:=aF;cases an;have hE:([a+1+1+1,0+1,I+3].filter λ i=>decide (3≤i))=[a+1+1+1,I+3]:=by simp[sN]
   rw[hE];refine⟨4,.box (aW m 3 ag 1 ai)::[.aE 5 ai aL (a7 m.O),t1,.aE 5 ag aH (a7 m.G),.box c],?_,⟨2,ag,0,ai,[.aE 5 ai aL (a7 m.O),t1,.aE 5 ag aH (a7 m.G),.box c],rfl,oE rfl rfl bU rfl g_⟩,aa,rfl⟩;refine(Ct (a1:=[1,2,a+1+1+1,I+3]) (fJ:=3) (dQ:=1) (l0:=4) (by simp[bD]) (by simp[bD]) (by simp[bD,Jd])).trans ?_;simp only[fC,fN,kp,rc,show∀x:Nat,x+3=x+1+1+1 from λ _=>rfl,nv,Cu,eH,jQ,Aa,jp,xJ,ht]
  ·have Jd:¬I=a:=aa;have Cu:T[a]?=_:=aF;cases an;have hE:([a+1+1+1,0+1+1,I+3].filter λ i=>decide (3≤i))=[a+1+1+1,I+3]:=by simp[sN]
   rw[hE];refine⟨4,.box (aW m 3 ag 2 ai)::[t0,.aE 5 ai aL (a7 m.O),.aE 5 ag aH (a7 m.G),.box c],?_,⟨2,ag,1,ai,[t0,.aE 5 ai aL (a7 m.O),.aE 5 ag aH (a7 m.G),.box c],rfl,oE rfl rfl bU iB rfl⟩,aa,rfl⟩;refine(Ct (a1:=[1,2,a+1+1+1,I+3]) (fJ:=3) (dQ:=2) (l0:=4) (by simp[bD]) (by simp[bD]) (by simp[bD,Jd])).trans ?_;simp only[fC,fN,kp,rc,show∀x:Nat,x+3=x+1+1+1 from λ _=>rfl,nv,Cu,eH,jQ,Aa,jp,xJ,gL]
  ·have aQc:¬b=a:=aa;have Jc:¬I=b:=aa;have Jd:¬I=a:=aa;have Cu:T[a]?=_:=aF;have iZ:T[b]?=_:=an;have hE:([a+1+1+1,b+1+1+1,I+3].filter λ i=>decide (3≤i))=[a+1+1+1,b+1+1+1,I+3]:=by simp[sN]
   rw[hE];refine⟨5,.box (aW m 3 ag 4 ai)::[t0,t1,.aE 5 ag aH (a7 m.G),.aE 5 ai aL (a7 m.O),.box c],?_,⟨2,ag,3,ai,[t0,t1,.aE 5 ag aH (a7 m.G),.aE 5 ai aL (a7 m.O),.box c],rfl,oE rfl rfl bU iB g_⟩,aa,rfl⟩;refine(Ct (a1:=[1,2,a+1+1+1,b+1+1+1,I+3]) (fJ:=3) (dQ:=4) (l0:=5) (by simp[bD]) (by simp[bD,aQc]) (by simp[bD,Jd,Jc])).trans ?_;simp only[fC,fN,kp,rc,show∀x:Nat,x+3=x+1+1+1 from λ _=>rfl,nv,Cu,iZ,eH,jQ,Aa,jp,xJ,gL,ht]
def ajZ{m:M}{c:aZ}{I:Nat}{H:ab}(aj:∀a∈c,∃x,a=.i x)(h:z_ m c I H)(x y z:bx):∃l0 aq,oM 3 [(0,.ptr 0 0 0 0),(3,.ptr (I) 0 0 0),(47,.i x),(48,.i y),(49,.i z)] H=([(0,.ptr 0 0 0 0),(3,.ptr (l0) 0 0 0),(47,.i x),(48,.i y),(49,.i z)],aq)∧z_ m c l0 aq:=by
 have p:=h.zT;have U:=h.ax;have e:od 3 H [(0,.ptr 0 0 0 0),(3,.ptr (I) 0 0 0),(47,.i x),(48,.i y),(49,.i z)]=[(0,.ptr 0 0 0 0),(3,.ptr (I) 0 0 0),(47,.i x),(48,.i y),(49,.i z)]:=by simp[od,eL,U,tQ,Nat.not_lt.2 p]
 rw[HK,e];refine aP_ aj ⟨?_,p,?_⟩ x y z
 ·obtain⟨A,ag,B,ai,T,e,i⟩:=h.an.jF (n:=3);have i0:=i;obtain⟨a,b,aH,aL,rfl,rfl,_⟩:=i;exact⟨a,ag,b,ai,T,e,i0⟩
 ·rw[w7,U];simp only[eH,el,FQ aj]
def z_.call{f:Nat}{bC:aZ}{r:ay}{m b6:M}{c:aZ}{I:Nat}{H:ab}(he:E.ext f=o)(hA:bI bC=[])(ak:bj r=[])(h:h4 f bC m r b6)(qy:z_ m c I H):∃aq,cE f (.ptr 0 0 0 0::bC) H r aq∧z_ b6 c I aq:=by have aQd:=qy;obtain⟨⟨a,ag,b,ai,T,rfl,a0,dj,aH,aL,B9,B_,aF,an,dc,ao,nr,cy⟩,zT,ax⟩:=qy;obtain rfl:a=a0:=aa;obtain rfl:b=dj:=aa;obtain⟨aq,e,p,U⟩:=I9 (H:=.box (aW m (a+1) ag (b+1) ai)::T) (I:=0) (ag:=ag) (ai:=ai) he hA ak h ⟨rfl,⟨aH,aF⟩,⟨aL,an⟩,aa⟩;exact⟨aq,e,ajT aQd.an p U,zT,U.2.1 I _ ax aa trivial⟩
noncomputable def Je(R:Fr)(H:ab):hj:=xg E 3 55 (fu f55 0) (oM 3 R H)
def v'(m:M)(v:Int)(on:Bool)(l:bX):M:=l.foldl (λ m n=>FJ m v n on) m
def bt.v'{v:Int}{on:Bool}:∀{l:bX} {m:M},bt m→bt (v' m v on l)
 |[],_,h=>h
 |n::l,m,h=>bt.v' (l:=l) (h.mod v n on)
def aQe(r c v:Int)(bn:bX)(t:bm)(on:Bool)(aQf:decide (c=104)=on)(bo:v=0∨v=63)(y1:bn.length<100000):∀(n k:Nat) (m:M) (I:Nat) (H:ab),k+n=bn.length→bt m→z_ m [.i (.v (.int .i64 (4))),.i (.v (.int .i32 r)),.i (.v (.int .u8 (c))),.i (.v (.int .u8 (v))),.i (.str []),.i (.af 1 (cc bn) J),.i (.str t)] I H→∃R aq,Je [(0,.ptr 0 0 0 0),(3,.ptr (I) 0 0 0),(47,.i (.af 1 (cc bn) J)),(48,.i (.v (.int .i64 (bn.length)))),(49,.i (.v (.int .i64 (k))))] H=j (.exit 1,R,aq)∧iO (v' m v on (bn.drop k)) aq:=by
 intro n;induction n with
 |zero=>intro k m I H aA hm qy;obtain rfl:k=bn.length:=aa;obtain⟨l0,H1,e,NM⟩:=ajZ aX qy (.af 1 (cc bn) J) (.v (.int .i64 bn.length)) (.v (.int .i64 bn.length));unfold Je;rw[e,Br,mN];rw[cO pT 0];simp(disch:=omega)only[aw,simprocAttr,qC,bN,b1];exact⟨_,_,rfl,NM.an⟩
 |succ n a'=>intro k m I H aA hm qy;obtain⟨l0,H1,e,NM⟩:=ajZ aX qy (.af 1 (cc bn) J) (.v (.int .i64 bn.length)) (.v (.int .i64 k));unfold Je;rw[e,Br];have hU:k<bn.length:=aa;have ap:=BR hU;have ax:=NM.ax;obtain⟨bG,ar,aQg⟩:=NM.call rfl rfl rfl (aO4 hm v bn[k] bo on);obtain⟨bY,pG,aM,an⟩:=a' (k+1) _ l0 bG aa (hm.mod v bn[k] on) aQg;rw[jk hU];rw[cO pT 0];simp(disch:=omega)only[aw,simprocAttr,qC,bN,ax,ap,aQf,ar,aM,show∀R H,ez E 3 55 (uU _) R H=Je (norm [0,3,47,48,49] R) H from λ R H=>sz rfl aK aK aK aK R H];exact⟨_,_,rfl,an⟩
def aQh{f:Nat}{pf lm:aZ}(h:f∈NL∧((pf=[]∧∃k,lm=[.ptr k 0 0 0])∨(pf=[.ptr 0 0 0 0]∧lm=[]))):lB E f=ah∧∀(l:bX) (H:ab),gI E (b' E) f (pf++[.i (.af 1 (cc l) J)]++lm) H=dy E (b' E) f (pf++.i (.af 1 (cc l) J)::lm) H:=by
 obtain⟨aN,aU⟩:=h;simp only[NL,mx,zj,or_false]at aN;rcases aN with rfl|rfl|rfl|rfl|rfl|rfl
 ·refine⟨nZ.2.1,λ l H=>?_⟩;rcases aU with⟨rfl,k,rfl⟩|⟨rfl,rfl⟩<;>simp(disch:=omega)only[aw,simprocAttr,bH,jV,cY,lc,d_,ox,ej,fI,lK,nY,dd,oy,bN,aeL,cC]
 ·refine⟨EL.2.1,λ l H=>?_⟩;rcases aU with⟨rfl,k,rfl⟩|⟨rfl,rfl⟩<;>simp(disch:=omega)only[aw,simprocAttr,bH,jV,cY,lc,d_,ox,ej,fI,lK,nY,dd,oy,bN,aeM,cC]
 ·refine⟨Sj.2.1,λ l H=>?_⟩;rcases aU with⟨rfl,k,rfl⟩|⟨rfl,rfl⟩<;>simp(disch:=omega)only[aw,simprocAttr,bH,jV,cY,lc,d_,ox,ej,fI,lK,nY,dd,oy,bN,aeN,cC]
 ·refine⟨Ms.2.1,λ l H=>?_⟩;rcases aU with⟨rfl,k,rfl⟩|⟨rfl,rfl⟩<;>simp(disch:=omega)only[aw,simprocAttr,bH,jV,cY,lc,d_,ox,ej,fI,lK,nY,dd,oy,bN,ae7,cC]
 ·refine⟨So.2.1,λ l H=>?_⟩;rcases aU with⟨rfl,k,rfl⟩|⟨rfl,rfl⟩<;>simp(disch:=omega)only[aw,simprocAttr,bH,jV,cY,lc,d_,ox,ej,fI,lK,nY,dd,oy,bN,ae8,cC]
 ·refine⟨Sp.2.1,λ l H=>?_⟩;rcases aU with⟨rfl,k,rfl⟩|⟨rfl,rfl⟩<;>simp(disch:=omega)only[aw,simprocAttr,bH,jV,cY,lc,d_,ox,ej,fI,lK,nY,dd,oy,bN,ae9,cC]
def Uh{l:bX}(h:∀x∈l,x≤99999)(i:Int){d:Int}(aP:0≤d∧d≤1):d≤b8 l i d∧b8 l i d≤100000:=by
 unfold b8;split
 ·omega
 ·split
  ·omega
  next p U=>
   have hm:l.getD i.toNat 0∈l:=by rw[pN,eC aa];exact oi _
   have:=h _ hm;split<;>omega
def FR(m:M)(s:bm)(v:Int)(bn:bX)(c:Int):M:=
 if s≠[]then m
 else if(c=104∨c=108)∧(v=0∨v=63)then v' m v (decide (c=104)) bn
 else if c=104∨c=108∨v≠0 then m
 else if c=109 then{m with a:=tG m.a bn}
 else z7 m c bn
def aQi{m:M}(hm:bt m)(r c v:Int)(s:bm)(bn:bX)(t:bm)(y1:bn.length<100000)(an:∀x∈bn,x≤99999):h4 55 [.agg [.i (.v (.int .i64 (4))),.i (.v (.int .i32 r)),.i (.v (.int .u8 (c))),.i (.v (.int .u8 (v))),.i (.str (s)),.i (.af 1 (cc bn) J),.i (.str t)]] m (.bl []) (FR m s v bn c):=by
 intro ag aH ai aL;unfold FR;by_cases aU:s=[]
 ·rw[if_neg (λ h=>h aU)];subst aU;by_cases aj:c=104∨c=108
  ·by_cases bo:v=0∨v=63
   ·rw[if_pos ⟨aj,bo⟩];obtain⟨bY,aq,e,c_⟩:=aQe r c v bn t _ rfl bo y1 bn.length 0 m 3 (.box (aW m 1 ag 2 ai)::.aE 5 ag aH (a7 m.G)::.aE 5 ai aL (a7 m.O)::.box [.i (.v (.int .i64 (4))),.i (.v (.int .i32 r)),.i (.v (.int .u8 (c))),.i (.v (.int .u8 (v))),.i (.str ([])),.i (.af 1 (cc bn) J),.i (.str t)]::[]) aa hm ⟨iO.eb,aa,rfl⟩;rw[i6]at c_;rw[show((0:Nat):Int)=0 from rfl]at e;have fM:=cA bn;have h8:=show∀R H,ez E 3 55 (uU _) R H=Je (norm [0,3,47,48,49] R) H from λ R H=>sz rfl aK aK aK aK R H
    rcases aj with rfl|rfl
    ·rcases bo with rfl|rfl
     ·rw[bz pT];simp(disch:=omega)only[aw,simprocAttr,qC,bN,b1,b7,bV,h8,e,fM];exact⟨_,rfl,c_.jF⟩
     ·rw[bz pT];simp(disch:=omega)only[aw,simprocAttr,qC,bN,b1,b7,bV,h8,e,fM];exact⟨_,rfl,c_.jF⟩
    ·rcases bo with rfl|rfl
     ·rw[bz pT];simp(disch:=omega)only[aw,simprocAttr,qC,bN,b1,b7,bV,h8,e,fM];exact⟨_,rfl,c_.jF⟩
     ·rw[bz pT];simp(disch:=omega)only[aw,simprocAttr,qC,bN,b1,b7,bV,h8,e,fM];exact⟨_,rfl,c_.jF⟩
   ·rw[if_neg (λ h=>bo h.2),if_pos aa];have aj0:¬v=0:=λ h=>bo (.inl h)
    have aj1:¬v=63:=λ h=>bo (.inr h)
    rcases aj with rfl|rfl
    ·rw[bz pT];simp(disch:=omega)only[aw,simprocAttr,qC,bN,b1,b7,bV,aj0,aj1];exact⟨_,rfl,eD.eb⟩
    ·rw[bz pT];simp(disch:=omega)only[aw,simprocAttr,qC,bN,b1,b7,bV,aj0,aj1];exact⟨_,rfl,eD.eb⟩
  ·have bh:¬c=104:=λ h=>aj (.inl h)
   have hC:¬c=108:=λ h=>aj (.inr h)
   rw[if_neg (λ h=>aj h.1)];by_cases bo:v=0
   ·rw[if_neg aa];subst bo;by_cases ha:c=109
    ·rw[if_pos ha];subst ha;have ar:=λ H=>aOq m.a bn aa (λ x ap=>by have:=an x ap;omega) H
     obtain⟨b_,Cu⟩:∃b_,tG m.a bn=b_:=⟨_,rfl⟩;rw[Cu]at ar⊢;rw[bz pT];simp(disch:=omega)only[aw,simprocAttr,qC,bN,b1,b7,bV,ar];exact⟨_,rfl,eD.eb⟩
    ·rw[if_neg ha];have ar:=aP2 (m:=m) (ag:=ag) (ai:=ai) (aH:=aH) (aL:=aL) (c:=[.i (.v (.int .i64 (4))),.i (.v (.int .i32 r)),.i (.v (.int .u8 (c))),.i (.v (.int .u8 (0))),.i (.str ([])),.i (.af 1 (cc bn) J),.i (.str t)]);rw[aP4]at ar;have Lp:Ug.length=26:=rfl;have y0:((ms 4 27).all λ c=>!c==3)=ah:=rfl;have fm:=Uh an 0 (d:=1) aa;have dj:=Uh an 0 (d:=0) aa;obtain⟨al,ci⟩:=ajW c aP6;cases al with
     |none=>rw[aP7 ci];rw[bz pT];simp(disch:=omega)only[aw,simprocAttr,qC,bN,b1,b7,bV,bh,hC,ha,ar,ci,Lp,y0];exact⟨_,rfl,eD.eb⟩
     |some a=>
      obtain⟨I,ax,aA,rfl⟩:=ajV ci;obtain⟨cv,f,pf,lm,rfl,aN,aq,aM,c_⟩:=aP5 hm bn y1 fm dj ag ai aH aL [.i (.v (.int .i64 (4))),.i (.v (.int .i32 r)),.i (.v (.int .u8 (c))),.i (.v (.int .u8 (0))),.i (.str ([])),.i (.af 1 (cc bn) J),.i (.str t)] I ax;obtain⟨aQj,aQk⟩:=aQh aN;have np:c=cv:=by have:=C9 aA;simpa using this
      subst np;rw[←aQk]at aM;simp only[FN]at aM;rw[bz pT];simp(disch:=omega)only[aw,simprocAttr,qC,bN,b1,b7,bV,bh,hC,ha,ar,ci,aQj,aM,Lp,y0];exact⟨_,rfl,c_.jF⟩
   ·rw[if_pos (.inr (.inr bo))];rw[bz pT];simp(disch:=omega)only[aw,simprocAttr,qC,bN,b1,b7,bV,bh,hC,bo];exact⟨_,rfl,eD.eb⟩
 ·rw[if_pos aU];have Fy:(s==[])=J:=by simpa using aU
  by_cases aj:c=104
  ·subst aj;rw[bz pT];simp(disch:=omega)only[aw,simprocAttr,qC,bN,b1,b7,bV,aU,Fy];exact⟨_,rfl,eD.eb⟩
  ·by_cases aj2:c=108
   ·subst aj2;rw[bz pT];simp(disch:=omega)only[aw,simprocAttr,qC,bN,b1,b7,bV,aU,Fy];exact⟨_,rfl,eD.eb⟩
   ·rw[bz pT];simp(disch:=omega)only[aw,simprocAttr,qC,bN,b1,b7,bV,aU,Fy,aj,aj2];exact⟨_,rfl,eD.eb⟩
def jI{c:Prop} [Decidable c]{a b:M}(aF:bt a)(an:bt b):bt (if c then a else b):=by split<;>assumption
def bt.Ui{m:M}(h:bt m){c:Int}{l:bX}(an:∀x∈l,x≤99999):bt (z7 m c l):=by
 have fm:=Uh an 0 (d:=1) aa;have aj:=h.aJ.2.1;have bA:=h.dm;have hw:=h.w;have Jf:∀n,bt (v8 m n):=λ n=>by
  unfold v8;split
  ·exact(h.zS ⟨aa,aa⟩).mX
  ·exact h
 unfold z7;exact jI (h.IU aa)<|
  jI (h.kx (B7 _ _ h))<|
  jI (h.kx (B7 _ _ h))<|
  jI (h.kx (Nr _ _ h))<|
  jI (h.kx (Nr _ _ h))<|
  jI ((h.kx (B7 _ _ h)).mX)<|
  jI ((h.kx (B7 _ _ h)).mX)<|
  jI (h.kx (ai1 _ h))<|
  jI (h.kx (IQ _ _ h))<|
  jI (bt.ajd _ h)<|
  jI (h.aNR)<|
  jI (h.era)<|
  jI (Jf _)<|
  jI (Jf _)<|
  jI (h.IU aa)<|
  jI (h.zS ⟨bA.1,bA.2.1⟩)<|
  jI (h.zS ⟨bA.1,bA.2.1⟩)<|
  jI (h.xK aa aa)<|
  jI (bt.aje _ h)<|
  jI (h.kx (ai1 _ h))<|
  jI (h.kx (Nr _ _ h))<|
  jI (h.kx (IQ _ _ h))<|
  jI (h.kx (B7 _ _ h))<|
  jI (h.kx (IQ _ _ h))<|
  jI (h.TM)<|
  jI (h.TO)<|
  jI (h.TQ)<|
  jI (h.I5)<|
  jI (h.FK) h
def bt.seq{m:M}(h:bt m){s:bm}{v c:Int}{bn:bX}(an:∀x∈bn,x≤99999):bt (FR m s v bn c):=by
 unfold FR
 repeat' split
 ·exact h
 ·exact h.v'
 ·exact h
 ·exact{w:=h.w,h:=h.h,G:=h.G,O:=h.O,aJ:=h.aJ,b3:=h.b3,a:=aOp h.a _,aH:=h.aH,dm:=h.dm,c9:=h.c9,back:=h.back,bO:=h.bO,iF:=h.iF,eX:=h.eX,dL:=h.dL}
 ·exact h.Ui an
def aQl{d:jl}(h:xu d.s)(ak:∀c∈d.out,0≤c∧c≤2147483647)(i b:Int)(a8:0≤b)(p:b≤255):∀c∈(fX d i b).out,0≤c∧c≤2147483647:=by
 have aF:∀(l:bX) (x:Int),(∀c∈l,0≤c∧c≤2147483647)→0≤x→x≤2147483647→∀c∈l++[x],0≤c∧c≤2147483647:=by
  intro l x ao ap Ax c aj;rcases gA.1 aj with h|h
  ·exact ao c h
  ·rw[Co.1 h];exact⟨ap,Ax⟩
 unfold fX;split
 next aj=>
  simp only;split
  ·have:0≤d.s.v∧d.s.v<32768:=by unfold xu at h;omega
   exact aF _ _ ak aa aa
  ·exact ak
 ·have ci:∀c∈(if 0<d.s.et then d.out++[65533]else d.out),0≤c∧c≤2147483647:=by
   split
   ·exact aF _ _ ak aa aa
   ·exact ak
  simp only;generalize (if 0<d.s.et then d.out++[65533]else d.out)=al at ci⊢;split
  ·exact aF _ _ ci a8 aa
  ·split
   ·exact aF _ _ ci aa aa
   ·exact ci
def aj3:∀(l:bm) (i:Nat) (d:jl),xu d.s→(∀c∈d.out,0≤c∧c≤2147483647)→∀c∈(hd l i d).out,0≤c∧c≤2147483647
 |[],i,d,h,ak=>ak
 |b::l,i,d,h,ak=>by
  have an:((b.toNat:Nat):Int)≤255:=by have:=b.toNat_lt;omega
  exact aj3 l (i+1) _ (ahr h _ _ aa an) (aQl h ak _ _ aa an)
def aQm(t:bm):∀c∈ig t,0≤c∧c≤2147483647:=aj3 t 0 ⟨lN,[],0⟩ (.inl rfl) aX
def wa(t:bm):bX:=ig t++if kS t=[]then[]else[65533]
def aj4(t:bm):(wa t).length≤2*t.length+1:=by have:=Is t;unfold wa;rw[dK];split<;>simp<;>omega
def aQn(t:bm)(bA:(t.length:Int)<50000):gV 114 [.i (.str t)] (.i (.af 1 (hH (wa t)) J)):=by
 have aP:=λ H=>sF [] t (by simp;omega) H
 rw[hb]at aP;have ao:=Is t;have ak:=dD (ig t);have qJ:eP (ig t).length (hH (ig t))=hH (ig t):=xq aa;unfold wa;by_cases a8:kS t=[]
 ·rw[if_pos a8,dC];refine bE Sb ?_;simp(disch:=omega)only[aw,simprocAttr,af9,cY,aP,a8,ak,qJ];exact be
 ·rw[if_neg a8];have aQo:=MO (ig t) 65533;have Uj:(kS t==[])=J:=by simp[a8]
  have iW:=dD (ig t++[65533]);have aQp:eP ((ig t).length+1) (hH (ig t++[65533]))=hH (ig t++[65533]):=xq (by rw[iW,dK];exact cS _);refine bE Sb ?_;simp(disch:=omega)only[aw,simprocAttr,af9,cY,aP,a8,Uj,ak,iW,qJ,aQp,aQo];exact be
def aQq(t:bm)(bA:(t.length:Int)<50000)(H:ab):cF 114 [.i (.str t)] H (.i (.af 1 (hH (wa t)) J)):=hF rfl rfl rfl (aQn t bA)
def aQr(t:bm):∀c∈wa t,-2147483648≤c∧c≤2147483647:=by
 intro c aj;unfold wa at aj;rcases gA.1 aj with h|h
 ·have:=aQm t c h;omega
 ·split at h
  ·simp at h
  ·simp at h;omega
def aQs(r:Int):(fi r).length≤4:=by
 unfold fi;repeat' split
 all_goals simp
def aj5:∀l:bX,(ec l).length≤4*l.length
 |[]=>by simp[ec,gC]
 |r::l=>by have p:=aQs r;have U:=aj5 l;rw[uH,dK,E4,da];omega
def aQt(l:bX)(ao:l.length≤100000)(ak:∀r∈l,-2147483648≤r∧r≤2147483647):∀(n k:Nat),k+n=l.length→
  ie xo 0 [(3,.ref 0 0 0 (ec (l.take k)).length),(6,.i (.af 1 (hH l) J)),(7,l.length),(8,k)] [.af 1 0 (eJ (ec (l.take k))) J] 0 [(3,.ref 0 0 0 (ec l).length),(6,.i (.af 1 (hH l) J)),(7,l.length),(8,l.length),(9,J)] [.af 1 0 (eJ (ec l)) J]:=by
 intro n;induction n with
 |zero=>intro k aA;obtain rfl:k=l.length:=aa;rw[Ny];refine(cO xo 0).trans ?_;simp(disch:=omega)only[aw,simprocAttr,EC,cY,d_,eK]
 |succ n a'=>
  intro k aA;have hU:k<l.length:=aa;have ap:=S4 hU;have a':=a' (k+1) aa;refine gB ?_ a';clear a';have bA:ec (l.take (k+1))=ec (l.take k)++gC (fi l[k]):=by rw[Iz hU,ahX,ahY]
  have hle:=aj5 (l.take k);have bg:(l.take k).length=k:=by rw[hV];omega
  have gh:=λ T=>ahB l[k] (ak _ (oi hU)) (ec (l.take k)) _ rfl aa T
  have B0:(ec (l.take k)++gC (fi l[k])).length=(ec (l.take k)).length+(fi l[k]).length:=by rw[dK,E4]
  rw[bA,B0];refine(cO xo 0).trans ?_;simp(disch:=omega)only[aw,simprocAttr,EC,cY,d_,ap,gh,eK,B0,MC]
def aQu(l:bX)(ao:l.length≤100000)(ak:∀r∈l,-2147483648≤r∧r≤2147483647)(H:ab):cF 113 [.i (.af 1 (hH l) J)] H (.i (.str (ec l))):=cI (by
 have ar:=aQt l ao ak l.length 0 aa;rw[nU,M1,show eJ []=[]from rfl,show((0:Nat):Int)=0 from rfl,dS]at ar;have fM:=dD l;have Bm:=eK (ec l);refine bE xo ?_;simp(disch:=omega)only[aw,simprocAttr,EC,cY,d_,ar,fM,nE,eH,mQ,mT,MC];exact be)
def aQv(s I:bm):gV 187 [.i (.str s),.i (.str I)] (↑(s.take I.length==I)):=by
 by_cases h:I.length≤s.length
 ·have U:(I.length:Int)≤s.length:=aa;refine bE Sq ?_;simp(disch:=omega)only[aw,simprocAttr,agM,h,U];exact be
 ·have U:¬(I.length:Int)≤s.length:=aa;have e:(s.take I.length==I)=J:=by rw[beq_eq_false_iff_ne];intro e;have:=congrArg DX e;rw[hV]at this;omega
  rw[e];refine bE Sq ?_;simp(disch:=omega)only[aw,simprocAttr,agM,h,U];exact be
def aQw(s I:bm)(H:ab):cF 187 [.i (.str s),.i (.str I)] H (↑(s.take I.length==I)):=hF rfl rfl rfl (aQv s I)
def aj6(s I:bm)(H:ab):cF 112 [.i (.str s),.i (.str I)] H (↑(s.take I.length==I)):=cI (by
 have e:=λ H=>aQw s I H
 refine bE af8 ?_;simp(disch:=omega)only[aw,simprocAttr,aIe,e];exact be)
def Jg(t:bm):Bool:=(t.take 2==[48,59])||(t.take 2==[50,59])
end Go.VI
