import Derived.Test.YtflnccklneafnaaGreatDoorZTNQ2
open BitVec renaming ofInt→rO
open Bool renaming false_eq_true→gk,and_eq_true→c',or_false→yW,false_or→D3,true_and→ks,false_and→mb,and_true→Bw,and_false→zk,not_true→LO,not_false→sD,true→ah,false→J
open Go.DataW renaming trod→tk,Trod→HN
open Go.IntKind renaming i64→ni,signed→tl,bits→tm,wrap→uv,u8→vB,i32→tu,u32→Lz
open Go.Lib renaming indexByte→LA,pow10Tab→tv,decDigits→ow,itoa→Bt
open Go.Utf8 renaming decode→na
open Go.Value renaming int→kE,func→Gm,cells→s_,complex→Ro,pointer→Eg,nilFunc→Rp,nilIface→Rq
open Go.World renaming cell?→q9
open Int renaming toNat_natCast→ny,cast_ofNat_Int→Ru
open List renaming replicate→cH,range→hB,map_cons→fC,mem_cons→mx,getElem?_map→fQ,getElem?_eq_some_iff→bQ,getElem?_eq_getElem→eC,length_append→dK,replicate_succ→Gv,flatten_cons→tZ,drop_drop→JX,foldl_cons→vd,length_cons→da,mapM_cons→OG,append_nil→dC,nil_append→hb,length_map→mE,length_nil→dS,length_set→kl,getElem?_cons_zero→rc,length_drop→j6,getElem?_concat_length→Pb,getElem?_cons_succ→kp,map_congr_left→yO,getD_cons_zero→DV,map_nil→fN,take_zero→nU,take_succ_cons→w6,drop_zero→i6,getElem?_range→D_,take_append_drop→Lo,getElem?_of_mem→QV,all_cons→Ea,append_eq_nil_iff→Q0,flatMap_nil→tp,map_map→vC,flatMap_cons→zi,not_mem_nil→zj,replicate_zero→Rs,cons_append→vF,getD_cons_succ→Rt,set_cons_zero→HW,flatten_nil→Eh
open List.cons renaming injEq→Dr
open Nat renaming le_refl→cS,add_zero→fr,zero_add→cJ,sub_self→r7,add_comm→rl,zero_le→iC,not_lt_zero→ti,le_max_left→y2,le_max_right→y5,sub_zero→tw
open Option renaming map_eq_some_iff→dp,bind_eq_some_iff→Dj,getD_some→jQ,map_some→eH,isNone_none→Ra,bind_some→Rb,isSome_some→Rg,some→j,none→o
open Option.some renaming inj→q6,injEq→br
open Prod.mk renaming injEq→bM
open UInt8 renaming ofNat→iR
namespace Go.VI
set_option maxRecDepth 100000
set_option maxHeartbeats 40000000
set_option linter.unusedVariables false
set_option linter.unusedSimpArgs false
set_option linter.defProp false
section
variable{E:Env}{aO:dY}{ops:eh}{R:Fr}{H:ab}{f:FuncId}
def asP(x:Operand):cw E aO (.assign x) R H=j (bw E R x,H):=rfl
def Lj(a b:ay):ay→dX
 |.i (.v (.bool t))=>j (bif t then a else b)
 |_=>o
def asQ(c a b:Operand):cw E aO (.pick c a b) R H=hN H (Lj (bw E R a) (bw E R b) (bw E R c)):=by
 rw[←ov];simp only[cw,e1,eV,gk,if_false]
 congr 1
def asR(t:TypeId)(a:Operand):cw E aO (.load t a) R H=hN H (u1 E H t (bw E R a)):=ov _
def asS(op:BinOp)(t u:TypeId)(x y:Operand):cw E aO (.binOp op t x y u) R H=hN H (k2 E.P op t (bw E R x) (bw E R y)):=ov _
def asT(op:UnOp)(t:TypeId)(x:Operand):cw E aO (.unOp op t x) R H=hN H (Aj op (bw E R x)):=ov _
def asU(t:TypeId)(x:Operand)(b5 aB:Option Operand):cw E aO (.slice t x b5 aB o) R H=hN H (j1 E H t (bw E R x) (b5.map (bw E R)) (aB.map (bw E R)) o):=ov _
def asV(t:TypeId)(x:Operand)(b5 aB:Option Operand)(m:Operand):cw E aO (.slice t x b5 aB (j m)) R H=hN H (j1 E H t (bw E R x) (b5.map (bw E R)) (aB.map (bw E R)) (j (bw E R m))):=ov _
def asW(t:TypeId)(x kd:Operand):cw E aO (.index t x kd) R H=hN H (CV E t (bw E R x) (bw E R kd)):=ov _
def asX(t:TypeId)(x kd:Operand):cw E aO (.indexAddr t x kd) R H=hN H (CU E H t (bw E R x) (bw E R kd)):=ov _
def asY(t:TypeId)(x:Operand)(k:Nat):cw E aO (.field t x k) R H=hN H (Jz E t (bw E R x) k):=ov _
def asZ(t:TypeId)(bn:Array (Nat×Operand)):cw E aO (.build t bn) R H=hN H (jJ E t (bn.toList.map λ I=>(I.1,bw E R I.2))):=ov _
def as0(fn:Fn)(first fZ:Array Operand):cw E aO (.makeFunc fn first fZ) R H=j (.aS fn (first.toList.map (bw E R)) (fZ.toList.map (bw E R)),H):=rfl
def YO(al:Op)(h:e1 E al=J)(aI:∀f a t,al≠.call ⟨.value f,a,t⟩):cw E aO al R H=hN H (eV E R H al):=by
 rw[←ov];unfold cw;split
 ·exact absurd rfl (aI _ _ _)
 ·simp[h]
def YP(al:Op)(h:e1 E al=ah)(aI:∀f a t,al≠.call ⟨.value f,a,t⟩):cw E aO al R H=dF E R H al:=by
 unfold cw;split
 ·exact absurd rfl (aI _ _ _)
 ·simp[h]
def as1(x:Operand):cw E aO (.nilCheck x) R H=hN H (eV E R H (.nilCheck x)):=ov _
def as2(x:Operand)(n:Nat):cw E aO (.extract x n) R H=hN H (eV E R H (.extract x n)):=ov _
def as3(s:TypeId)(x:Operand)(k:Nat):cw E aO (.fieldAddr s x k) R H=hN H (eV E R H (.fieldAddr s x k)):=ov _
def as4(args:Array Operand)(fx:Array TypeId):cw E aO (.call ⟨.builtin .len,args,fx⟩) R H=hN H (eV E R H (.call ⟨.builtin .len,args,fx⟩)):=ov _
def as5(args:Array Operand)(fx:Array TypeId):cw E aO (.call ⟨.builtin .max,args,fx⟩) R H=hN H (p' F_ (args.toList.map (bw E R))):=ov _
def as6(args:Array Operand)(fx:Array TypeId):cw E aO (.call ⟨.builtin .min,args,fx⟩) R H=hN H (p' F' (args.toList.map (bw E R))):=ov _
def as7(args:Array Operand)(fx:Array TypeId):cw E aO (.call ⟨.builtin .append,args,fx⟩) R H=dF E R H (.call ⟨.builtin .append,args,fx⟩):=rfl
def as8(args:Array Operand)(fx:Array TypeId):cw E aO (.call ⟨.builtin .copy,args,fx⟩) R H=dF E R H (.call ⟨.builtin .copy,args,fx⟩):=rfl
def sw(s d:TypeId)(x:Operand)(h:fw E.P d=o)(aU:fw E.P s=o):cw E aO (.convert s d x) R H=hN H (nJ E s d (bw E R x)):=by rw[YO _ (by simp[e1,h]) (by intro f a t e;cases e)];simp only[eV,aU]
def as9(s d e:TypeId)(x:Operand)(h:fw E.P d=o)(aU:fw E.P s=j e):cw E aO (.convert s d x) R H=hN H (CW E H e d (bw E R x)):=by rw[YO _ (by simp[e1,h]) (by intro f a t e;cases e)];simp only[eV,aU]
def as_(t:TypeId)(x:Operand):cw E aO (.range t x) R H=dF E R H (.range t x):=rfl
def as'(it:Operand)(b:Bool):cw E aO (.next it b) R H=dF E R H (.next it b):=rfl
def ata(t:TypeId):cw E aO (.alloc t) R H=dF E R H (.alloc t):=rfl
def atb(t:TypeId)(x:Operand):cw E aO (.box t x) R H=Aq (k4 E t H (bw E R x) (E.tM t)):=rfl
def atc(v:ay)(H1:ab):Aq (j (v,H1))=if(cU v).all one then j (.ptr H1.length 0 0 0,H1++[.box (cU v)])else o:=rfl
def atd(t:TypeId)(v:ay):k4 E t H v []=j (v,H):=rfl
def ate(t:TypeId)(v:ay)(ac:Nat)(r:cq):k4 E t H v (ac::r)=wu v (j2 (E.kinds t) (ac::r) H (cU v)):=rfl
def atf(v:ay)(cs:aZ)(H1:ab):wu v (j (cs,H1))=j (x3 v cs,H1):=rfl
def atg(bB:dI)(cs:aZ):j2 bB [] H cs=j (cs,H):=rfl
def Lk(bB:dI)(ac:Nat)(r:cq)(cs:aZ):Option (bx×ab)→m_
 |some (x,H1)=>j2 bB r H1 (cs.set ac (.i (iS (bB.getD ac o) x)))
 |none=>o
def ath(bB:dI)(ac:Nat)(r:cq)(cs:aZ)(x:bx)(H1:ab):Lk bB ac r cs (j (x,H1))=j2 bB r H1 (cs.set ac (.i (iS (bB.getD ac o) x))):=rfl
def QR(bB:dI)(ac:Nat)(r:cq)(H:ab)(cs:aZ):dX→m_
 |some a=>Lk bB ac r cs (freeze H a)
 |none=>o
def ati(bB:dI)(ac:Nat)(r:cq)(cs:aZ)(a:ay):QR bB ac r H cs (j a)=Lk bB ac r cs (freeze H a):=rfl
def atj(bB:dI)(ac:Nat)(r:cq)(cs:aZ):j2 bB (ac::r) H cs=QR bB ac r H cs cs[ac]?:=by
 simp only[j2,QR,Lk];cases cs[ac]? with
 |none=>rfl
 |some a=>simp only;cases freeze H a<;>rfl
def atk(l cs:aZ):x3 (.agg l) cs=.agg cs:=rfl
def atl(x:bx)(a:ay)(r:aZ):x3 (.i x) (a::r)=a:=rfl
def atm(c g al n:Nat)(a:ay)(r:aZ):x3 (.ref c g al n) (a::r)=a:=rfl
def atn(k:de)(a:ay)(r:aZ):x3 (.x k) (a::r)=a:=rfl
def Ll(E:Env)(H:ab)(R:Fr)(t:TypeId)(n:Nat)(bn:Array (Nat×Operand)):cu→dE
 |none=>kC E H t n (bn.toList.map λ I=>(I.1,bw E R I.2))
 |some z=>u4 E H t z n (bn.toList.map λ I=>(I.1,bw E R I.2))
def ato(t:TypeId)(n:Nat)(bn:Array (Nat×Operand)):Ll E H R t n bn o=kC E H t n (bn.toList.map λ I=>(I.1,bw E R I.2)):=rfl
def atp(t:TypeId)(n z:Nat)(bn:Array (Nat×Operand)):Ll E H R t n bn (j z)=u4 E H t z n (bn.toList.map λ I=>(I.1,bw E R I.2)):=rfl
def atq(t:TypeId)(n:Nat)(bn:Array (Nat×Operand)):cw E aO (.buildSlice t n bn) R H=Ll E H R t n bn (JC E t n):=by show dF E R H (.buildSlice t n bn)=_;simp only[dF,Ll];cases JC E t n<;>rfl
def YQ:Option ab→dE
 |some aq=>j (.dead,aq)
 |none=>o
def atr(aq:ab):YQ (j aq)=j (.dead,aq):=rfl
def ats(t:TypeId)(I v:ay)(H1:ab):x4 E t I (j (v,H1))=YQ (oK E H1 t I v):=by show(oK E H1 t I v).map _=_;cases oK E H1 t I v<;>rfl
def att(t:TypeId)(a x:Operand):cw E aO (.store t a x) R H=x4 E t (bw E R a) (k4 E t H (bw E R x) (E.tM t)):=rfl
def Lm(E:Env)(H:ab)(t:TypeId)(l c:ay):cu→dE
 |none=>jf E H t l c
 |some z=>u6 z (jf E H t l c)
def atu(t:TypeId)(l c:ay):Lm E H t l c o=jf E H t l c:=rfl
def atv(t:TypeId)(l c:ay)(z:Nat):Lm E H t l c (j z)=u6 z (jf E H t l c):=rfl
def atw(t:TypeId)(l c:Operand):cw E aO (.makeSlice t l c) R H=Lm E H t (bw E R l) (bw E R c) (tR E t):=by show dF E R H (.makeSlice t l c)=_;simp only[dF,Lm];cases tR E t<;>rfl
def za{f:FuncId}(h:E.pj f=o)(U:E.tL f=J)(bW:aZ):gI E aO f bW H=lX E aO f bW H:=by unfold gI;rw[h,U]
def YR{f:FuncId}(h:E.pj f=o)(U:E.tL f=ah)(bW:aZ):gI E aO f bW H=x_ H (lX E aO f bW H):=by unfold gI;rw[h,U]
def YS{f fn:FuncId}(h:E.pj f=j fn)(bW:aZ):gI E aO f bW H=x' H fn bW:=by unfold gI;rw[h]
def atx(fn:FuncId)(a:ay):x' H fn [a]=if one a=ah then j (.aS (.func fn) [] [.ptr H.length 0 0 0],H++[.box [a]])else o:=rfl
noncomputable def Ln(E:Env)(aO:dY)(H:ab)(bW:aZ)(g:Nat):Bool→dE
 |true=>gI E aO g bW H
 |false=>o
def aty(bW:aZ)(g:Nat):Ln E aO H bW g ah=gI E aO g bW H:=rfl
noncomputable def QS(E:Env)(aO:dY)(H:ab)(args:aZ):ay→dE
 |.aS (.func g) first fZ=>Ln E aO H (first++args++fZ) g (lB E g)
 |_=>o
def atz(args:aZ)(g:Nat)(first fZ:aZ):QS E aO H args (.aS (.func g) first fZ)=Ln E aO H (first++args++fZ) g (lB E g):=rfl
def atA(x:Operand)(args:Array Operand)(fx:Array TypeId):cw E aO (.call ⟨.value x,args,fx⟩) R H=QS E aO H (args.toList.map (bw E R)) (bw E R x):=by
 simp only[cw,ya,QS];split
 next g bW aR=>
  split at aR
  ·rename_i a6 first fZ ap
   simp only[br,bM]at aR;obtain⟨rfl,rfl⟩:=aR;rw[ap];simp only[Ln];cases lB E a6<;>simp
  ·cases aR
 next aR=>
  split at aR
  ·cases aR
  next gE=>
   split
   next g first fZ ap=>exact absurd ap (gE _ _ _)
   ·rfl
def gx(aY:Nat→cu):(∀a,bj a=[]→cB aY a=a)∧(∀l,bI l=[]→cP aY l=l):=by
 refine⟨λ a=>?_,λ l=>?_⟩
 ·induction a using ay.rec (motive_2:=λ l=>bI l=[]→cP aY l=l)<;>(try intro h)<;>simp_all [bj,bI,cB,cP]
 ·induction l using ay.rec_1 (motive_1:=λ a=>bj a=[]→cB aY a=a)<;>(try intro h)<;>simp_all [bj,bI,cB,cP]
def loops:Code→List Code
 |.seq a b=>loops a++loops b
 |.cond _ a b=>loops a++loops b
 |.block _ c=>loops c
 |.scope c=>loops c
 |.loop c=>.loop c::loops c
 |_=>[]
def fu(fn:Func)(k:Nat):Code:=((fn.body.map loops).getD []).getD k .skip
end
end Go.VI
namespace Go.VI
open Go.ChangeShapes
open Go.RowKit
open Go.WideShapes
set_option maxRecDepth 100000
set_option maxHeartbeats 40000000
set_option linter.unusedVariables false
set_option linter.unusedSimpArgs false
set_option linter.defProp false
section
variable{o1:Type}{enc:TypeId×Value→o1}{P:Program}{W:World}
end
inductive kO where
 |bool|int (k:IntKind)|str|af (e:TypeId)
def kr(P:Program):Nat→TypeId→Option (List kO)
 |0,_=>o
 |d+1,t=>match P.underlying t with
  |some .bool=>j [.bool]
  |some (.int k)=>j [.int k]
  |some .string=>j [.str]
  |some (.slice e)=>match kr P d e with
   |some (_::_)=>j [.af e]
   |_=>o
  |some (.array n e)=>(kr P d e).map λ l=>(cH n l).flatten
  |some (.struct fb)=>(fb.toList.mapM λ f=>kr P d f.type).map List.flatten
  |_=>o
inductive nW (P:Program):kO→bx→Prop
 |bool (b:Bool):nW P .bool (.v (.bool b))
 |int (k:IntKind) (n:Int) (h:(Lit.int k n).wf=ah):nW P (.int k) (.v (.int k n))
 |str (l:List UInt8) (h:l.length≤maxLen):nW P .str (.str l)
 |af (e:TypeId) (d:Nat) (cs:List kO) (rows:List (List bx)) (aj:kr P d e=j cs) (ao:rows.length≤maxLen)
  (p:∀(i:Nat) (r:List bx),rows[i]?=j r→r.length=cs.length)
  (U:∀(i:Nat) (r:List bx) (k:Nat) (c:kO) (x:bx),rows[i]?=j r→cs[k]?=j c→r[k]?=j x→nW P c x):nW P (.af e) (.af (P.cellsOf e) rows J)
def ma(P:Program)(ad:cn):k8→List kO→cZ→Prop
 |[],[],[]=>True
 |v::vs,c::cs,a::l=>dH ad a v∧nW P c a∧ma P ad vs cs l
 |_,_,_=>False
def ma.append{P:Program}{ad:cn}:∀{vs cs l YT e5 fP},ma P ad vs cs l→ma P ad YT e5 fP→ma P ad (vs++YT) (cs++e5) (l++fP)
 |[],[],[],_,_,_,_,iy=>iy
 |v::vs,c::cs,a::l,_,_,_,h,iy=>⟨h.1,h.2.1,ma.append h.2.2 iy⟩
 |[],_::_,_,_,_,_,h,_=>h.elim
 |[],[],_::_,_,_,_,h,_=>h.elim
 |_::_,[],_,_,_,_,h,_=>h.elim
 |_::_,_::_,[],_,_,_,h,_=>h.elim
def ma.len{P:Program}{ad:cn}:∀{vs cs l},ma P ad vs cs l→vs.length=l.length∧cs.length=l.length
 |[],[],[],_=>⟨rfl,rfl⟩
 |v::vs,c::cs,a::l,h=>by have:=ma.len h.2.2;simp[this.1,this.2]
 |[],_::_,_,h=>h.elim
 |[],[],_::_,h=>h.elim
 |_::_,[],_,h=>h.elim
 |_::_,_::_,[],h=>h.elim
def ma.at{P:Program}{ad:cn}:∀{vs cs l},ma P ad vs cs l→∀(k:Nat) (a:bx),l[k]?=j a→∃v c,vs[k]?=j v∧cs[k]?=j c∧dH ad a v∧nW P c a
 |[],[],[],_,k,a,aF=>by simp at aF
 |v::vs,c::cs,b::l,h,0,a,aF=>by simp at aF;subst aF;exact⟨v,c,rfl,rfl,h.1,h.2.1⟩
 |v::vs,c::cs,b::l,h,k+1,a,aF=>ma.at h.2.2 k a (by simpa using aF)
 |[],_::_,_,h,_,_,_=>h.elim
 |[],[],_::_,h,_,_,_=>h.elim
 |_::_,[],_,h,_,_,_=>h.elim
 |_::_,_::_,[],h,_,_,_=>h.elim
def atB{P:Program}:∀(d:Nat) (t:TypeId) (l:List kO),kr P d t=j l→kr P (d+1) t=j l:=by
 intro d;induction d with
 |zero=>intro t l h;cases h
 |succ d a'=>
  intro t l h;rw[kr]at h⊢;split at h
  ·exact h
  ·exact h
  ·exact h
  next e _=>
   split at h
   next c r aj=>rw[a' _ _ aj];exact h
   ·cases h
  next n e _=>
   cases aj:kr P d e with
   |none=>rw[aj]at h;cases h
   |some fP=>rw[aj]at h;rw[a' _ _ aj];exact h
  next fb _=>
   cases aj:fb.toList.mapM (λ f=>kr P d f.type)with
   |none=>rw[aj]at h;cases h
   |some fP=>rw[aj]at h;rw[mapM_carry aj (λ f y _ _ bb=>a' _ _ bb)];exact h
  ·cases h
def YU{P:Program}{d im:Nat}(aP:d≤im){t:TypeId}{l:List kO}(h:kr P d t=j l):kr P im t=j l:=by
 induction aP with
 |refl=>exact h
 |step _ a'=>exact atB _ _ _ a'
def atC{P:Program}{d im:Nat}{t:TypeId}{l fP:List kO}(h:kr P d t=j l)(iy:kr P im t=j fP):l=fP:=by have p:=YU (y2 d im) h;have U:=YU (y5 d im) iy;exact q6 (p.symm.trans U)
section
variable{o1:Type}{enc:TypeId×Value→o1}{P:Program}{W:World}{l':Nat→Bool}{held:Bool}
def trod_array{t e:TypeId}{m pQ:Nat}{cs:k8}{x:DataW o1×List MemPlace}(bA:P.underlying t=j (.array m e))(h:tk enc P W 0 l' held pQ t cs=j x):
  ∃n,pQ=n+1∧cs.length=P.cellsOf t∧∀i,i<m→∃y,tk enc P W 0 l' held n e ((cs.drop (i*P.cellsOf e)).take (P.cellsOf e))=j y:=by
 cases pQ with
 |zero=>simp[tk]at h
 |succ n=>unfold tk at h;rw[bA]at h;split at h<;>simp_all;obtain⟨ao,xs,ax,aP⟩:=h;intro i aB;have p:=mapM_some_get ax i i (by simp[D_,aB]);have U:=mapM_some_length ax;rw[List.length_range]at U;have az:i<xs.length:=aa;rw[p,eC az];exact⟨xs[i].1,xs[i].2,rfl⟩
def Bq{a:Addr}{n:Nat}{cs:k8}(h:W.cells? 0 a n=j cs):cs.length=n∧∀i,i<n→W.cell? (a.add i)=cs[i]?:=by unfold World.cells? at h;rw[if_pos (iC _)]at h;have U:=mapM_some_length h;exact⟨by simpa using U,λ i aB=>mapM_some_get h i i (by simp[aB])⟩
def atD{n:Nat}(rd:∀(d:Nat) (t:TypeId) (cs:k8) (x:DataW o1×List MemPlace) (rp:List kO),t<P.types.size→kr P d t=j rp→tk enc P W 0 l' held n t cs=j x→∃l,ma P (nV W) cs rp l)(d:Nat):
  ∀(co:List Field) (aO:List (List kO)) (cs:k8),co.mapM (λ f=>kr P d f.type)=j aO→(∀f∈co,f.type<P.types.size)→cs.length=(co.map λ f=>P.cellsOf f.type).sum→
   (∀(ac:Nat) f,co[ac]?=j f→∃x,tk enc P W 0 l' held n f.type ((cs.drop ((co.take ac).map λ f=>P.cellsOf f.type).sum).take (P.cellsOf f.type))=j x)→
   ∃l,ma P (nV W) cs aO.flatten l:=by
 intro co;induction co with
 |nil=>intro aO cs h _ hlen _;simp at h hlen;subst h;obtain rfl:cs=[]:=hlen;exact⟨[],trivial⟩
 |cons f co a'=>
  intro aO cs h A8 hlen ap;rw[OG]at h;cases p:kr P d f.type with
  |none=>rw[p]at h;cases h
  |some cm=>
   cases U:co.mapM (λ f=>kr P d f.type)with
   |none=>rw[p,U]at h;cases h
   |some cp=>
    rw[p,U]at h;have iy:j (cm::cp)=j aO:=h;cases iy;obtain⟨x,AN⟩:=ap 0 f rfl;simp only[nU,fN,List.sum_nil,i6]at AN;obtain⟨dt,g1⟩:=rd d f.type _ x cm (A8 f aX) p AN;simp only[fC,List.sum_cons]at hlen;obtain⟨fh,g2⟩:=a' cp (cs.drop (P.cellsOf f.type)) U (λ g aR=>A8 g (by simp[aR])) (by rw[j6];omega) (λ ac g aR=>by
     obtain⟨y,bb⟩:=ap (ac+1) g (by simpa using aR);simp only[w6,fC,List.sum_cons]at bb;exact⟨y,by rw[JX];exact bb⟩)
    refine⟨dt++fh,?_⟩;have:=g1.append g2;rw[Lo]at this;simpa using this
def atE{n:Nat}{e:TypeId}{cm:List kO}(rd:∀(cs:k8) (x:DataW o1×List MemPlace),tk enc P W 0 l' held n e cs=j x→∃l,ma P (nV W) cs cm l):
  ∀(m:Nat) (cs:k8),cs.length=m*P.cellsOf e→(∀i,i<m→∃y,tk enc P W 0 l' held n e ((cs.drop (i*P.cellsOf e)).take (P.cellsOf e))=j y)→∃l,ma P (nV W) cs (cH m cm).flatten l:=by
 intro m;induction m with
 |zero=>
  intro cs hlen _;obtain rfl:cs=[]:=by simpa using hlen
  exact⟨[],trivial⟩
 |succ m a'=>
  intro cs hlen ap;obtain⟨x,AN⟩:=ap 0 aa;simp only[Nat.zero_mul,i6]at AN;obtain⟨dt,g1⟩:=rd _ x AN;rw[Nat.succ_mul]at hlen;obtain⟨fh,g2⟩:=a' (cs.drop (P.cellsOf e)) (by rw[j6];omega) (λ i aB=>by
   obtain⟨y,bb⟩:=ap (i+1) aa;rw[Nat.succ_mul,rl]at bb;exact⟨y,by rw[JX];exact bb⟩)
  refine⟨dt++fh,?_⟩;have:=g1.append g2;rw[Lo]at this;simpa[Gv]using this
def atF(ao:laidOutB P=ah):∀(n d:Nat) (t:TypeId) (cs:k8) (x:DataW o1×List MemPlace) (rp:List kO),t<P.types.size→kr P d t=j rp→
  tk enc P W 0 l' held n t cs=j x→∃l,ma P (nV W) cs rp l:=by
 intro n;induction n with
 |zero=>intro d t cs x rp _ _ h;simp[tk]at h
 |succ n a'=>
  intro d t cs x rp bA aj h;cases d with
  |zero=>cases aj
  |succ d=>
   rw[kr]at aj;split at aj
   next hu=>cases aj;obtain⟨b,rfl,rfl⟩:=DataW.trod_bool hu h;exact⟨[.v (.bool b)],.v _ rfl,.bool b,trivial⟩
   next k hu=>cases aj;obtain⟨z,rfl,rfl,hw⟩:=DataW.trod_int hu h;exact⟨[.v (.int k z)],.v _ rfl,.int k z hw,trivial⟩
   next hu=>cases aj;obtain⟨s,rfl,rfl,hw⟩:=DataW.trod_string hu h;exact⟨[.str s.data.toList],.str _,.str _ (by simpa using hw),trivial⟩
   next e hu=>
    split at aj
    next gN cm he=>
     cases aj;rcases DataW.trod_slice hu h with⟨rfl,_⟩|⟨a,len,cap,QT,rest,dT,aI,rfl,_,_,G4,hm,Lp,qz,_,_⟩
     ·exact⟨[.af (P.cellsOf e) [] J],.nil _ _ _ _ (λ h=>by cases h),.af e d _ [] he (iC _) (λ i r h=>by simp at h) (λ i r k c x h=>by simp at h),trivial⟩
     ·cases aI;have qe:e<P.types.size:=(kid_slice ao bA hu);have hex:∀i,∃l,i<len→∃e5,W.cells? 0 (a.add (i*P.cellsOf e)) (P.cellsOf e)=j e5∧ma P (nV W) e5 (gN::cm) l:=by
       intro i;by_cases aB:i<len
       ·have p:=qz i aB;have U:QT[i]?=j QT[i]:=eC aa;rw[U,Dj]at p;obtain⟨e5,az,bh⟩:=p;obtain⟨l,aR⟩:=a' d e e5 _ _ qe he bh;exact⟨l,λ _=>⟨e5,az,aR⟩⟩
       ·exact⟨[],λ h=>absurd h aB⟩
      obtain⟨f,aN⟩:=Classical.skolem.1 hex;have b2:∀i r,((hB len).map f)[i]?=j r→i<len∧r=f i:=by intro i r ak;simp only[fQ,dp,D_]at ak;obtain⟨ac,bc,rfl⟩:=ak;rw[bQ]at bc;obtain⟨p,U⟩:=bc;simp at p U;subst U;exact⟨p,rfl⟩
      have AF:nW P (.af e) (.af (P.cellsOf e) ((hB len).map f) J):=by
       refine .af e d _ _ he (by simp;omega) (λ i r ak=>?_) (λ i r k c y ak aj bb=>?_)
       ·obtain⟨aB,rfl⟩:=b2 i r ak;obtain⟨e5,_,aR⟩:=aN i aB;exact aR.len.2.symm
       ·obtain⟨aB,rfl⟩:=b2 i r ak;obtain⟨e5,_,aR⟩:=aN i aB;obtain⟨v,cv,_,U,_,bh⟩:=aR.at k y bb;rw[aj]at U;cases U;exact bh
      refine⟨[.af (P.cellsOf e) ((hB len).map f) J],?_,AF,trivial⟩;by_cases a8:len=0
      ·subst a8;exact .nil _ _ _ cap (λ h=>by cases h)
      ·obtain⟨yv,gL,P_⟩:=aN 0 aa;have bp:0<P.cellsOf e:=by have:=(Bq gL).1;have U:=P_.len;simp at U;omega
       have eN:=(Bq gL).2 0 bp;have YV:=(Bq gL).1;obtain⟨b,off,spot⟩:=a;have gE:yv[0]?=j yv[0]:=eC aa;rw[gE]at eN;unfold q9 at eN;split at eN
       next cs AW bs fR=>
        split at eN
        ·cases eN
        next atG=>
         have atH:spot=o:=by cases spot with|none=>rfl|some _=>simp[Addr.add]at atG
         subst atH;have aF:∀al i,Addr.add ⟨b,al,o⟩ i=⟨b,al+i,o⟩:=by intro al i;unfold Addr.add;split<;>simp_all
         simp only[aF]at fR;have rb:∀i,i<len→∀k,k<P.cellsOf e→∀e5,W.cells? 0 (Addr.add ⟨b,off,o⟩ (i*P.cellsOf e)) (P.cellsOf e)=j e5→cs[off+i*P.cellsOf e+k]?=e5[k]?:=by intro i aB k aA e5 np;have:=(Bq np).2 k aA;simp only[aF]at this;unfold q9 at this;simp only[fR]at this;simpa using this
         have key:=dH.af (ad:=nV W) (P.cellsOf e) ((hB len).map f) J b off cap cs AW bs (λ i k=>(cs[off+i*P.cellsOf e+k]?).getD undef) fR (by simp;omega) (λ h=>by cases h)
          (λ i r ak=>by
           obtain⟨aB,rfl⟩:=b2 i r ak;obtain⟨e5,p,aR⟩:=aN i aB;rw[←aR.len.1];exact(Bq p).1)
          (λ i r k y ak bb=>by
           obtain⟨aB,rfl⟩:=b2 i r ak;obtain⟨e5,p,aR⟩:=aN i aB;obtain⟨v,cv,U,_,_,_⟩:=aR.at k y bb;have aA:k<P.cellsOf e:=by rw[←(Bq p).1];exact(bQ.1 U).1
           rw[rb i aB k aA e5 p,U];rfl)
          (λ i r k y ak bb=>by
           obtain⟨aB,rfl⟩:=b2 i r ak;obtain⟨e5,p,aR⟩:=aN i aB;obtain⟨v,cv,U,_,az,_⟩:=aR.at k y bb;have aA:k<P.cellsOf e:=by rw[←(Bq p).1];exact(bQ.1 U).1
           rw[rb i aB k aA e5 p,U];exact az)
         have HM:((hB len).map f).length=len:=aX;rw[HM]at key;exact key
       ·cases eN
    ·cases aj
   next m e hu=>
    cases ht:kr P d e with
    |none=>rw[ht]at aj;cases aj
    |some cm=>rw[ht]at aj;have np:j (cH m cm).flatten=j rp:=aj;cases np;obtain⟨dT,aI,hlen,ap⟩:=trod_array hu h;cases aI;obtain⟨bK,bJ⟩:=kid_array ao bA hu;exact atE (λ cs x ap=>a' d e cs x cm bK ht ap) m cs (by rw[hlen,bJ]) ap
   next fb hu=>
    cases ht:fb.toList.mapM (λ f=>kr P d f.type)with
    |none=>rw[ht]at aj;cases aj
    |some cm=>
     rw[ht]at aj;have np:j cm.flatten=j rp:=aj;cases np;obtain⟨xs,dT,aI,_,hlen,QU,ap⟩:=DataW.trod_struct hu h;cases aI;obtain⟨bK,bJ,cL⟩:=kid_struct ao bA hu;refine atD (λ d t cs x rp=>a' d t cs x rp) d fb.toList cm cs ht bK (by rw[hlen,bJ]) (λ ac f aN=>?_);have p:=ap ac f (by simpa using aN);have bc:ac<xs.length:=by have:=(bQ.1 aN).1;simp at this;omega
     rw[cL ac f aN,eC bc]at p;exact⟨_,p⟩
   ·cases aj
def atI(ao:laidOutB P=ah){t:TypeId}{v:Value}{d:DataW o1}{bn:List MemPlace}{rp:List kO}(D:Nat)(bA:t<P.types.size)(aj:kr P D t=j rp)
  (aP:HN enc P W 0 l' held t v d bn):∃l,ma P (nV W) v.cells.toList rp l:=by
 obtain⟨n,aI⟩:=aP;exact atF ao n D t _ _ _ bA aj aI
def stays(ao:laidOutB P=ah){t:TypeId}{v:Value}{d:DataW o1}{bn:List MemPlace}{jT:World}(ak:P.readableRec t=ah)(bA:t<P.types.size)
  (aP:HN enc P W 0 (λ _=>ah) ah t v d bn)(ci:D9 W jT)(y1:∀I∈bn,I.block<W.heap.size)(YW:Nat→Bool)(aU:∀I∈bn,YW I.block=ah):HN enc P jT 0 YW ah t v d bn:=
 WideElems.Trod_stays ao ak bA aP (λ I ax=>by
  have:=ci.heap _ (y1 I ax);cases I with
  |cell b off=>simp only[World.sameAt,q9,MemPlace.block]at this⊢;rw[this]
  |map b=>exact this) aU
def lI(P:Program):List kO→cZ→Prop
 |[],[]=>True
 |c::cs,a::l=>nW P c a∧lI P cs l
 |_,_=>False
def ma.ef{P:Program}{ad:cn}:∀{vs cs l},ma P ad vs cs l→lI P cs l
 |[],[],[],_=>trivial
 |v::vs,c::cs,a::l,h=>⟨h.2.1,ma.ef h.2.2⟩
 |[],_::_,_,h=>h.elim
 |[],[],_::_,h=>h.elim
 |_::_,[],_,h=>h.elim
 |_::_,_::_,[],h=>h.elim
def lI.nil{l:cZ}(h:lI P [] l):l=[]:=by cases l with|nil=>rfl|cons a l=>exact h.elim
def lI.cons{c:kO}{cs:List kO}{l:cZ}(h:lI P (c::cs) l):∃a fP,l=a::fP∧nW P c a∧lI P cs fP:=by cases l with|nil=>exact h.elim|cons a l=>exact⟨a,l,rfl,h.1,h.2⟩
def nW.of_bool{a:bx}(h:nW P .bool a):∃b,a=.v (.bool b):=by cases h;exact⟨_,rfl⟩
def nW.of_int{a:bx}{k:IntKind}(h:nW P (.int k) a):∃n,a=.v (.int k n)∧(Lit.int k n).wf=ah:=by cases h;exact⟨_,rfl,by assumption⟩
def nW.atJ{a:bx}(h:nW P .str a):∃s,a=.str s∧s.length≤maxLen:=by cases h;exact⟨_,rfl,by assumption⟩
def YX:∀{cs:List kO} {l:cZ},l.length=cs.length→(∀(k:Nat) (c:kO) (x:bx),cs[k]?=j c→l[k]?=j x→nW P c x)→lI P cs l
 |[],[],_,_=>trivial
 |c::cs,a::l,ao,h=>⟨h 0 c a rfl rfl,YX (by simpa using ao) λ k c x aj ap=>h (k+1) c x (by simpa using aj) (by simpa using ap)⟩
 |[],_::_,ao,_=>by simp at ao
 |_::_,[],ao,_=>by simp at ao
def nW.atK{a:bx}{e:TypeId}(h:nW P (.af e) a){D:Nat}{cs:List kO}(aj:kr P D e=j cs):∃rows,a=.af (P.cellsOf e) rows J∧rows.length≤maxLen∧∀r∈rows,lI P cs r:=by
 cases h with
 |af e d e5 rows np ao p U=>
  cases atC aj np;refine⟨rows,rfl,ao,λ r ak=>?_⟩;obtain⟨i,aB⟩:=QV ak;exact YX (p i r aB) λ k c x aj ap=>U i r k c x aB aj ap
def lI.bool{cs:List kO}{l:cZ}(h:lI P (.bool::cs) l):∃b fP,l=.v (.bool b)::fP∧lI P cs fP:=by obtain⟨a,fP,rfl,p,U⟩:=h.cons;obtain⟨b,rfl⟩:=p.of_bool;exact⟨b,fP,rfl,U⟩
def lI.int{k:IntKind}{cs:List kO}{l:cZ}(h:lI P (.int k::cs) l):∃n fP,l=.v (.int k n)::fP∧(Lit.int k n).wf=ah∧lI P cs fP:=by obtain⟨a,fP,rfl,p,U⟩:=h.cons;obtain⟨n,rfl,aI⟩:=p.of_int;exact⟨n,fP,rfl,aI,U⟩
def lI.str{cs:List kO}{l:cZ}(h:lI P (.str::cs) l):∃s fP,l=.str s::fP∧s.length≤maxLen∧lI P cs fP:=by obtain⟨a,fP,rfl,p,U⟩:=h.cons;obtain⟨s,rfl,aI⟩:=p.atJ;exact⟨s,fP,rfl,aI,U⟩
def lI.af{e:TypeId}{cs:List kO}{l:cZ}(h:lI P (.af e::cs) l){D:Nat}{e5:List kO}(aj:kr P D e=j e5):
  ∃rows fP,l=.af (P.cellsOf e) rows J::fP∧rows.length≤maxLen∧(∀r∈rows,lI P e5 r)∧lI P cs fP:=by
 obtain⟨a,fP,rfl,p,U⟩:=h.cons;obtain⟨rows,rfl,aI,ak⟩:=p.atK aj;exact⟨rows,fP,rfl,aI,ak,U⟩
def rows_map{α:Type}(f:α→cZ)(I:α→Prop):∀{rows:cb},(∀r∈rows,∃a,r=f a∧I a)→∃l:List α,rows=l.map f∧∀a∈l,I a
 |[],_=>⟨[],rfl,λ a h=>by simp at h⟩
 |r::rows,h=>by
  obtain⟨a,rfl,aF⟩:=h r aX;obtain⟨l,rfl,ao⟩:=rows_map f I (rows:=rows) λ r ak=>h r (by simp[ak])
  exact⟨a::l,rfl,by simpa using⟨aF,ao⟩⟩
variable{r:Reach}{dj:Nat}{t:TypeId}{v:Value}{d:DataW o1}{bn:List MemPlace}
def read_int{k:IntKind}(hu:P.underlying t=j (.int k))(QW:Value.okWide P W r dj t v)(aP:HN enc P W 0 l' held t v d bn):
  ∃n,bf (nV W) y8 [] (.i (.v (.int k n))) v∧(Lit.int k n).wf=ah:=by
 obtain⟨n,rfl,_,_,hw⟩:=open_int hu QW aP;exact⟨n,.i _ _ (.v _ rfl),hw⟩
def read_sl(ao:laidOutB P=ah){e:TypeId}{D:Nat}{cs:List kO}(bA:t<P.types.size)(hu:P.underlying t=j (.slice e))(aj:kr P D e=j cs)(QX:kr P (D+1) t=j [.af e])(QW:Value.okWide P W r dj t v)(aP:HN enc P W 0 l' held t v d bn):
  ∃rows,bf (nV W) y8 [] (.i (.af (P.cellsOf e) rows J)) v∧rows.length≤maxLen∧∀r∈rows,lI P cs r:=by
 obtain⟨l,aR⟩:=atI ao (D+1) bA QX aP;obtain⟨a,len,cap,rfl⟩:=okWide_slice hu QW;obtain⟨rows,fP,rfl,p,U,az⟩:=aR.ef.af aj;have:=aR.1;exact⟨rows,.i _ _ this,p,U⟩
end
def Lq{o1:Type}:DataW o1→Nat
 |.slice a b=>a.length+b.length
 |_=>0
section
variable{o1:Type}{enc:TypeId×Value→o1}{P:Program}{W:World}{l':Nat→Bool}{held:Bool}
def sl_dlen{t e:TypeId}{v:Value}{d:DataW o1}{bn:List MemPlace}{ad:cn}{ae:cj}{H:ab}{z:Nat}{rows:cb}{ex:Bool}(hu:P.underlying t=j (.slice e))(aP:HN enc P W 0 l' held t v d bn)
  (ak:bf ad ae H (.i (.af z rows ex)) v):rows.length≤Lq d:=by
 obtain⟨n,aI⟩:=aP;cases ak with
 |i x v h=>
  rcases DataW.trod_slice hu aI with⟨bo,ap⟩|⟨a,len,cap,QT,rest,dT,_,bo,ap,_,_,_,Lp,_⟩
  ·cases h with
   |nil=>exact iC _
   |af aD rows ex b off cap cs elem bs dn cr aj ug yf p U=>simp[s_]at bo
  ·cases h with
   |nil=>exact iC _
   |af aD rows ex b off D' cs elem bs dn cr aj ug yf p U=>simp[s_]at bo;simp only[bM]at ap;rw[ap.1];simp only[Lq,mE];omega
def weight_at{t e:TypeId}:∀{dh:List TypeId} {c4:List (DataW o1)} (ac:Nat) {d:DataW o1},(DataW.weightsEach P dh c4).all (·≤reachBytes)=ah→dh[ac]?=j t→c4[ac]?=j d→P.underlying t=j (.slice e)→Lq d*P.bytesOf e≤reachBytes
 |[],_,ac,d,_,bA,_,_=>by simp at bA
 |_::_,[],ac,d,_,_,aP,_=>by simp at aP
 |rm::dh,im::c4,0,d,h,bA,aP,hu=>by
  simp at bA aP;subst bA;subst aP;simp only[DataW.weightsEach,List.all_append,c']at h;cases im with
  |slice a b=>have p:=h.1;simp only[DataW.weights,hu,Ea,c',decide_eq_true_eq]at p;exact p.1
  |_=>simp[Lq]
 |rm::dh,im::c4,ac+1,d,h,bA,aP,hu=>by simp only[DataW.weightsEach,List.all_append,c']at h;exact weight_at ac h.2 (by simpa using bA) (by simpa using aP) hu
end
def rng_u8{n:Int}(h:(Lit.int .u8 n).wf=ah):0≤n∧n≤255:=by simp only[Lit.wf,c',IntKind.min,IntKind.max,tl,tm]at h;simp at h;omega
end Go.VI
namespace Go.VI
set_option maxRecDepth 100000
set_option maxHeartbeats 40000000
set_option linter.unusedVariables false
set_option linter.unusedSimpArgs false
set_option linter.defProp false
section
variable{E:Env}{aO:dY}{H:ab}
def dy(E:Env)(aO:dY)(f:FuncId)(il:aZ)(H1:ab):dE:=
 let a1:=reach H1 64 (bI il) []
 let Ge:=bD a1
 match fg E aO f (cP Ge il) (a1.map λ c=>((H1[c]?).map (Chunk.c2 Ge)).getD (.iter [] 0))with
 |none=>o
 |some (r,L)=>if L.length<a1.length then o else
  let K:=(reach L 64 (bj r++(L.take a1.length).flatMap Chunk.refs) []).filter λ i=>decide (a1.length≤i)
  let back:=dG a1 H1.length K
  j (cB back r,ev H1 a1 ((L.take a1.length).map (Chunk.c2 back))++K.map λ i=>((L[i]?).map (Chunk.c2 back)).getD (.iter [] 0))
def tn(E:Env)(aO:dY)(f:FuncId):m_→dE
 |some (bW,H1)=>dy E aO f bW H1
 |none=>o
def atL(f:FuncId)(bW:aZ)(H1:ab):tn E aO f (j (bW,H1))=dy E aO f bW H1:=rfl
def vz{f:FuncId}(args:aZ):lX E aO f args H=tn E aO f (js E f H args):=by
 unfold lX;cases js E f H args with
 |none=>rfl
 |some x=>rfl
def hF{g:Nat}{bW:aZ}{r:ay}(he:E.ext g=o)(ak:bI bW=[])(ib:bj r=[])(aj:∃L,aO g bW []=j (r,L)):dy E aO g bW H=j (r,H):=by
 obtain⟨L,aj⟩:=aj;have p:=(gx (bD [])).2 bW ak;have U:∀aY,cB aY r=r:=λ aY=>(gx aY).1 r ib
 unfold dy;simp[fg,he,ak,reach,p,aj,ib,U,ev]
def HO{f:FuncId}{h:aZ→List Chunk→Option (ay×List Chunk)}(he:E.ext f=j h)(bW:aZ):dy E aO f bW H=dy {E with ext:=λ _=>o} (λ _=>h) f bW H:=by unfold dy fg;rw[he]
def Eb(H:ab)(a1:cq)(r:ay)(L:ab)(K:cq):dE:=
 j (cB (dG a1 H.length K) r,ev H a1 ((L.take a1.length).map (Chunk.c2 (dG a1 H.length K)))++K.map λ i=>((L[i]?).map (Chunk.c2 (dG a1 H.length K))).getD (.iter [] 0))
def QY(H:ab)(a1:cq):dE→dE
 |none=>o
 |some (r,L)=>if L.length<a1.length then o else Eb H a1 r L ((reach L 64 (bj r++(L.take a1.length).flatMap Chunk.refs) []).filter λ i=>decide (a1.length≤i))
def Ec(E:Env)(aO:dY)(f:FuncId)(bW:aZ)(H:ab)(a1:cq):dE:=QY H a1 (aO f (cP (bD a1) bW) (a1.map λ c=>((H[c]?).map (Chunk.c2 (bD a1))).getD (.iter [] 0)))
def Lr{f:FuncId}(he:E.ext f=o)(bW:aZ):dy E aO f bW H=Ec E aO f bW H (reach H 64 (bI bW) []):=by unfold dy Ec QY;simp only[fg,he];generalize aO f _ _=q;cases q<;>rfl
def Ls(a1:cq)(r:ay)(L:ab):QY H a1 (j (r,L))=if L.length<a1.length then o else Eb H a1 r L ((reach L 64 (bj r++(L.take a1.length).flatMap Chunk.refs) []).filter λ i=>decide (a1.length≤i)):=rfl
def QZ(aY:Nat→cu):∀es:fa,x5 es=[]→Ar aY es=es
 |[],_=>rfl
 |I::r,h=>by simp only[x5,Q0]at h;simp only[Ar,(gx aY).1 I.2 h.1,QZ aY r h.2]
def sx{L:ab}{c:Nat}{x:Chunk}(h:L[c]?=j x)(ap:x.refs=[]):reach L 64 [c] []=[c]:=by
 have ao:¬L.length≤c:=by have:=(bQ.1 h).1;omega
 simp[reach,h,ap,ao]
def xe{g:Nat}{bW:aZ}{c o2 al n:Nat}{x:Chunk}(he:E.ext g=o)(ak:bI bW=[])(ap:x.refs=[])(aj:∃L,aO g bW []=j (.ref c o2 al n,L)∧L[c]?=j x):
  dy E aO g bW H=j (.ref H.length o2 al n,H++[x]):=by
 obtain⟨L,aj,fl⟩:=aj;have p:=(gx (bD [])).2 bW ak;have mO:∀aY,x.c2 aY=x:=by
  intro aY;cases x with
  |box cells=>exact congrArg Chunk.box ((gx aY).2 cells ap)
  |dm t cells=>exact congrArg (Chunk.dm t) ((gx aY).2 cells ap)
  |map es=>exact congrArg Chunk.map (QZ aY es ap)
  |_=>rfl
 have dA:=sx fl ap;unfold dy;rw[ak];simp only[fg,he,reach,p,fN,aj,dS,ti,if_false,nU,tp,dC,bj,dA];simp[cB,dG,bD,fl,mO,ev]
end
def YY(E:Env)(t t2:TypeId):cu:=
 match fw E.P t with
 |some e=>match gp E.P e,u0 E.P e,ls E.P e with
  |some z,j b,j eB=>if 0<z∧b≤65536∧((fw E.P t2).isSome=ah∨ij E.P t2=ah)∧(cU eB).length=z∧(cU eB).all one=ah then j z else o
  |_,_,_=>o
 |none=>o
def HP(z:Nat)(H:ab)(c g off len:Nat)(new:cb):gS→dE
 |some (.af aD a6 rows ex)=>if g=a6∧off=0∧aD=z∧len+new.length<1073741824 then
  j (.ref c (g+1) 0 (len+new.length),H.set c (.af z (g+1) (rows.take len++new) (ex &&rows.isEmpty &&new.isEmpty)))else o
 |some (.bs aD a6 rows ex)=>if g=a6∧off=0∧aD=z∧ex=ah∧len=rows.length∧new≠[]∧len+new.length<1073741824 then
  j (.ref H.length 0 0 (len+new.length),H++[.af z 0 (rows++new) J])else o
 |_=>o
def Ed(z:Nat)(H:ab)(new:cb):ay→dE
 |.i (.af aD rows ex)=>if ex=ah∧(rows=[]∨(aD=z∧new≠[]))∧rows.length+new.length<1073741824 then
  j (.ref H.length 0 0 (rows.length+new.length),H++[.af z 0 (rows++new) (rows.isEmpty &&new.isEmpty)])else o
 |.ref c g off len=>HP z H c g off len new H[c]?
 |_=>o
def sy(z:Nat)(H:ab)(s:ay):Option (Nat×cb×Bool)→dE
 |some (ds,new,_)=>if new=[]∨ds=z then Ed z H new s else o
 |none=>o
def vA{E:Env}{t t2 z:Nat}(h:YY E t t2=j z)(H:ab)(s x:ay):hR E H t t2 s x=sy z H s (kD H x):=by
 unfold YY at h;split at h
 next e he=>
  split at h
  next fT b eB p U az=>
   split at h
   next aj=>
    cases h;unfold hR;rw[he];simp only[p,U,az];cases ap:kD H x with
    |none=>rfl
    |some y=>
     obtain⟨ds,new,G0⟩:=y;simp only[sy];by_cases aI:new=[]∨ds=z
     ·rw[if_pos aI,if_pos ⟨aI,aj⟩];cases s with
      |i x=>cases x<;>rfl
      |ref c g off len=>
       simp only[Ed];cases H[c]? with
       |none=>rfl
       |some ch=>cases ch<;>rfl
      |_=>rfl
     ·rw[if_neg aI,if_neg (λ h=>aI h.1)]
   ·cases h
  ·cases h
 ·cases h
def tq(z:Nat)(H:ab):ay→Option (Nat×cb×Bool)→dE
 |.ref c g off len,j (ds,new,_)=>if new=[]∨ds=z then Ao z g off len new H c H[c]? else o
 |_,_=>o
def xf{E:Env}{t e z:Nat}(p:fw E.P t=j e)(U:gp E.P e=j z)(az:0<z)(H:ab)(d x:ay):m' E H t d x=tq z H d (h6 H x):=by
 unfold m' tq;rw[p];simp only[U];cases d<;>cases h6 H x<;>first|rfl|simp only[az,and_true]
def atM(z:Nat)(H:ab)(c g off len ds:Nat)(new:cb)(ex:Bool):tq z H (.ref c g off len) (j (ds,new,ex))=if new=[]∨ds=z then Ao z g off len new H c H[c]? else o:=rfl
def atN(z g off len:Nat)(new:cb)(H:ab)(c aD a6:Nat)(rows:cb)(ex:Bool):Ao z g off len new H c (j (.af aD a6 rows ex))=if g=a6∧aD=z then
 j (.int .i64 (min new.length len:Nat),H.set c (.af z a6 (rows.take off++(new.take len++rows.drop (off+min new.length len))) ex))else o:=rfl
def Lt(E:Env)(t:TypeId):Option (Nat×aZ×dI):=
 match fw E.P t with
 |some e=>match gp E.P e,ls E.P e with
  |some z,j zero=>if(cU zero).length=z∧0<z∧(cU zero).all one=ah then j (z,cU zero,E.kinds e)else o
  |_,_=>o
 |none=>o
def Q1(bB:dI)(z n:Nat):Option (cZ×ab)→dE
 |some (xs,H1)=>j (.ref H1.length 0 0 n,H1++[.af z 0 (qb z n (iJ (cH n bB).flatten xs)) ah])
 |none=>o
def qA(bB:dI)(z n:Nat)(H:ab):mZ→dE
 |some cells=>Q1 bB z n (f' H cells)
 |none=>o
def tr{E:Env}{t z:Nat}{l5:aZ}{bB:dI}(h:Lt E t=j (z,l5,bB))(H:ab)(n:Nat)(aI:n*z≤16777216)(parts:eu):
  kC E H t n parts=qA bB z n H (f_ z (cH n l5).flatten parts):=by
 unfold Lt at h;split at h
 next e he=>
  split at h
  next fT zero p U=>
   split at h
   next aj=>
    cases h;unfold kC;rw[he];simp only[p,U];rw[if_pos ⟨aI,aj⟩];cases f_ z (cH n (cU zero)).flatten parts with
    |none=>rfl
    |some cells=>
     simp only[qA];cases f' H cells with
     |none=>rfl
     |some y=>rfl
   ·cases h
  ·cases h
 ·cases h
def qB:mZ→cq
 |some c=>bI c
 |none=>[]
def atO(c:aZ):qB (j c)=bI c:=rfl
def ts{E:Env}{t z:Nat}{l5:aZ}{bB:dI}(h:Lt E t=j (z,l5,bB))(n:Nat)(parts:eu):
  nb E t n parts=qB (f_ z (cH n l5).flatten parts):=by
 unfold Lt at h;split at h
 next e he=>
  split at h
  next fT zero p U=>
   split at h
   next aj=>cases h;unfold nb qB;rw[he];simp only[p,U];cases f_ z (cH n (cU zero)).flatten parts<;>rfl
   ·cases h
  ·cases h
 ·cases h
def atP(bB:dI)(z n:Nat)(H:ab)(cells:aZ):qA bB z n H (j cells)=Q1 bB z n (f' H cells):=rfl
def atQ(bB:dI)(z n:Nat)(xs:cZ)(H1:ab):Q1 bB z n (j (xs,H1))=j (.ref H1.length 0 0 n,H1++[.af z 0 (qb z n (iJ (cH n bB).flatten xs)) ah]):=rfl
def atS(z ds:Nat)(H:ab)(s:ay)(new:cb)(e:Bool):sy z H s (j (ds,new,e))=if new=[]∨ds=z then Ed z H new s else o:=rfl
def atT(z:Nat)(H:ab)(new:cb)(c g off len:Nat):Ed z H new (.ref c g off len)=HP z H c g off len new H[c]?:=rfl
def atU(z:Nat)(H:ab)(new:cb)(aD:Nat)(rows:cb)(ex:Bool):Ed z H new (.i (.af aD rows ex))=if ex=ah∧(rows=[]∨(aD=z∧new≠[]))∧rows.length+new.length<1073741824 then
 j (.ref H.length 0 0 (rows.length+new.length),H++[.af z 0 (rows++new) (rows.isEmpty &&new.isEmpty)])else o:=rfl
def atV(z:Nat)(H:ab)(c g off len:Nat)(new:cb)(aD a6:Nat)(rows:cb)(ex:Bool):HP z H c g off len new (j (.af aD a6 rows ex))=if g=a6∧off=0∧aD=z∧len+new.length<1073741824 then
 j (.ref c (g+1) 0 (len+new.length),H.set c (.af z (g+1) (rows.take len++new) (ex &&rows.isEmpty &&new.isEmpty)))else o:=rfl
def atW(z:Nat)(H:ab)(c g off len:Nat)(new:cb)(aD a6:Nat)(rows:cb)(ex:Bool):HP z H c g off len new (j (.bs aD a6 rows ex))=if g=a6∧off=0∧aD=z∧ex=ah∧len=rows.length∧new≠[]∧len+new.length<1073741824 then
 j (.ref H.length 0 0 (len+new.length),H++[.af z 0 (rows++new) J])else o:=rfl
def atX(H:ab)(l:bm):kD H (.i (.str l))=j (1,l.map λ b=>[bx.v (.int .u8 b.toNat)],ah):=rfl
def atY(H:ab)(aD:Nat)(rows:cb)(ex:Bool):kD H (.i (.af aD rows ex))=j (aD,rows,ex):=rfl
def Lu(g off len:Nat):gS→Option (Nat×cb×Bool)
 |some (.af aD a6 rows ex)=>if g=a6 then j (aD,(rows.drop off).take len,ex &&decide (off+len=rows.length))else o
 |some (.bs aD a6 rows ex)=>if g=a6 then j (aD,(rows.drop off).take len,ex &&decide (off+len=rows.length))else o
 |_=>o
def atZ(H:ab)(c g off len:Nat):kD H (.ref c g off len)=Lu g off len H[c]?:=by
 simp only[kD,h6];cases H[c]? with
 |none=>rfl
 |some x=>cases x<;>rfl
def at0(g off len aD a6:Nat)(rows:cb)(ex:Bool):Lu g off len (j (.af aD a6 rows ex))=if g=a6 then j (aD,(rows.drop off).take len,ex &&decide (off+len=rows.length))else o:=rfl
def at1(g off len aD a6:Nat)(rows:cb)(ex:Bool):Lu g off len (j (.bs aD a6 rows ex))=if g=a6 then j (aD,(rows.drop off).take len,ex &&decide (off+len=rows.length))else o:=rfl
def YZ:dX→mZ→mZ
 |some a,j bW=>j (a::bW)
 |_,_=>o
def Lv:mZ→dX
 |some [a]=>j a
 |some bW=>j (.bl bW)
 |none=>o
def at2(a:ay)(bW:aZ):YZ (j a) (j bW)=j (a::bW):=rfl
def at3:Lv (j [])=j (.bl []):=rfl
def at4(a:ay):Lv (j [a])=j a:=rfl
def at5(a b:ay)(l:aZ):Lv (j (a::b::l))=j (.bl (a::b::l)):=rfl
section
variable{E:Env}{R:Fr}{H:ab}
def at6(l:List ResultVar):x6 E R H l=Lv (rW E R H l):=by
 unfold x6;cases rW E R H l with
 |none=>rfl
 |some bW=>cases bW with
  |nil=>rfl
  |cons a bW=>cases bW<;>rfl
def at7:rW E R H []=j []:=rfl
def at8(r:ResultVar)(l:List ResultVar):rW E R H (r::l)=YZ (As E R H r) (rW E R H l):=by simp only[rW];cases As E R H r<;>cases rW E R H l<;>rfl
def at9(t:Nat):As E R H (.tmp t)=j (get t R):=rfl
def aua(a t:Nat):As E R H (.cell a t)=u1 E H t (get a R):=rfl
end
def Y0(E:Env)(t:TypeId):Option (Nat×cZ):=
 match fw E.P t with
 |some e=>match gp E.P e,JB E e,u0 E.P e with
  |some z,j row,j b=>if row.length=z∧0<z∧b≤65536 then j (z,iJ (E.kinds e) row)else o
  |_,_,_=>o
 |none=>o
def tt{E:Env}{t z:Nat}{row:cZ}(h:Y0 E t=j (z,row))(H:ab)(k dr:IntKind)(n m:Int):
  jf E H t (.i (.v (.int k n))) (.i (.v (.int dr m)))=if 0≤n∧n=m∧n<1073741824 then j (.ref H.length 0 0 n.toNat,H++[.af z 0 (cH n.toNat row) ah])else if n=0∧0<m∧m<1073741824 then j (.ref H.length 0 0 0,H++[.af z 0 [] J])else o:=by
 unfold Y0 at h;split at h
 next e he=>
  split at h
  next z0 aVj b p U az=>
   split at h
   next aj=>
    cases h;unfold jf;simp only[he,p,U,az];obtain⟨cm,cp,c3⟩:=aj;by_cases aI:0≤n∧n=m∧n<1073741824
    ·rw[if_pos aI,if_pos ⟨aI.1,aI.2.1,aI.2.2,cm,cp,c3⟩]
    ·rw[if_neg aI,if_neg (λ h=>aI ⟨h.1,h.2.1,h.2.2.1⟩)];by_cases aI:n=0∧0<m∧m<1073741824
     ·rw[if_pos aI,if_pos ⟨aI.1,aI.2.1,aI.2.2,cm,cp,c3⟩]
     ·rw[if_neg aI,if_neg (λ h=>aI ⟨h.1,h.2.1,h.2.2.1⟩)]
   ·cases h
  ·cases h
 ·cases h
def lJ:mZ→dX
 |some c=>j (.agg c)
 |none=>o
def aub(c:aZ):lJ (j c)=j (.agg c):=rfl
def Q2{E:Env}{t n e z:Nat}{l5:aZ}(a8:ls E.P t=j (.agg l5))(p:wg E.P t=j (n,e))(U:gp E.P e=j z)(parts:eu):jJ E t parts=lJ (f_ z l5 parts):=by unfold jJ;rw[a8];simp only[p,U];cases f_ z l5 parts<;>rfl
def o3{E:Env}{t:Nat}{l5:aZ}{pl:iI}(a8:ls E.P t=j (.agg l5))(p:wg E.P t=o)(U:Jw E.P t=j pl)(parts:eu):jJ E t parts=lJ (jr pl l5 parts):=by unfold jJ;rw[a8];simp only[p,U];cases jr pl l5 parts<;>rfl
def Y1(pl:iI)(cells:aZ)(v:ay)(r:eu):Option (Nat×Nat)→mZ
 |some (off,z)=>if(cU v).length=z∧off+z≤cells.length∧(cU v).all one=ah then jr pl (qa cells off (cU v)) r else o
 |none=>o
def auc(pl:iI)(cells:aZ):jr pl cells []=j cells:=rfl
def aud(pl:iI)(cells:aZ)(i:Nat)(v:ay)(r:eu):jr pl cells ((i,v)::r)=Y1 pl cells v r pl[i]?:=by simp only[jr];cases pl[i]?<;>rfl
def aue(pl:iI)(cells:aZ)(v:ay)(r:eu)(off z:Nat):Y1 pl cells v r (j (off,z))=if(cU v).length=z∧off+z≤cells.length∧(cU v).all one=ah then jr pl (qa cells off (cU v)) r else o:=rfl
def Q3(n c g k:Nat)(H1:ab)(xs:cZ)(aD r:Nat)(rows:cb)(ex:Bool):Option cZ→Option ab
 |some row=>j (H1.set c (.af aD g (rows.set r (row.take k++xs++row.drop (k+n))) ex))
 |none=>o
def Lw(n c g r k:Nat)(H1:ab)(xs:cZ):gS→Option ab
 |some (.af aD a6 rows ex)=>if g=a6∧k+n≤aD then Q3 n c a6 k H1 xs aD r rows ex rows[r]? else o
 |_=>o
def Lx(bB:dI)(n c g r k:Nat):Option (cZ×ab)→Option ab
 |some (xs,H1)=>Lw n c g r k H1 (iJ bB xs) H1[c]?
 |none=>o
def HQ(bB:dI)(n:Nat)(H:ab)(c g r k:Nat)(dn:aZ):gS→Option ab
 |some (.box cells)=>if k+n≤cells.length then j (H.set c (.box (qa cells k dn)))else o
 |some (.af ..)=>Lx bB n c g r k (f' H dn)
 |_=>o
def hX{E:Env}{t n:Nat}(h:gp E.P t=j n)(H:ab)(c g r k:Nat)(v:ay):
  oK E H t (.ptr c g r k) v=if(cU v).length=n∧(cU v).all one=ah then HQ (E.kinds t) n H c g r k (cU v) H[c]? else o:=by
 unfold oK;rw[h];simp only;split
 ·cases H[c]? with
  |none=>rfl
  |some x=>
   cases x with
   |af aD a6 rows ex=>
    simp only[HQ];cases f' H (cU v)with
    |none=>rfl
    |some y=>
     obtain⟨xs,H1⟩:=y;simp only[Lx];cases H1[c]? with
     |none=>rfl
     |some x=>
      cases x with
      |af aD a6 rows ex=>
       simp only[Lw];split
       ·cases rows[r]?<;>rfl
       ·rfl
      |_=>rfl
   |_=>rfl
 ·rfl
def auf(bB:dI)(n:Nat)(H:ab)(c g r k:Nat)(dn cells:aZ):HQ bB n H c g r k dn (j (.box cells))=if k+n≤cells.length then j (H.set c (.box (qa cells k dn)))else o:=rfl
def aug(bB:dI)(n:Nat)(H:ab)(c g r k:Nat)(dn:aZ)(aD a6:Nat)(rows:cb)(ex:Bool):HQ bB n H c g r k dn (j (.af aD a6 rows ex))=Lx bB n c g r k (f' H dn):=rfl
def auh(bB:dI)(n c g r k:Nat)(xs:cZ)(H1:ab):Lx bB n c g r k (j (xs,H1))=Lw n c g r k H1 (iJ bB xs) H1[c]?:=rfl
def aui(n c g r k:Nat)(H1:ab)(xs:cZ)(aD a6:Nat)(rows:cb)(ex:Bool):Lw n c g r k H1 xs (j (.af aD a6 rows ex))=if g=a6∧k+n≤aD then Q3 n c a6 k H1 xs aD r rows ex rows[r]? else o:=rfl
def auj(n c g k:Nat)(H1:ab)(xs:cZ)(aD r:Nat)(rows:cb)(ex:Bool)(row:cZ):Q3 n c g k H1 xs aD r rows ex (j row)=j (H1.set c (.af aD g (rows.set r (row.take k++xs++row.drop (k+n))) ex)):=rfl
def auk{α:Type}(l:List α)(a b:α):(l++[a]).set l.length b=l++[b]:=aX
def aul(R:Fr):norm [] R=[]:=rfl
def aum(k:Nat)(l:cq)(R:Fr):norm (k::l) R=(k,get k R)::norm l R:=rfl
noncomputable def ew(E:Env)(B:Nat)(f:FuncId)(c:Code)(R:Fr)(H:ab):hj:=
 match c with
 |.loop c=>w_ (ez E B f (.loop c)) (ez E B f c R H)
 |_=>o
noncomputable def xg(E:Env)(B:Nat)(f:FuncId)(c:Code)(I:Fr×ab):hj:=ew E B f c I.1 I.2
noncomputable def Q4(E:Env)(B:Nat)(f:FuncId)(c:Code)(aP:cq)(z:iI)(R:Fr)(H:ab):hj:=xg E B f c (oM B (norm aP (rR z R H).1) (rR z R H).2)
def aun(E:Env)(B:Nat)(f:FuncId)(c:Code)(aP:cq)(z:iI)(R:Fr)(H:ab):Q4 E B f c aP z R H=xg E B f c (oM B (norm aP (rR z R H).1) (rR z R H).2):=rfl
section
variable{E:Env}{B:Nat}{f:FuncId}{fn:Func}{k:Nat}{c:Code}{aP:cq}
def Br(c:Code)(R:Fr)(H:ab):xg E B f c (R,H)=ew E B f c R H:=rfl
def sz(aj:fu fn k=.loop c)(hm:E.xW f ((gj c).getD 0)=[])(an:E.xX f ((gj c).getD 0)=[])(bp:E.xY f ((gj c).getD 0)=[])(aV:E.head f ((gj c).getD 0)=aP)(R:Fr)(H:ab):ez E B f (.loop c) R H=xg E B f (fu fn k) (oM B (norm aP R) H):=by unfold xg ew;rw[aj,Yx];simp only[po,hm,an,bp,aV,YH,YI,YJ]
def auo{m:iI}{Ly:List (Nat×Nat×Nat)}{z:iI}(aj:fu fn k=.loop c)(hm:E.xW f ((gj c).getD 0)=m)(an:E.xX f ((gj c).getD 0)=Ly)(bp:E.xY f ((gj c).getD 0)=z)(aV:E.head f ((gj c).getD 0)=aP)(R:Fr)(H:ab):
  ez E B f (.loop c) R H=Q4 E B f (fu fn k) aP z (sW m R H).1 (wm Ly (sW m R H).1 (sW m R H).2):=by
 unfold Q4 xg ew;rw[aj,Yx];simp only[po,hm,an,bp,aV]
def aup(aj:fu fn k=.loop c)(R:Fr)(H:ab):ew E B f (fu fn k) R H=w_ (ez E B f (.loop c)) (ez E B f c R H):=by unfold ew;rw[aj]
end
def HR{B:Nat}{H:ab}(h:B≤H.length)(R:Fr):gc B R H=yb (oL B R H) R H:=by unfold gc;rw[if_pos h]
def auq(k:Nat):(k:Int)+1=((k+1:Nat):Int):=rfl
def aur{n:Int}(p:-128≤n)(U:n≤127):IntKind.i8.wrap n=n:=by simp only[uv,tl,tm,ks,ge_iff_le,decide_eq_true_eq];split<;>omega
def aus{n:Int}(p:0≤n)(U:n≤255):vB.wrap n=n:=by simp only[uv,tl,tm,mb,gk,if_false];omega
def aut{n:Int}(p:-32768≤n)(U:n≤32767):IntKind.i16.wrap n=n:=by simp only[uv,tl,tm,ks,ge_iff_le,decide_eq_true_eq];split<;>omega
def auu{n:Int}(p:0≤n)(U:n≤65535):IntKind.u16.wrap n=n:=by simp only[uv,tl,tm,mb,gk,if_false];omega
def Y2{n:Int}(p:-2147483648≤n)(U:n≤2147483647):tu.wrap n=n:=by simp only[uv,tl,tm,ks,ge_iff_le,decide_eq_true_eq];split<;>omega
def auv{n:Int}(p:0≤n)(U:n≤4294967295):Lz.wrap n=n:=by simp only[uv,tl,tm,mb,gk,if_false];omega
def Y3{n:Int}(p:-9223372036854775808≤n)(U:n≤9223372036854775807):ni.wrap n=n:=by simp only[uv,tl,tm,ks,ge_iff_le,decide_eq_true_eq];split<;>omega
def Y4{n:Int}(p:0≤n)(U:n≤18446744073709551615):IntKind.u64.wrap n=n:=by simp only[uv,tl,tm,mb,gk,if_false];omega
def auw{a b:Int}(h:a<b):(a<b)=True:=eq_true h
def auy{a b:Int}(h:b≤a):(a<b)=False:=eq_false aa
def auz{a b:Int}(h:a≤b):(a≤b)=True:=eq_true h
def auA{a b:Int}(h:b<a):(a≤b)=False:=eq_false aa
def auB{a b:Int}(h:¬a=b):(a=b)=False:=eq_false h
def auC{a b:Int}(h:a=b):(a=b)=True:=eq_true h
def auD{a b:Nat}(h:a<b):(a<b)=True:=eq_true h
def auE{a b:Nat}(h:b≤a):(a<b)=False:=eq_false aa
def auF{a b:Nat}(h:a≤b):(a≤b)=True:=eq_true h
def auG{a b:Nat}(h:b<a):(a≤b)=False:=eq_false aa
def xh:aZ→ab→dE
 |[.i (.str s),.i (.v (.int .u8 b))],H=>j (.i (.v (.int .i64 (LA s b.toNat.toUInt8))),H)
 |_,_=>o
def pR:cZ:=tv.map λ z=>.v (.int .u64 z)
def Q5(P:Program):Env:={P:=P,k0:=λ _ _=>[],head:=λ _ _=>[],eg:=λ _ _=>[],rN:=λ _ _=>J,fv:=λ _=>o,Ai:=λ _=>J,seq:=λ _=>o,ext:=λ _=>o,kinds:=λ _=>[],gH:=λ _=>[],mm:=λ _=>[],own:=λ _=>J,xW:=λ _ _=>[],xX:=λ _ _=>[],xY:=λ _ _=>[]}
def Y5(E:Env):hR (Q5 E.P)=hR E:=rfl
def Bs(P:Program)(t t2:TypeId):aZ→ab→dE
 |[s,.i (.v (.int .i64 n)),.i (.v (.int .i64 b))],H=>if b=10∧0≤n∧n≤9223372036854775807 then hR (Q5 P) H t t2 s (.i (.str (ow n.toNat)))else o
 |_,_=>o
def zb(z:Nat):aZ→ab→dE
 |[.i (.af ds rows _)],H=>if ds=z∧rows.length≤1000000000 then j (.i (.af z rows J),H)else o
 |_,_=>o
def mP(z:Nat):aZ→ab→dE
 |[.i (.af ds rows _)],H=>if ds=z∧rows.length≤1000000000 then j (.ref H.length 0 0 rows.length,H++[.af z 0 rows J])else o
 |_,_=>o
def Q6(z:Nat):Option (Nat×c0×ab)→dE
 |some (_,new,H1)=>if new.length≤1000000000 then j (.x (.d H1.length 0 0 new.length),H1++[.aE z 0 0 new])else o
 |none=>o
def uw(z:Nat):aZ→ab→dE
 |[.i (.af ds rows _)],H=>if ds=1∧rows.length≤1000000000 then j (.x (.d H.length 0 0 rows.length),H++[.aE z 0 0 (rows.map q0)])else o
 |[.x (.d c g al n)],H=>Q6 z (mo z H (.x (.d c g al n)))
 |_,_=>o
def Ee(a b s:Int):Bool:=(a==66||a==48) &&(b==66||b==48) &&(s==0||s==1)
def zc:aZ→ab→dE
 |[.agg [.i (.v (.int .u8 a)),.i (.v (.int .u8 b))],.i (.v (.int .i64 s))],H=>j (.i (.v (.bool (Ee a b s))),H)
 |_,_=>o
def zd:aZ→ab→dE
 |[.i (.v (.int .i64 n))],H=>if-9223372036854775808≤n∧n≤9223372036854775807 then j (.i (.str (Bt n)),H)else o
 |_,_=>o
def rq(z:Nat):aZ→ab→dE
 |[.i (.af _ [] ah),.i (.v (.int .i64 n))],H=>if 0≤n∧n≤1000000 then j (.ref H.length 0 0 0,H++[.af z 0 [] J])else o
 |_,_=>o
def ze:aZ→ab→dE
 |[.i (.str s)],H=>if s.length≤9223372036854775807 then j (.i (.v (.bool (Lib.validD s))),H)else o
 |_,_=>o
def Y6(c:Nat):Int:=if c<128 then 240 else if c<194 then 241 else if c<224 then 2 else if c=224 then 19 else if c<237 then 3 else if c=237 then 35 else if c<240 then 3 else if c=240 then 52 else if c<244 then 4 else if c=244 then 68 else 241
def xi:cZ:=(hB 256).map λ c=>.v (.int .u8 (Y6 c))
def xj:cZ:=([128,191,160,191,128,159,144,191,128,143]++cH 22 (0:Int)).map λ n=>.v (.int .u8 n)
def HS:cZ:=[1,2,3,4,5,7,8,9].map λ n=>.v (.int .i64 n)
def sA(E:Env)(f:FuncId)(h:aZ→ab→dE):Prop:=∀args H r aq,h args H=j (r,aq)→∀ad ae w vs,cf E ad ae H w→pF ad ae H args vs→
 Calls E.P f vs w λ e av=>∃x,e=.returned x∧cz E ad ae H w aq av λ aQ aG=>bf aQ aG aq r x
def Q7{ad:cn}{ae:cj}{H:ab}{a b:ay}{vs:Array Value}(h:pF ad ae H [a,b] vs):∃x y,vs=#[x,y]∧bf ad ae H a x∧bf ad ae H b y:=by
 obtain⟨aU,ak⟩:=h;obtain⟨l⟩:=vs
 match l,aU with
 |[x,y],_=>exact⟨x,y,rfl,ak 0 a rfl,ak 1 b rfl⟩
def auH{E:Env}{f:FuncId}(aj:∀(s:ByteArray) (c:Int) (w:World),Calls E.P f #[.string s,.int .u8 c] w λ e av=>e=.returned (.int .i64 (LA s.data.toList c.toNat.toUInt8))∧av=w):sA E f xh:=by
 intro args H r aq ak ad ae w vs au b9;unfold xh at ak;split at ak
 next s b=>
  cases ak;obtain⟨x,y,rfl,p,U⟩:=Q7 b9;obtain rfl:=q8 p;obtain rfl:=ga U;refine(aj ⟨⟨s⟩⟩ b w).mono λ e av ⟨p,U⟩=>?_
  subst U;exact⟨_,p,cz.refl au (.i _ _ (.v _ rfl))⟩
 ·cases ak
def LB{E:Env}{aO:dY}{f:FuncId}{h:aZ→ab→dE}(he:E.ext f=j h){bW:aZ}{H:ab}{r:ay}(ak:bI bW=[])(ib:bj r=[])(aj:∃L,h bW []=j (r,L)):dy E aO f bW H=j (r,H):=by rw[HO he];exact hF (E:={E with ext:=λ _=>o}) rfl ak ib aj
def auI{ad:cn}{ae:cj}{H:ab}{a b c:ay}{vs:Array Value}(h:pF ad ae H [a,b,c] vs):∃x y z,vs=#[x,y,z]∧bf ad ae H a x∧bf ad ae H b y∧bf ad ae H c z:=by
 obtain⟨aU,ak⟩:=h;obtain⟨l⟩:=vs
 match l,aU with
 |[x,y,z],_=>exact⟨x,y,z,rfl,ak 0 a rfl,ak 1 b rfl,ak 2 c rfl⟩
def Y7(b:Bool)(x y:hj):w' (.i (.v (.bool b))) x y=if b=ah then x else y:=by cases b<;>rfl
def Y8(I:Prop) [Decidable I](a b:hj):w' (.i (.v (.bool (decide (¬I))))) a b=if I then b else a:=by by_cases h:I<;>simp[h,w']
def auJ(P:Program)(op:BinOp)(t:TypeId)(k dr:IntKind)(a b:Int):k2 P op t (.i (.v (.int k a))) (.i (.v (.int dr b)))=mn op k a dr b:=rfl
def auK(P:Program)(op:BinOp)(t:TypeId)(a b:bm):k2 P op t (.i (.str a)) (.i (.str b))=tN op a b:=rfl
def auL(P:Program)(t:TypeId)(a b:Bool):k2 P .eql t (.i (.v (.bool a))) (.i (.v (.bool b)))=(j0 P t (.i (.v (.bool a))) (.i (.v (.bool b)))).map .bool:=rfl
def auM(P:Program)(t:TypeId)(a b:Bool):k2 P .neq t (.i (.v (.bool a))) (.i (.v (.bool b)))=(j0 P t (.i (.v (.bool a))) (.i (.v (.bool b)))).map λ b=>.bool (!b):=rfl
def auN(P:Program)(t:TypeId)(c g r k:Nat):k2 P .eql t (.ptr c g r k) (.i (.v (.pointer o)))=(j0 P t (.ptr c g r k) (.i (.v (.pointer o)))).map .bool:=rfl
def auO(P:Program)(t:TypeId)(c g r k:Nat):k2 P .neq t (.ptr c g r k) (.i (.v (.pointer o)))=(j0 P t (.ptr c g r k) (.i (.v (.pointer o)))).map λ b=>.bool (!b):=rfl
def auP(P:Program)(t:TypeId)(c:cZ)(al:Nat):k2 P .eql t (.i (.gR c al)) (.i (.v (.pointer o)))=(j0 P t (.i (.gR c al)) (.i (.v (.pointer o)))).map .bool:=rfl
def auQ(P:Program)(t:TypeId)(c:cZ)(al:Nat):k2 P .neq t (.i (.gR c al)) (.i (.v (.pointer o)))=(j0 P t (.i (.gR c al)) (.i (.v (.pointer o)))).map λ b=>.bool (!b):=rfl
def auR(P:Program)(t:TypeId):k2 P .eql t (.i (.v (.pointer o))) (.i (.v (.pointer o)))=(j0 P t (.i (.v (.pointer o))) (.i (.v (.pointer o)))).map .bool:=rfl
def auS(P:Program)(t:TypeId):k2 P .neq t (.i (.v (.pointer o))) (.i (.v (.pointer o)))=(j0 P t (.i (.v (.pointer o))) (.i (.v (.pointer o)))).map λ b=>.bool (!b):=rfl
def Y9(P:Program)(t:TypeId)(a b:aZ):k2 P .eql t (.agg a) (.agg b)=(j0 P t (.agg a) (.agg b)).map .bool:=rfl
def LC(P:Program)(t:TypeId)(a b:aZ):k2 P .neq t (.agg a) (.agg b)=(j0 P t (.agg a) (.agg b)).map λ b=>.bool (!b):=rfl
section
variable{E:Env}{aO:dY}{ops:eh}{R:Fr}{H:ab}
def Y_(dst:cu)(op:Op)(r:eh)(b:Bool):xc E aO ops dst op r R H (j b)=if b=ah then Bo E aO ops dst r R (cw E aO op R H)else jg E aO ops r (ee dst (.bl []) R) H:=by cases b<;>rfl
def Y'(dst:cu)(op:Op)(r:eh)(b:Bool):vx E aO ops dst op r R H (j b)=if b=ah then xd E aO ops dst op r R H (cw E aO op R H)else nx [] (iK E aO ops r (ee dst (.bl []) R) H):=by cases b<;>rfl
def Za(dst:cu)(op:Op)(r:eh)(I:Prop) [Decidable I]:xc E aO ops dst op r R H (j (decide I))=if I then Bo E aO ops dst r R (cw E aO op R H)else jg E aO ops r (ee dst (.bl []) R) H:=by by_cases h:I<;>simp[h,xc]
def Zb(dst:cu)(op:Op)(r:eh)(I:Prop) [Decidable I]:vx E aO ops dst op r R H (j (decide I))=if I then xd E aO ops dst op r R H (cw E aO op R H)else nx [] (iK E aO ops r (ee dst (.bl []) R) H):=by by_cases h:I<;>simp[h,vx]
def Zc(dst:cu)(op:Op)(r:eh)(I:Prop) [Decidable I]:xc E aO ops dst op r R H (j (decide (¬I)))=if I then jg E aO ops r (ee dst (.bl []) R) H else Bo E aO ops dst r R (cw E aO op R H):=by by_cases h:I<;>simp[h,xc]
def Zd(dst:cu)(op:Op)(r:eh)(I:Prop) [Decidable I]:vx E aO ops dst op r R H (j (decide (¬I)))=if I then nx [] (iK E aO ops r (ee dst (.bl []) R) H)else xd E aO ops dst op r R H (cw E aO op R H):=by by_cases h:I<;>simp[h,vx]
def auT(a b:ay):Lj a b (.i (.v (.bool ah)))=j a:=rfl
def auU(a b:ay):Lj a b (.i (.v (.bool J)))=j b:=rfl
def auV(a b t:Bool):Lj (.i (.v (.bool a))) (.i (.v (.bool b))) (.i (.v (.bool t)))=j (.i (.v (.bool (bif t then a else b)))):=by cases t<;>rfl
def auW(I:Prop) [Decidable I]:(!decide I)=decide (¬I):=by by_cases h:I<;>simp[h]
def auX(I q:Prop) [Decidable I] [Decidable q]:(decide I||decide q)=decide (I∨q):=by by_cases h:I<;>simp[h]
def auY(I q:Prop) [Decidable I] [Decidable q]:(decide I &&decide q)=decide (I∧q):=by by_cases h:I<;>simp[h]
def auZ(a b:bm):(a==b)=decide (a=b):=by by_cases h:a=b<;>simp[h]
def au0(a b:UInt8):(a=b)=(a.toNat=b.toNat):=by simp[UInt8.toNat_inj]
def LD(H:ab):ay→dE
 |.i (.str l)=>if l.length<1073741824 then j (.ref H.length 0 0 l.length,H++[.af 1 0 (l.map λ b=>[bx.v (.int .u8 b.toNat)]) J])else o
 |_=>o
def au1(l:bm):LD H (.i (.str l))=if l.length<1073741824 then j (.ref H.length 0 0 l.length,H++[.af 1 0 (l.map λ b=>[bx.v (.int .u8 b.toNat)]) J])else o:=rfl
def au2{s d:TypeId}(p:ij E.P s=ah)(U:(fw E.P d).bind (oI E.P)=j .u8)(x:Operand):cw E aO (.convert s d x) R H=LD H (bw E R x):=by
 have az:(fw E.P d).isSome=ah:=by cases h:fw E.P d with|none=>rw[h]at U;cases U|some _=>rfl
 rw[YP _ (by simpa[e1]using az) (by intro f a t e;cases e)];simp only[dF];generalize bw E R x=y;cases y with
 |i y=>cases y with
  |str l=>simp only[LD,p,U,true_and,Ap]
  |_=>rfl
 |_=>rfl
def LF(H:ab):ay→dE
 |.i (.str l)=>if l.length<1073741824 then j (.ref H.length 0 0 (mq l).length,H++[.af 1 0 (mq l) J])else o
 |_=>o
def au3(l:bm):LF H (.i (.str l))=if l.length<1073741824 then j (.ref H.length 0 0 (mq l).length,H++[.af 1 0 (mq l) J])else o:=rfl
def au4{s d:TypeId}(p:ij E.P s=ah)(U:(fw E.P d).bind (oI E.P)=j .i32)(x:Operand):cw E aO (.convert s d x) R H=LF H (bw E R x):=by
 have az:(fw E.P d).isSome=ah:=by cases h:fw E.P d with|none=>rw[h]at U;cases U|some _=>rfl
 rw[YP _ (by simpa[e1]using az) (by intro f a t e;cases e)];simp only[dF];generalize bw E R x=y;cases y with
 |i y=>cases y with
  |str l=>simp only[LF,p,U,true_and,Ap]
  |_=>rfl
 |_=>rfl
def Q8:Option (Nat×cb×Bool)→dX
 |some (z,rows,_)=>if rows=[]∨z=1 then(sU rows).map λ l=>.str (l.map λ n=>iR n.toNat)else o
 |none=>o
def au5(z:Nat)(rows:cb)(ex:Bool):Q8 (j (z,rows,ex))=if rows=[]∨z=1 then(sU rows).map λ l=>.str (l.map λ n=>iR n.toNat)else o:=rfl
def au6{s d e:TypeId}(h:fw E.P d=o)(aU:fw E.P s=j e)(p:ij E.P d=ah)(U:oI E.P e=j .u8)(x:Operand):cw E aO (.convert s d x) R H=hN H (Q8 (h6 H (bw E R x))):=by rw[as9 s d e x h aU];simp only[CW,p,U,and_self,if_true];cases h6 H (bw E R x)<;>rfl
def au7(aD:Nat)(rows:cb)(ex:Bool):h6 H (.i (.af aD rows ex))=j (aD,rows,ex):=rfl
def au8(c g off len:Nat):h6 H (.ref c g off len)=Lu g off len H[c]?:=by
 simp only[h6];cases H[c]? with
 |none=>rfl
 |some x=>cases x<;>rfl
def au9:sU []=j []:=rfl
def Ze(n:Int)(r:cb):sU ([.v (.int .u8 n)]::r)=(sU r).map (n::·):=rfl
def Zf(l:bm):sU (l.map λ b=>[bx.v (.int .u8 b.toNat)])=j (l.map λ b=>(b.toNat:Int)):=by
 induction l with
 |nil=>rfl
 |cons b l a'=>simp only[fC,Ze,a',eH]
def mQ(l:bm):(l.map λ b=>(b.toNat:Int)).map (λ n=>iR n.toNat)=l:=by
 rw[vC]
 conv=>rhs;rw[←List.map_id l]
 refine yO λ b _=>?_
 simp
def Q9(H:ab)(c:Nat):gS→dE
 |some (.iter s pos)=>if pos<s.length then
  j (.bl [.i (.v (.bool ah)),.i (.v (.int .i64 pos)),.i (.v (.int .i32 (na ⟨⟨s⟩⟩ pos).1))],H.set c (.iter s (pos+(na ⟨⟨s⟩⟩ pos).2)))else j (.bl [.i (.v (.bool J))],H)
 |_=>o
def au_(c:Nat)(s:bm)(pos:Nat):Q9 H c (j (.iter s pos))=if pos<s.length then
 j (.bl [.i (.v (.bool ah)),.i (.v (.int .i64 pos)),.i (.v (.int .i32 (na ⟨⟨s⟩⟩ pos).1))],H.set c (.iter s (pos+(na ⟨⟨s⟩⟩ pos).2)))else j (.bl [.i (.v (.bool J))],H):=rfl
def Q_(H:ab):ay→dE
 |.ptr c _ _ 0=>Q9 H c H[c]?
 |_=>o
def au'(c g r:Nat):Q_ H (.ptr c g r 0)=Q9 H c H[c]?:=rfl
def ava(it:Operand):cw E aO (.next it ah) R H=Q_ H (bw E R it):=by
 rw[as'];simp only[dF];cases bw E R it with
 |ptr c g r k=>cases k with
  |zero=>
   simp only[Q_];cases H[c]? with
   |none=>rfl
   |some x=>cases x<;>rfl
  |succ k=>rfl
 |_=>rfl
def Q'(s:bm):cu→cu→dX
 |some l,j h=>if l≤h∧h≤s.length then j (.i (.str ((s.drop l).take (h-l))))else o
 |_,_=>o
def avb(s:bm)(l h:Nat):Q' s (j l) (j h)=if l≤h∧h≤s.length then j (.i (.str ((s.drop l).take (h-l))))else o:=rfl
def avc(d:Nat):gz d o=j d:=rfl
def avd(d:Nat)(k:IntKind)(n:Int):gz d (j (.i (.v (.int k n))))=if 0≤n then j n.toNat else o:=rfl
def ave{t:TypeId}(bA:ij E.P t=ah)(s:bm)(b5 aB:dX):j1 E H t (.i (.str s)) b5 aB o=Q' s (gz 0 b5) (gz s.length aB):=by
 simp only[j1,p_,bA,Ra,and_self,if_true];cases gz 0 b5 with
 |none=>rfl
 |some l=>cases gz s.length aB<;>rfl
def LG(z aD:Nat)(rows:cb)(ex:Bool):cu→cu→dX
 |some l,j h=>if(l≤h∧h≤rows.length)∧(rows=[]∨z=aD)then j (.i (.af aD ((rows.drop l).take (h-l)) (ex &&decide (h=rows.length))))else o
 |_,_=>o
def vD(z c g off len:Nat):cu→cu→gS→dX
 |some l,j h,j (.af aD a6 _ _)=>if(l≤h∧h≤len)∧g=a6∧z=aD then j (.ref c g (off+l) (h-l))else o
 |some l,j h,j (.bs aD a6 rows ex)=>if(l≤h∧h≤len)∧g=a6∧z=aD∧off+len≤rows.length then j (.i (.af aD ((rows.drop (off+l)).take (h-l)) (ex &&decide (off+h=rows.length))))else o
 |_,_,_=>o
def LH(z c g off len:Nat):cu→cu→gS→dX
 |some l,j h,ch=>if l≤h∧h≤len then Oc c g off l h (j z) ch else o
 |_,_,_=>o
def sB(z:Nat)(H:ab)(b5 aB:dX):ay→dX
 |.i (.af aD rows ex)=>LG z aD rows ex (gz 0 b5) (gz rows.length aB)
 |.ref c g off len=>vD z c g off len (gz 0 b5) (gz len aB) H[c]?
 |.x (.d c g off len)=>LH z c g off len (gz 0 b5) (gz len aB) H[c]?
 |_=>o
def avf(z:Nat)(b5 aB:dX)(c g off len:Nat):sB z H b5 aB (.x (.d c g off len))=LH z c g off len (gz 0 b5) (gz len aB) H[c]?:=rfl
def avg(c g off len l h ds a6 s:Nat)(rows:c0):LH 1 c g off len (j l) (j h) (j (.aE ds a6 s rows))=if l≤h∧h≤len then(if g=a6 then j (.x (.d c g (off+l) (h-l)))else o)else o:=rfl
def avh(z:Nat)(b5 aB:dX)(aD:Nat)(rows:cb)(ex:Bool):sB z H b5 aB (.i (.af aD rows ex))=LG z aD rows ex (gz 0 b5) (gz rows.length aB):=rfl
def avi(z:Nat)(b5 aB:dX)(c g off len:Nat):sB z H b5 aB (.ref c g off len)=vD z c g off len (gz 0 b5) (gz len aB) H[c]?:=rfl
def avj(z aD:Nat)(rows:cb)(ex:Bool)(l h:Nat):LG z aD rows ex (j l) (j h)=if(l≤h∧h≤rows.length)∧(rows=[]∨z=aD)then j (.i (.af aD ((rows.drop l).take (h-l)) (ex &&decide (h=rows.length))))else o:=rfl
def avk(z c g off len l h aD a6:Nat)(rows:cb)(ex:Bool):vD z c g off len (j l) (j h) (j (.af aD a6 rows ex))=if(l≤h∧h≤len)∧g=a6∧z=aD then j (.ref c g (off+l) (h-l))else o:=rfl
def avl(z c g off len l h aD a6:Nat)(rows:cb)(ex:Bool):vD z c g off len (j l) (j h) (j (.bs aD a6 rows ex))=if(l≤h∧h≤len)∧g=a6∧z=aD∧off+len≤rows.length then j (.i (.af aD ((rows.drop (off+l)).take (h-l)) (ex &&decide (off+h=rows.length))))else o:=rfl
def HT{t e:TypeId}{z:Nat}(bA:fw E.P t=j e)(bp:gp E.P e=j z)(aU:ij E.P t=J)(x:ay)(b5 aB:dX):j1 E H t x b5 aB o=sB z H b5 aB x:=by
 unfold j1;cases x with
 |i x=>cases x with
  |af aD rows ex=>
   simp only[p_,sB,bA,bp,LG];cases gz 0 b5 with
   |none=>rfl
   |some l=>cases gz rows.length aB with
    |none=>rfl
    |some h=>simp only;by_cases p:l≤h∧h≤rows.length<;>by_cases U:rows=[]∨z=aD<;>simp[p,U]
  |str s=>
   simp only[p_,sB,aU];cases gz 0 b5 with
   |none=>rfl
   |some l=>cases gz s.length aB with
    |none=>rfl
    |some h=>by_cases p:l≤h∧h≤s.length<;>simp[p]
  |_=>rfl
 |ref c g off len=>
  simp only[p_,sB,bA];cases gz 0 b5 with
  |none=>simp[vD]
  |some l=>cases gz len aB with
   |none=>simp[vD]
   |some h=>
    simp only;cases aj:H[c]? with
    |none=>simp[vD]
    |some y=>
     cases y with
     |af aD a6 rows ex=>simp only[vD,bp,Ra,true_and,br];by_cases p:l≤h∧h≤len<;>by_cases U:g=a6∧z=aD<;>simp[p,U]
     |bs aD a6 rows ex=>simp only[vD,bp,br];by_cases p:l≤h∧h≤len<;>by_cases U:g=a6∧z=aD∧off+len≤rows.length<;>simp[p,U]
     |_=>simp[vD]
 |x k=>
  cases k with
  |d c g off len=>
   simp only[p_,sB,bA,bp,LH,Rb,Ra,if_true];cases gz 0 b5 with
   |none=>rfl
   |some l=>cases gz len aB with
    |none=>rfl
    |some h=>rfl
  |_=>rfl
 |_=>rfl
def avm:hB 0=[]:=rfl
def avn:hB 1=[0]:=rfl
def avo:hB 2=[0,1]:=rfl
def avp:hB 3=[0,1,2]:=rfl
def avq:hB 4=[0,1,2,3]:=rfl
def avr:hB 5=[0,1,2,3,4]:=rfl
def avs(n c:Nat)(r seen:cq):reach H (n+1) (c::r) seen=if c∈seen∨H.length≤c then reach H n r seen else reach H n (((H[c]?).map Chunk.refs).getD []++r) (seen++[c]):=rfl
end
def Rc:hj→Option (lz×ab)
 |some (e,_,H)=>j (e,H)
 |none=>o
def LI(k:Fr→ab→hj):hj→Option (lz×ab)
 |some (.normal,R,H)=>Rc (k R H)
 |_=>o
def avt{E:Env}{f:FuncId}(a b:Code)(R:Fr)(H:ab):mw (λ dQ c R H=>ez E dQ f c R H) a b R H=LI (ez E H.length f b) (ez E H.length f a R H):=by
 unfold mw LI;simp only;cases ez E H.length f a R H with
 |none=>rfl
 |some q=>
  obtain⟨e,k5,H1⟩:=q;cases e with
  |normal=>
   simp only;cases ez E H.length f b k5 H1 with
   |none=>rfl
   |some q=>obtain⟨e,f2,U⟩:=q;rfl
  |_=>rfl
def avu(k:Fr→ab→hj)(R:Fr)(H:ab):LI k (j (.normal,R,H))=Rc (k R H):=rfl
def avv(e:lz)(R:Fr)(H:ab):Rc (j (e,R,H))=j (e,H):=rfl
def HU(k:ab→hj)(R:Fr):Option (lz×ab)→hj
 |some (.normal,H1)=>k H1
 |some (e,H1)=>j (e,R,H1)
 |none=>o
def avw(rd:Fr→ab→Option (lz×ab))(I:Nat)(R:Fr)(H:ab):k6 rd I R [] H=j (.normal,R,H):=rfl
def Zg(rd:Fr→ab→Option (lz×ab))(I:Nat)(R:Fr)(x:ay)(xs:aZ)(H:ab):
  k6 rd I R (x::xs) H=HU (k6 rd I R xs) R (rd ((I,x)::R) H):=by
 unfold HU;simp only[k6];cases rd ((I,x)::R) H with
 |none=>rfl
 |some q=>obtain⟨e,H1⟩:=q;cases e<;>rfl
def avx(k:ab→hj)(R:Fr)(H:ab):HU k R (j (.normal,H))=k H:=rfl
def avy(k:ab→hj)(R:Fr)(H:ab):HU k R (j (.ret,H))=j (.ret,R,H):=rfl
def avz(k:ab→hj)(R:Fr)(id:Nat)(H:ab):HU k R (j (.exit id,H))=j (.exit id,R,H):=rfl
def avA(rd:Fr→ab→Option (lz×ab))(I:Nat)(R:Fr)(H:ab)(xs:aZ):Lc rd I R H (j xs)=k6 rd I R xs H:=rfl
def zf:Code→List Code
 |.seq a b=>zf a++zf b
 |.cond _ a b=>zf a++zf b
 |.block _ c=>zf c
 |.loop c=>zf c
 |.scope c=>zf c
 |.rangeFunc g bn a b=>[.rangeFunc g bn a b]
 |_=>[]
def Rd(fn:Func)(k:Nat):Code:=match fn.body with
 |some c=>((zf c)[k]?).getD .skip
 |none=>.skip
def avB:Code→Code×Code
 |.rangeFunc _ _ a b=>(a,b)
 |_=>(.skip,.skip)
def zg(fn:Func)(k:Nat):Code×Code:=avB (Rd fn k)
noncomputable def Ef(E:Env)(f:FuncId)(Zh:Code×Code):Fr→ab→Option (lz×ab):=mw (λ dQ c R H=>ez E dQ f c R H) Zh.1 Zh.2
def avC{E:Env}{B f k I:Nat}{fn:Func}{a b:Code}{g:Operand}{bn:Array Tmp}(h:Rd fn k=.rangeFunc g bn a b)(ax:bn=#[I]) (R:Fr) (H:ab):ez E B f (.rangeFunc g bn a b) R H=Lc (Ef E f (zg fn k)) I R H (tV E H (bw E R g)):=by subst ax;rw[ap6,zg,h];rfl
def avD{E:Env}{f k:Nat}{fn:Func}{a b:Code}{g:Operand}{bn:Array Tmp}(h:Rd fn k=.rangeFunc g bn a b)(R:Fr)(H:ab):Ef E f (zg fn k) R H=LI (ez E H.length f b) (ez E H.length f a R H):=by rw[zg,h];exact avt a b R H
def Re:Option cZ→Option cb→Option cb
 |some a,j b=>j (a::b)
 |_,_=>o
def Rf:gS→Option cb→Option cb
 |some (.box cells),x=>Re (ly cells) x
 |_,_=>o
def avE(H:ab):s3 H []=j []:=rfl
def avF(H:ab)(c g:Nat)(r:aZ):s3 H (.ptr c g 0 0::r)=Rf H[c]? (s3 H r):=by
 simp only[s3];cases H[c]? with
 |none=>rfl
 |some x=>
  cases x with
  |box cells=>simp only[Rf];cases ly cells<;>cases s3 H r<;>rfl
  |_=>rfl
def avG(cells:aZ)(x:Option cb):Rf (j (.box cells)) x=Re (ly cells) x:=rfl
def avH(a:cZ)(b:cb):Re (j a) (j b)=j (a::b):=rfl
def Zi:Option (cb→mZ)→Option cb→mZ
 |some L,j mv=>L mv
 |_,_=>o
def avI{E:Env}(H:ab)(g:FuncId)(fZ:aZ):tV E H (.aS (.func g) [] fZ)=Zi (E.seq g) (s3 H fZ):=by
 simp only[tV];cases E.seq g with
 |none=>rfl
 |some L=>cases s3 H fZ with
  |none=>rfl
  |some mv=>rfl
def avJ(L:cb→mZ)(mv:cb):Zi (j L) (j mv)=L mv:=rfl
def sC(z c g off len:Nat)(h m:Int):gS→dX
 |some (.af aD a6 _ _)=>if 0≤h∧h=m∧h≤len∧g=a6∧z=aD then j (.ref c g off h.toNat)else o
 |some (.bs aD a6 rows _)=>if 0≤h∧h=m∧h≤len∧g=a6∧z=aD∧off+len≤rows.length then j (.i (.af aD ((rows.drop off).take h.toNat) ah))else o
 |_=>o
def avK(z c g off len:Nat)(h m:Int)(aD a6:Nat)(rows:cb)(ex:Bool):sC z c g off len h m (j (.af aD a6 rows ex))=if 0≤h∧h=m∧h≤len∧g=a6∧z=aD then j (.ref c g off h.toNat)else o:=rfl
def HV{E:Env}{H:ab}{t e:TypeId}{z:Nat}(bA:fw E.P t=j e)(bp:gp E.P e=j z)(c g off len:Nat)(k dr:IntKind)(h m:Int):
  j1 E H t (.ref c g off len) o (j (.i (.v (.int k h)))) (j (.i (.v (.int dr m))))=sC z c g off len h m H[c]?:=by
 simp only[j1,p_,gz,bA,bp,Rg,and_true];by_cases a8:0≤h
 ·simp only[a8,if_true,iC,true_and];by_cases ao:h≤len
  ·have HM:h.toNat≤len:=aa;simp only[HM,if_true];cases aj:H[c]? with
   |none=>rfl
   |some y=>
    cases y with
    |af aD a6 rows ex=>
     simp only[sC,bp,a8,ao,true_and,br];by_cases U:g=a6∧z=aD
     ·simp only[U,and_self,if_true,and_true,fr,tw];by_cases hm:h=m
      ·subst hm;simp[a8]
      ·by_cases sp:0≤m
       ·simp only[sp,if_true];rw[if_neg aa,if_neg hm]
       ·simp[sp,hm]
     ·rw[if_neg U,if_neg (λ e=>U ⟨e.2.1,e.2.2⟩)]
    |bs aD a6 rows ex=>
     simp only[sC,bp,a8,ao,true_and,br];by_cases U:g=a6∧z=aD∧off+len≤rows.length
     ·simp only[U,and_self,if_true,and_true,fr,tw];by_cases hm:h=m
      ·subst hm;simp[a8]
      ·by_cases sp:0≤m
       ·simp only[sp,if_true];rw[if_neg aa,if_neg hm]
       ·simp[sp,hm]
     ·rw[if_neg U,if_neg (λ e=>U ⟨e.2.1,e.2.2.1,e.2.2.2⟩)]
    |_=>rfl
  ·have HM:¬h.toNat≤len:=aa;simp only[HM,if_false];cases aj:H[c]? with
   |none=>rfl
   |some y=>
    cases y with
    |af aD a6 rows ex=>simp only[sC];rw[if_neg (λ e=>ao e.2.2.1)]
    |bs aD a6 rows ex=>simp only[sC];rw[if_neg (λ e=>ao e.2.2.1)]
    |_=>rfl
 ·simp only[a8,if_false];cases aj:H[c]? with
  |none=>rfl
  |some y=>
   cases y with
   |af aD a6 rows ex=>simp only[sC];rw[if_neg (λ e=>a8 e.1)]
   |bs aD a6 rows ex=>simp only[sC];rw[if_neg (λ e=>a8 e.1)]
   |_=>rfl
def zh(a b:Int):Int:=ni.wrap ((rO ni.bits a &&&rO ni.bits b).toNat:Int)
def ux(co:Int):Int:=if zh co 64≠0 then 3 else if zh co 32≠0 then 2 else if zh co 29≠0 then 1 else 0
def Bu(t:bm)(wd:Bool)(bO:Int):ay:=.agg [.i (.str t),.i (.v (.bool wd)),.i (.v (.int .i64 bO))]
def vE(t:bm)(w co:Int):aZ:=if zh co 64≠0 then[Bu [42] J 3]else if w=0 then[]else[Bu t (decide (w=2)) (ux co)]
def Bv:cb→mZ
 |[]=>j []
 |[.str t,.v (.int .i64 w),.v (.int .i64 _),.v (.int .i64 _),.v (.int .i64 co)]::r=>(Bv r).map (vE t w co++·)
 |_=>o
def xk:cb→mZ
 |[[.af 5 rows _]]=>if rows.length<1000000 then Bv rows else o
 |_=>o
section
variable{E:Env}{aO:dY}{R:Fr}{H:ab}{f:FuncId}
def avL(t:TypeId)(x k:Operand)(ok:Bool):df E R H (.lookup t x k ok)=bj (bw E R x):=rfl
def avM(t:TypeId)(m k x:Operand):df E R H (.mapUpdate t m k x)=bj (bw E R m)++(bj (bw E R m)).map (·+lA):=rfl
def avN(t:TypeId)(m k x:Operand):df E R H (.insert t m k x)=bj (bw E R m)++(bj (bw E R m)).map (·+lA):=rfl
def avO(t:TypeId)(m k x:Operand):cw E aO (.insert t m k x) R H=nK E H t (bw E R m) (bw E R k) (bw E R x):=rfl
def avP(t:TypeId)(r:Option Operand):df E R H (.makeMap t r)=[]:=rfl
def avQ(t:TypeId)(x k:Operand)(ok:Bool):cw E aO (.lookup t x k ok) R H=hN H (Ak E H t (bw E R x) (bw E R k) ok):=ov _
def Zj(H:ab):Option (TypeId×TypeId)→dE
 |some _=>j (.dV H.length,H++[.map []])
 |none=>o
def avR(I:TypeId×TypeId):Zj H (j I)=j (.dV H.length,H++[.map []]):=rfl
def avS(t:TypeId):cw E aO (.makeMap t o) R H=Zj H (u2 E.P t):=rfl
def avT(t:TypeId)(m k x:Operand):cw E aO (.mapUpdate t m k x) R H=nK E H t (bw E R m) (bw E R k) (bw E R x):=rfl
def avU(t:TypeId)(c:Nat)(k:ay)(ok:Bool):Ak E H t (.dV c) k ok=CY E t k ok H[c]?:=rfl
def avV(t:TypeId)(x:bx)(k:ay):Ak E H t (.i x) k ah=Ga E t (.i x) k:=rfl
def avW(t:TypeId)(c:Nat)(k x:ay):nK E H t (.dV c) k x=tP E H c t k x H[c]?:=rfl
def avX(B c:Nat):eL B H (.dV c)=.dV c:=by simp[eL]
def avY(B c:Nat)(es:fa):el B H c (.map es)=.map (wo B H es):=rfl
def avZ(B c t:Nat)(cells:aZ):el B H c (.dm t cells)=.dm t (ff B H cells):=rfl
def av0(B c t:Nat)(l:bm):el B H c (.kc t l)=.kc t l:=rfl
def av1(B c:Nat):el B H c .gone=.gone:=rfl
def av2(k:cu)(bB:dI)(c:Nat)(r:aZ):ke (k::bB) (.dV c::r)=.dV c::ke bB r:=rfl
def av3(bB:dI)(c:Nat):sV bB (.dV c)=.dV c:=rfl
def av4(c:Nat)(r:aZ):dP H (.dV c::r)=sv (.dV c) (dP H r):=by simp only[dP];cases dP H r<;>rfl
def av5(c:Nat):freeze H (.dV c)=o:=rfl
def av6(v:ay)(zero:dX):wj J zero (j (j v))=j v:=rfl
def av7(v:ay)(zero:dX):wj ah zero (j (j v))=j (.bl [v,.i (.v (.bool ah))]):=rfl
def av8(z:bx):wj J (j (.i z)) (j o)=j (.i z):=rfl
def av9(z:bx):wj ah (j (.i z)) (j o)=j (.bl [.i z,.i (.v (.bool J))]):=rfl
def av_{t jK e:TypeId}{gr:IntKind}(a8:u2 E.P t=j (jK,e))(aA:oI E.P jK=j gr){z:ay}(bp:ls E.P e=j z)(n:Int)(ok:Bool)(es:fa):
  CY E t (.i (.v (.int gr n))) ok (j (.map es))=wj ok (j z) (ik (.v (.int gr n)) es):=by
 unfold CY;simp only[a8,CX,aA,decide_true,if_true,bp]
def Rh(H:ab)(c:Nat):Option fa→dE
 |some es=>j (.dead,H.set c (.map es))
 |none=>o
def Zk(c:Nat)(es:fa):Rh H c (j es)=j (.dead,H.set c (.map es)):=rfl
def av'{t jK e:TypeId}{gr:IntKind}(a8:u2 E.P t=j (jK,e))(aA:oI E.P jK=j gr)(n:Int)(x:ay)(p:one x=ah)(c:Nat)(es:fa):
  tP E H c t (.i (.v (.int gr n))) x (j (.map es))=Rh H c (k3 (.v (.int gr n)) x es):=by
 unfold tP;simp only[a8,CX,aA,decide_true,p,and_self,if_true];cases k3 (.v (.int gr n)) x es<;>rfl
end
section
variable{E:Env}{aO:dY}{R:Fr}{H:ab}{f:FuncId}
def awa(k:de)(r:aZ):dP H (.x k::r)=HL r (freeze H (.x k)):=by
 simp only[dP,HL];cases freeze H (.x k)with
 |none=>rfl
 |some I=>simp only;cases dP I.2 r<;>rfl
def awb(k:de):freeze H (.x k)=pk H k:=rfl
def Ri(c g al n:Nat):pk H (.d c g al n)=wk c g al n H H[c]?:=rfl
def awc(c g s r:Nat):pk H (.h c g s r)=wl c g s r H H[c]?:=rfl
def Zl(c g al n z a6 s:Nat)(rows:c0):wk c g al n H (j (.aE z a6 s rows))=if g=a6 then CZ c g al n H (rQ z rows)else o:=rfl
def Zm(c g al n a6:Nat)(rows:cb):wk c g al n H (j (.fd a6 rows))=if g=a6 then j (.af 1 ((rows.drop al).take n) J,H)else o:=rfl
def Zn(c g al n:Nat)(xs:cZ):CZ c g al n H (j xs)=j (.af 1 (((xs.map λ y=>[y]).drop al).take n) J,H.set c (.fd g (xs.map λ y=>[y]))):=rfl
def Rj(c g s z r:Nat)(rows:c0)(H:ab):Option er→Option (bx×ab)
 |some (.own b4)=>j (.af z b4 J,H.set c (.aE z g s (rows.set r (.ek (.af z b4 J)))))
 |_=>o
def awd(c g s r z a6 dB:Nat)(rows:c0):wl c g s r H (j (.aE z a6 dB rows))=if g=a6∧s=dB then Rj c g s z r rows H rows[r]? else o:=by
 simp only[wl,Rj];split
 ·split<;>simp_all
 ·rfl
def awe(c g s z r:Nat)(rows:c0)(b4:cb):Rj c g s z r rows H (j (.own b4))=j (.af z b4 J,H.set c (.aE z g s (rows.set r (.ek (.af z b4 J))))):=rfl
def Rk(z:Nat):∀l:List cb,rQ z (l.map er.own)=j (l.map λ b4=>.af z b4 J)
 |[]=>rfl
 |a::l=>by simp[rQ,Rk z l]
def awf(B:Nat)(k:de):r0 E f B H (.x k)=u9 (q4 E f B H [.x k]):=rfl
def awg(k:cu)(bB:dI)(q:de)(r:aZ):ke (k::bB) (.x q::r)=.x q::ke bB r:=rfl
def awh(bB:dI)(q:de):sV bB (.x q)=.x q:=rfl
def awi(B:Nat)(k:de):eL B H (.x k)=if k.c<B then .x k else rS k H[k.c]?:=by simp[eL]
def awj(B c z g s:Nat)(rows:c0):el B H c (.aE z g s rows)=if c<B then .aE z g s rows else .aE z 0 0 rows:=rfl
def awk(c g al n z a6 dB:Nat)(rows:c0):rS (.d c g al n) (j (.aE z a6 dB rows))=if g=a6 then .x (.d c 0 al n)else .dead:=rfl
def awl(c g r z a6 dB:Nat)(rows:c0):rS (.e c g r) (j (.aE z a6 dB rows))=if g=a6 then .x (.e c 0 r)else .dead:=rfl
def awm(c g s r z a6 dB:Nat)(rows:c0):rS (.h c g s r) (j (.aE z a6 dB rows))=if g=a6∧s=dB then .x (.h c 0 0 r)else .dead:=rfl
def awn(c g s r i ac z a6 dB:Nat)(rows:c0):rS (.I c g s r i ac) (j (.aE z a6 dB rows))=if g=a6∧s=dB then .x (.I c 0 0 r i ac)else .dead:=rfl
def awo(k:de):rS k (j .gone)=.dead:=by cases k<;>rfl
def awp(c g al n a6:Nat)(rows:cb):rS (.d c g al n) (j (.fd a6 rows))=if g=a6 then .i (.af 1 ((rows.drop al).take n) J)else .dead:=rfl
def awq(B c g:Nat)(rows:cb):el B H c (.fd g rows)=.fd g rows:=rfl
def awr(c g al n:Nat):de.c (.d c g al n)=c:=rfl
def aws(c g r:Nat):de.c (.e c g r)=c:=rfl
def awt(c g s r:Nat):de.c (.h c g s r)=c:=rfl
def awu(c g s r i k:Nat):de.c (.I c g s r i k)=c:=rfl
def awv(m c g al n:Nat):de.to m (.d c g al n)=.d m g al n:=rfl
def aww(m c g r:Nat):de.to m (.e c g r)=.e m g r:=rfl
def awx(m c g s r:Nat):de.to m (.h c g s r)=.h m g s r:=rfl
def awy(m c g s r i k:Nat):de.to m (.I c g s r i k)=.I m g s r i k:=rfl
def LJ(c g s r:Nat):Option er→Option (aZ×Nat)
 |some (.own _)=>j ([.x (.h c g s r)],0)
 |some (.ek y)=>j ([.i y],0)
 |_=>o
def awz(c g r:Nat):wh H (.e c g r)=F7 c g r H[c]?:=rfl
def awA(c g s r i k:Nat):wh H (.I c g s r i k)=F8 g s r i k H[c]?:=rfl
def awB(c g r z a6 s:Nat)(rows:c0):F7 c g r (j (.aE z a6 s rows))=if g=a6 then LJ c g s r rows[r]? else o:=by
 simp only[F7,LJ];split
 ·split<;>simp_all
 ·rfl
def awC(c g s r:Nat)(b4:cb):LJ c g s r (j (.own b4))=j ([.x (.h c g s r)],0):=rfl
def awD(c g s r:Nat)(y:bx):LJ c g s r (j (.ek y))=j ([.i y],0):=rfl
def LK(k:Nat):Option cZ→Option (aZ×Nat)
 |some row=>j (lu row,k)
 |none=>o
def Rl(i k:Nat):Option er→Option (aZ×Nat)
 |some (.own b4)=>LK k b4[i]?
 |_=>o
def awE(g s r i k z a6 dB:Nat)(rows:c0):F8 g s r i k (j (.aE z a6 dB rows))=if g=a6∧s=dB then Rl i k rows[r]? else o:=by
 simp only[F8,Rl,LK];split
 ·split
  ·split<;>simp_all
  ·split<;>simp_all
 ·rfl
def awF(i k:Nat)(b4:cb):Rl i k (j (.own b4))=LK k b4[i]?:=rfl
def awG(k:Nat)(row:cZ):LK k (j row)=j (lu row,k):=rfl
def awH(z c g off len:Nat)(n:Int):wi H z n (.d c g off len)=Jy z c g off len n H[c]?:=rfl
def awI(z c g s r:Nat)(n:Int):wi H z n (.h c g s r)=F9 z c g s r n H[c]?:=rfl
def awJ(z c g off len ds a6 s:Nat)(n:Int)(rows:c0):Jy z c g off len n (j (.aE ds a6 s rows))=if 0≤n∧n<len∧z=1∧g=a6 then j (.x (.e c g (off+n.toNat)))else o:=rfl
def Rm(c g s r:Nat)(n:Int):Option er→dX
 |some (.own b4)=>if n.toNat<b4.length then j (.x (.I c g s r n.toNat 0))else o
 |_=>o
def awK(z c g s r ds a6 dB:Nat)(n:Int)(rows:c0):F9 z c g s r n (j (.aE ds a6 dB rows))=if g=a6∧s=dB∧z=ds∧0≤n then Rm c g s r n rows[r]? else o:=by
 simp only[F9,Rm];split
 ·split
  ·simp_all
  ·split<;>simp_all
 ·rfl
def awL(c g s r:Nat)(n:Int)(b4:cb):Rm c g s r n (j (.own b4))=if n.toNat<b4.length then j (.x (.I c g s r n.toNat 0))else o:=rfl
def hY{t n:Nat}(h:gp E.P t=j n)(k:de)(v:ay):oK E H t (.x k) v=if(cU v).length=n∧(cU v).all one=ah then qZ E H t n v k else o:=by unfold oK;rw[h]
def awM(t n c g r:Nat)(v:ay):qZ E H t n v (.e c g r)=if n=1 then x1 H c g r v H[c]? else o:=rfl
def awN(t n c g s r i k:Nat)(v:ay):qZ E H t n v (.I c g s r i k)=x2 E H t n c g s r i k v H[c]?:=rfl
def awO(c g r z a6 s:Nat)(v:ay)(rows:c0):x1 H c g r v (j (.aE z a6 s rows))=x0 c g r (qY H z v):=rfl
def Zo(c g r:Nat)(y:er)(H1:ab):gS→Option ab
 |some (.aE z a6 s rows)=>if g=a6∧r<rows.length then j (H1.set c (.aE z g (s+1) (rows.set r y)))else o
 |_=>o
def awP(c g r:Nat)(y:er)(H1:ab):x0 c g r (j (y,H1))=Zo c g r y H1 H1[c]?:=by
 simp only[x0];cases H1[c]? with
 |none=>rfl
 |some x=>cases x<;>rfl
def awQ(c g r z a6 s:Nat)(y:er)(H1:ab)(rows:c0):Zo c g r y H1 (j (.aE z a6 s rows))=if g=a6∧r<rows.length then j (H1.set c (.aE z g (s+1) (rows.set r y)))else o:=rfl
def awR(z d g len:Nat):qY H z (.ref d g 0 len)=C1 H z d g len H[d]?:=rfl
def awS(z:Nat)(x:bx):qY H z (.i x)=j (.ek (iS (j z) x),H):=rfl
def awT(z d g len ds a6:Nat)(b4:cb)(ex:Bool):C1 H z d g len (j (.af ds a6 b4 ex))=if ds=z∧0<z∧g=a6∧len=b4.length then j (.own b4,H.set d .gone)else o:=rfl
def LL(c g s r i k n z:Nat)(bB:dI)(rows:c0)(b4:cb)(H:ab):Option cZ→Option cZ→Option ab
 |some row,j xs=>j (H.set c (.aE z g s (rows.set r (.own (b4.set i (row.take k++iJ bB xs++row.drop (k+n)))))))
 |_,_=>o
def Rn(c g s r i k n z:Nat)(bB:dI)(rows:c0)(H:ab)(xs:Option cZ):Option er→Option ab
 |some (.own b4)=>LL c g s r i k n z bB rows b4 H b4[i]? xs
 |_=>o
def awU(t n c g s r i k z a6 dB:Nat)(v:ay)(rows:c0):x2 E H t n c g s r i k v (j (.aE z a6 dB rows))=if g=a6∧s=dB∧k+n≤z then Rn c g s r i k n z (E.kinds t) rows H (ly (cU v)) rows[r]? else o:=by
 simp only[x2,Rn,LL];split
 ·split
  ·split<;>simp_all
  ·split<;>simp_all
 ·rfl
def awV(c g s r i k n z:Nat)(bB:dI)(rows:c0)(xs:Option cZ)(b4:cb):Rn c g s r i k n z bB rows H xs (j (.own b4))=LL c g s r i k n z bB rows b4 H b4[i]? xs:=rfl
def awW(c g s r i k n z:Nat)(bB:dI)(rows:c0)(b4:cb)(row xs:cZ):LL c g s r i k n z bB rows b4 H (j row) (j xs)=j (H.set c (.aE z g s (rows.set r (.own (b4.set i (row.take k++iJ bB xs++row.drop (k+n))))))):=rfl
def awX:ly []=j []:=rfl
def awY(x:bx)(r:aZ):ly (.i x::r)=(ly r).map (x::·):=rfl
def awZ(t z n:Nat)(v:ay):u4 E H t z n [(0,v)]=if n=1∧one v=ah∧sX E t t=ah then C2 z (qY H z v)else o:=rfl
def aw0(z:Nat)(y:er)(H1:ab):C2 z (j (y,H1))=j (.x (.d H1.length 0 0 1),H1++[.aE z 0 1 [y]]):=rfl
def aw1(z c g off len:Nat):mo z H (.x (.d c g off len))=wq z c g off len H H[c]?:=rfl
def aw2(z d g off len ds a6 s:Nat)(rows:c0):wq z d g off len H (j (.aE ds a6 s rows))=if z=ds∧g=a6∧off+len≤rows.length then j (d,(rows.drop off).take len,H.set d (.aE z g (s+1) (fB rows off len)))else o:=rfl
def aw3{t t2:Nat}(h:sX E t t2=ah)(z:Nat)(s x:ay):u5 E H t t2 z s x=wt z s (mo z H x):=by unfold u5;rw[if_pos h]
def aw4{t t2:Nat}(h:sX E t t2=ah)(z:Nat)(s:ay)(k:de):rU E H t t2 z s (.x k)=wt z s (mo z H (.x k)):=aw3 h z s (.x k)
def aw5(z d aD:Nat)(new:c0)(H1:ab):wt z (.i (.af aD [] ah)) (j (d,new,H1))=if new.length<1073741824 then j (.x (.d H1.length 0 0 new.length),H1++[.aE z 0 0 new])else o:=rfl
def aw6(z d c g len:Nat)(new:c0)(H1:ab):wt z (.x (.d c g 0 len)) (j (d,new,H1))=C3 z d c g len new H1 H1[c]?:=rfl
def aw7(z d c g len ds a6 s:Nat)(new rows:c0)(H1:ab):C3 z d c g len new H1 (j (.aE ds a6 s rows))=if z=ds∧g=a6∧c≠d∧len≤rows.length∧len+new.length<1073741824 then j (.x (.d c (g+1) 0 (len+new.length)),H1.set c (.aE z (g+1) 0 (rows.take len++new)))else o:=rfl
def aw8{t:Nat}(h:sX E t t=ah)(z:Nat)(x y:ay):rT E H t z x y=An z x (mo z H y):=by unfold rT;rw[if_pos h]
def aw9(z d c g off len:Nat)(new:c0)(H1:ab):An z (.x (.d c g off len)) (j (d,new,H1))=C4 z d c g off len new H1 H1[c]?:=rfl
def aw_(z d c g off len ds a6 s:Nat)(new rows:c0)(H1:ab):C4 z d c g off len new H1 (j (.aE ds a6 s rows))=if z=ds∧g=a6∧c≠d∧off+len≤rows.length∧new.length≤len then j (.int .i64 new.length,H1.set c (.aE z g (s+1) (rows.take off++(new++rows.drop (off+new.length)))))else o:=rfl
def aw'(z c n:Nat)(H:ab):u6 z (j (.ref c 0 0 n,H))=C5 z c n H H[c]?:=rfl
def axa(z c n:Nat)(rows:cb)(ex:Bool):C5 z c n H (j (.af 1 0 rows ex))=j (.x (.d c 0 0 n),H.set c (.aE z 0 0 (rows.map q0))):=rfl
def axb(y:bx):q0 [y]=.ek y:=rfl
end
def axc:∀a,kz (Value.bool a)=cellOf (Value.bool a):=λ _=>rfl
def axd:∀a,cellOf (Value.bool a)=.i (.v (Value.bool a)):=λ _=>rfl
def axe:∀a b,kz (kE a b)=cellOf (kE a b):=λ _ _=>rfl
def axf:∀a b,cellOf (kE a b)=.i (.v (kE a b)):=λ _ _=>rfl
def axg:∀a b,kz (Value.float a b)=cellOf (Value.float a b):=λ _ _=>rfl
def axh:∀a b,cellOf (Value.float a b)=.i (.v (Value.float a b)):=λ _ _=>rfl
def axi:∀a b c,kz (Ro a b c)=cellOf (Ro a b c):=λ _ _ _=>rfl
def axj:∀a b c,cellOf (Ro a b c)=.i (.v (Ro a b c)):=λ _ _ _=>rfl
def axk:∀a,kz (Eg a)=cellOf (Eg a):=λ _=>rfl
def axl:∀a,cellOf (Eg a)=.i (.v (Eg a)):=λ _=>rfl
def axm:∀a,kz (Value.map a)=cellOf (Value.map a):=λ _=>rfl
def axn:∀a,cellOf (Value.map a)=.i (.v (Value.map a)):=λ _=>rfl
def axo:∀a,kz (Value.chan a)=cellOf (Value.chan a):=λ _=>rfl
def axp:∀a,cellOf (Value.chan a)=.i (.v (Value.chan a)):=λ _=>rfl
def axq:∀a b c,kz (Gm a b c)=cellOf (Gm a b c):=λ _ _ _=>rfl
def axr:∀a b c,cellOf (Gm a b c)=.i (.v (Gm a b c)):=λ _ _ _=>rfl
def axs:kz (Rp)=cellOf (Rp):=rfl
def axt:cellOf (Rp)=.i (.v (Rp)):=rfl
def axu:∀a b,kz (Value.iface a b)=cellOf (Value.iface a b):=λ _ _=>rfl
def axv:∀a b,cellOf (Value.iface a b)=.i (.v (Value.iface a b)):=λ _ _=>rfl
def axw:kz (Rq)=cellOf (Rq):=rfl
def axx:cellOf (Rq)=.i (.v (Rq)):=rfl
def axy:∀a,kz (Value.string a)=cellOf (Value.string a):=λ _=>rfl
def axz:∀a b c,kz (Value.slice a b c)=cellOf (Value.slice a b c):=λ _ _ _=>rfl
def axA:∀a,kz (Value.tuple a)=cellOf (Value.tuple a):=λ _=>rfl
def axB:∀a b c,cellOf (Value.slice (j a) b c)=.i (.v (Value.slice (j a) b c)):=λ _ _ _=>rfl
def axC:∀a b c d aY,Chunk.c2 aY (Chunk.af a b c d)=(Chunk.af a b c d):=λ _ _ _ _ _=>rfl
def axD:∀a b c d,Chunk.refs (Chunk.af a b c d)=[]:=λ _ _ _ _=>rfl
def axE:∀a b c d aY,Chunk.c2 aY (Chunk.bs a b c d)=(Chunk.bs a b c d):=λ _ _ _ _ _=>rfl
def axF:∀a b c d,Chunk.refs (Chunk.bs a b c d)=[]:=λ _ _ _ _=>rfl
def axG:∀a b aY,Chunk.c2 aY (Chunk.iter a b)=(Chunk.iter a b):=λ _ _ _=>rfl
def axH:∀a b,Chunk.refs (Chunk.iter a b)=[]:=λ _ _=>rfl
def axI:∀a b aY,Chunk.c2 aY (Chunk.kc a b)=(Chunk.kc a b):=λ _ _ _=>rfl
def axJ:∀a b,Chunk.refs (Chunk.kc a b)=[]:=λ _ _=>rfl
def axK:∀aY,Chunk.c2 aY (Chunk.gone)=(Chunk.gone):=λ _=>rfl
def axL:Chunk.refs (Chunk.gone)=[]:=rfl
def axM:∀a b c d aY,Chunk.c2 aY (Chunk.aE a b c d)=(Chunk.aE a b c d):=λ _ _ _ _ _=>rfl
def axN:∀a b c d,Chunk.refs (Chunk.aE a b c d)=[]:=λ _ _ _ _=>rfl
def axO:∀a b aY,Chunk.c2 aY (Chunk.fd a b)=(Chunk.fd a b):=λ _ _ _=>rfl
def axP:∀a b,Chunk.refs (Chunk.fd a b)=[]:=λ _ _=>rfl
def axQ:∀a,en (Op.makeMap a o)=ah:=λ _=>rfl
def axR:∀a b,en (Op.makeMap a (j b))=J:=λ _ _=>rfl
def axS:∀a,en (Op.move a)=J:=λ _=>rfl
def axT:∀a,en (Op.assign a)=J:=λ _=>rfl
def axU:∀a b c,en (Op.pick a b c)=J:=λ _ _ _=>rfl
def axV:∀a b,en (Op.build a b)=J:=λ _ _=>rfl
def axW:∀a b c d,en (Op.insert a b c d)=J:=λ _ _ _ _=>rfl
def axX:∀a b,en (Op.load a b)=J:=λ _ _=>rfl
def axY:∀a b c,en (Op.store a b c)=J:=λ _ _ _=>rfl
def axZ:∀a,en (Op.ready a)=J:=λ _=>rfl
def ax0:∀a,en (Op.waits a)=J:=λ _=>rfl
def ax1:∀a,en (Op.nilCheck a)=J:=λ _=>rfl
def ax2:∀a b c d e,en (Op.binOp a b c d e)=J:=λ _ _ _ _ _=>rfl
def ax3:∀a b c,en (Op.unOp a b c)=J:=λ _ _ _=>rfl
def ax4:∀a b c,en (Op.convert a b c)=J:=λ _ _ _=>rfl
def ax5:∀a b,en (Op.sliceToArrayPointer a b)=J:=λ _ _=>rfl
def ax6:∀a b,en (Op.makeInterface a b)=J:=λ _ _=>rfl
def ax7:∀a b c,en (Op.makeFunc a b c)=J:=λ _ _ _=>rfl
def ax8:∀a b,en (Op.makeChan a b)=J:=λ _ _=>rfl
def ax9:∀a b c d e,en (Op.slice a b c d e)=J:=λ _ _ _ _ _=>rfl
def ax_:∀a b c,en (Op.fieldAddr a b c)=J:=λ _ _ _=>rfl
def ax':∀a b c,en (Op.field a b c)=J:=λ _ _ _=>rfl
def aya:∀a b c,en (Op.indexAddr a b c)=J:=λ _ _ _=>rfl
def ayb:∀a b c,en (Op.index a b c)=J:=λ _ _ _=>rfl
def ayc:∀a b c d,en (Op.lookup a b c d)=J:=λ _ _ _ _=>rfl
def ayd:∀a b c d,en (Op.mapUpdate a b c d)=J:=λ _ _ _ _=>rfl
def aye:∀a b c,en (Op.mapEntry a b c)=J:=λ _ _ _=>rfl
def ayf:∀a b c d,en (Op.entryStore a b c d)=J:=λ _ _ _ _=>rfl
def ayg:∀a b,en (Op.range a b)=J:=λ _ _=>rfl
def ayh:∀a b,en (Op.next a b)=J:=λ _ _=>rfl
def ayi:∀a,en (Op.entry a)=J:=λ _=>rfl
def ayj:∀a b c d,en (Op.typeAssert a b c d)=J:=λ _ _ _ _=>rfl
def ayk:∀a b,en (Op.extract a b)=J:=λ _ _=>rfl
def ayl:∀a,en (Op.call a)=J:=λ _=>rfl
def aym:one (ay.dead)=J:=rfl
def ayn:∀a,one (ay.agg a)=J:=λ _=>rfl
def ayo:∀a,one (ay.bl a)=J:=λ _=>rfl
def ayp:cU (ay.dead)=[(ay.dead)]:=rfl
def ayq:∀a,cU (ay.i a)=[(ay.i a)]:=λ _=>rfl
def ayr:∀a b c d,cU (ay.ref a b c d)=[(ay.ref a b c d)]:=λ _ _ _ _=>rfl
def ays:∀a b c d,cU (ay.ptr a b c d)=[(ay.ptr a b c d)]:=λ _ _ _ _=>rfl
def ayt:∀a,cU (ay.dV a)=[(ay.dV a)]:=λ _=>rfl
def ayu:∀a b c,cU (ay.aS a b c)=[(ay.aS a b c)]:=λ _ _ _=>rfl
def ayv:∀a,cU (ay.bl a)=[(ay.bl a)]:=λ _=>rfl
def ayw:∀a,cU (ay.x a)=[(ay.x a)]:=λ _=>rfl
def ayx:gj (Code.skip)=o:=rfl
def ayy:∀a,gj (Code.exit a)=o:=λ _=>rfl
def ayz:∀a,gj (Code.label a)=o:=λ _=>rfl
def ayA:∀a,gj (Code.goto a)=o:=λ _=>rfl
def ayB:gj (Code.ret)=o:=rfl
def ayC(E:Env)(R:Fr)(H:ab)(x:Operand)(t:TypeId):eV E R H (.call ⟨.builtin .len,#[x],#[t]⟩)=if ij E.P t=ah∨(fw E.P t).isSome=ah then match bw E R x with
 |.i (.str l)=>if ij E.P t=ah then j (.int .i64 l.length)else o
 |.i (.af _ rows _)=>if ij E.P t=ah then o else j (.int .i64 rows.length)
 |.ref _ _ _ len=>if ij E.P t=ah then o else j (.int .i64 len)
 |.x (.d _ _ _ len)=>if ij E.P t=ah then o else j (.int .i64 len)
 |_=>o
 else o:=rfl
def LM(E:Env)(H:ab)(t t2:TypeId)(s x:ay):cu→dE
 |none=>hR E H t t2 s x
 |some z=>rU E H t t2 z s x
def LN(E:Env)(H:ab)(t:TypeId)(s x:ay):cu→dE
 |none=>m' E H t s x
 |some z=>rT E H t z s x
def ayD(E:Env)(H:ab)(t t2:TypeId)(s x:ay):LM E H t t2 s x o=hR E H t t2 s x:=rfl
def ayE(E:Env)(H:ab)(t t2 z:TypeId)(s x:ay):LM E H t t2 s x (j z)=rU E H t t2 z s x:=rfl
def ayF(E:Env)(H:ab)(t:TypeId)(s x:ay):LN E H t s x o=m' E H t s x:=rfl
def ayG(E:Env)(H:ab)(t z:TypeId)(s x:ay):LN E H t s x (j z)=rT E H t z s x:=rfl
def ayH(E:Env)(R:Fr)(H:ab)(s x:Operand)(t t2:TypeId):dF E R H (.call ⟨.builtin .append,#[s,x],#[t,t2]⟩)=LM E H t t2 (bw E R s) (bw E R x) (tR E t):=by simp only[dF,LM];cases tR E t<;>rfl
def ayI(E:Env)(R:Fr)(H:ab)(d x:Operand)(t t2:TypeId):dF E R H (.call ⟨.builtin .copy,#[d,x],#[t,t2]⟩)=LN E H t (bw E R d) (bw E R x) (tR E t):=by simp only[dF,LN];cases tR E t<;>rfl
def Rr(H:ab):ay→dE
 |.ptr c _ _ 0=>match H[c]? with
  |some (.iter s pos)=>if pos<s.length then
   j (.bl [.bool ah,.int .i64 pos,.int .i32 (na ⟨⟨s⟩⟩ pos).1],H.set c (.iter s (pos+(na ⟨⟨s⟩⟩ pos).2)))else j (.bl [.bool J],H)
  |_=>o
 |_=>o
def ayJ(E:Env)(R:Fr)(H:ab)(it:Operand):dF E R H (.next it ah)=Rr H (bw E R it):=by
 unfold Rr;simp only[dF];split
 next h=>rw[h];rfl
 next h=>
  split
  next c g r aV=>exact absurd aV (h c g r rfl)
  ·rfl
def ayK(H:ab)(c g r:Nat):Rr H (.ptr c g r 0)=match H[c]? with
 |some (.iter s pos)=>if pos<s.length then
  j (.bl [.bool ah,.int .i64 pos,.int .i32 (na ⟨⟨s⟩⟩ pos).1],H.set c (.iter s (pos+(na ⟨⟨s⟩⟩ pos).2)))else j (.bl [.bool J],H)
 |_=>o:=rfl
def ayL:=gl @ap1 @apY @ap2 @ap3 @apX @apW @apU @apV @ap4 @aq1 @aq2 @aq3 @aq4 @aq5 @aq6 (bq @aq7 @aq8 @aq9 (aC @aq_ @ara))
def ayM:=gl @arb @aq' @at6 @at7 @at8 @at9 @aua @at2 @at4 @at5 @aqg @aqh @aqi @aqb @aqc (bq @aqd @aqe @aqf (aC @aqn @aqo))
def ayN:=gl @aqp @aqj @aqk @aql @aqm @asN @asO @asP @asQ @auV @auT @auU @asR @asS @asT (bq @asU @asV @asW (aC @asX @asY))
def ayO:=gl @asZ @as0 @as1 @as2 @as3 @as4 @as5 @as6 @as7 @as_ @ava @au' @au_ @ata @atb (bq @atq @att @atr (aC @atw @atA))
def ayP:=gl @atz @aty @aqA @aqB @aqC @aqD @aqE @aqF @aqG @aqH @aqI @aqJ @aqK @aqL @aqM (bq @aqN @aqO @aqP (aC @aqQ @aqR))
def ayQ:=gl @aqS @aqT @aqU @aqV @aqW @aqZ @aq0 @aqz @aqx @aqy @avs @HR @Br @avm @avn (bq @avo @avp @avq (aC @avr @aqt))
def ayR:=gl @aqu @aqv @aqq @aqr @aqs @aqw @aul @aum @auJ @auK @auL @auM @auN @auO @auP (bq @auQ @auR @auS (aC @atL @ast))
def ayS:=gl @atO @at3 @asy @asz @asA @asB @asC @asD @asE @asF @asu @asv @asw @asx @YK (bq @asG @asH @asI (aC @asJ @asK))
def ayT:=gl @YL @asL @YM @asM @QP @YN @QQ @arh @ari @arj @ark @arl @arm @arc @ard (bq @are @arf @arn (aC @aro @YG))
def ayU:=gl @arp @arq @arr @ars @art @aru @arv @arw @arx @ary @arz @arA @arB @arC @arD (bq @arE @arF @arG (aC @arH @arI))
def ayV:=gl @arJ @arK @arL @arM @arP @arR @arS @arT @arU @arV @arW @arX @arY @arZ @YH (bq @ar0 @YI @ar1 (aC @ar2 @ar3))
def ayW:=gl @ar4 @YJ @ar5 @ar6 @ar7 @ar8 @ar9 @ar_ @ar' @asa @asb @asc @asd @ase @asf (bq @asg @ash @asi (aC @asj @asl))
def ayX:=gl @asm @asn @aso @asp @asq @asr @ass @HK @aun @auq @au1 @au0 @avb @avc @avd (bq @avh @avi @avj (aC @avk @avl))
def ayY:=gl @au5 @au7 @au8 @au9 @Ze @Zf @mQ @atS @atU @atT @atV @atW @atX @atY @atZ (bq @at0 @at1 @atP (aC @atQ @auf))
def ayZ:=gl @aug @auh @aui @auj @auk @aub @auc @aud @aue @atM @atN @as8 @au3 @avu @avv (bq @avw @Zg @avx (aC @avy @avz))
def ay0:=gl @avA @avE @avF @avG @avH @avI @avJ @avL @avM @avP @avQ @avR @avS @avT @avU (bq @avV @avW @avX (aC @avY @avZ))
def ay1:=gl @av0 @av1 @av2 @av3 @av4 @av5 @av6 @av7 @av8 @av9 @Zk @avN @avO @atx @awa (bq @awb @Ri @awc (aC @Zl @Zm))
def ay2:=gl @awp @awq @Zn @awd @awe @Rk @awf @awg @awh @awi @awj @awk @awl @awm @awn (bq @awo @awr @aws (aC @awt @awu))
def ay3:=gl @awv @aww @awx @awy @awz @awA @awB @awC @awD @awE @awF @awG @awH @awI @awJ (bq @awK @awL @awM (aC @awN @awO))
def ay4:=gl @awP @awQ @awR @awS @awT @awU @awV @awW @awX @awY @awZ @aw0 @aw1 @aw2 @aw5 (bq @aw6 @aw7 @aw9 (aC @aw_ @aw'))
def ay5:=gl @axa @axb @avf @avg @arN @arO @arQ @ato @atp @atu @atv @aqX @aqY @atc @atd (bq @ate @atf @atg (aC @atj @ati))
def ay6:=bq @ath @atk @atl (bq @atm @atn @ats @avK)
def ay7:=aC @zi.{0,0} (aC @tp.{0,0} (aC @List.filter_cons.{0} (aC @List.filter_nil.{0} (aC @mx.{0} (aC @zj.{0} (aC @Rs.{0} (aC @Gv.{0} (aC @vd.{0,0} (aC @List.foldl_nil.{0,0} (aC @List.toList_toArray.{0} (aC @rc.{0} (aC @kp.{0} (aC @List.getElem?_toArray.{0} (aC @eH.{0,0} (aC @Option.map_none.{0,0} (aC @Rb.{0,0} (aC @Option.bind_none.{0,0} (aC @jQ.{0} (@Option.getD_none.{0})))))))))))))))))))
def ay8:=aC @Rg.{0} (aC @Option.isSome_none.{0} (aC @Ra.{0} (aC @gk (aC @List.all_nil.{0} (aC @Ea.{0} (aC @vF.{0} (aC @hb.{0} (aC @dC.{0} (aC @Bw (aC @ks (aC @zk (aC @mb (aC @Bool.or_true (aC @Bool.true_or (aC @yW (aC @D3 (aC @LO (aC @sD (@DV.{0})))))))))))))))))))
def ay9:=aC @Rt.{0} (aC @fr (aC @cJ (aC @da.{0} (aC @dS.{0} (aC @mE.{0,0} (aC @r7 (aC @List.range'_zero (aC @List.range'_one (aC @Nat.lt_irrefl (aC @cS (aC @ny (aC @Nat.zero_lt_succ (aC @Int.natCast_nonneg (aC @i6.{0} (aC @List.contains_nil.{0} (aC @List.contains_cons.{0} (aC @List.elem_nil.{0} (aC @Dr.{0} (@Ru)))))))))))))))))))
def ay_:=aC @List.getElem?_nil.{0} (aC @br.{0} (aC @List.append_eq.{0} (aC @HW.{0} (aC @List.set_cons_succ.{0} (aC @List.set_nil.{0} (aC @kl.{0} (aC @dK.{0} (aC @fQ.{0,0} (aC @Bool.cond_true_left (aC @Bool.cond_false_right (aC @Bool.cond_false_left (aC @Bool.cond_true_right (aC @Int.not_lt (aC @Int.not_le (aC @UInt8.ofNat_toNat (aC @Classical.not_not (aC @tZ.{0} (aC @Eh.{0} (@Pb.{0})))))))))))))))))))
def ay'{E:Env}{aO:dY}{H:ab}{f c g a6 n m aD:Nat}{bW:aZ}{rows e3:cb}{ex gK:Bool}{h:aZ→List Chunk→Option (ay×List Chunk)}(he:E.ext f=j h)(aT:H[c]?=j (.af aD g rows ex))(has:bI bW=[])
  (aj:h (.ref 0 g 0 n::bW) [.af aD g rows ex]=j (.ref 0 a6 0 m,[.af aD a6 e3 gK])):
  dy E aO f (.ref c g 0 n::bW) H=j (.ref c a6 0 m,H.set c (.af aD a6 e3 gK)):=by
 have p:∀aY,cP aY bW=bW:=λ aY=>(gx aY).2 bW has
 have dA:=sx aT (by rfl);unfold dy;simp[fg,he,bI,bj,dA,cP,cB,bD,aT,Chunk.c2,has,p,aj,Chunk.refs,reach,ev,dG]
end Go.VI
