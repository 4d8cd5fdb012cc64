/- A region that draws its order, whole; code; functions. -/
import Derived.Test.YtndpneieplopaaaGreatDoorEngQ
import Derived.RangeFuncNested
import Derived.RangeFuncCalls
import Derived.TacticsIn
import Derived.OrdersIn
set_option linter.unusedSimpArgs false
set_option linter.unusedVariables false
noncomputable section
namespace Go.Eng
inductive oi(P:Program):List aY->Nat->Tm->AH->List bR->Tm->AH->Prop where
 |nil (r:Nat) (T:Tm) (h:AH):oi P [] r T h [] T h
 |cons {o:aY} {l:List aY} {r:Nat} {T:Tm} {h:AH} {s:bR} {ss:List bR} {T':Tm} {h':AH} (cl:cI) (hcl:HOk P cl) (hs:nX cl o r T h=some s) (hr:oi P l (r+1) (lh T o.dst s.v) s.h' ss T' h'):oi P (o::l) r T h (s::ss) T' h'
theorem zw{P:Program}{cl:cI}(hcl:HOk P cl):∀(l:List aY) (r:Nat) (T:Tm) (h:AH) (ss:List bR) (T':Tm) (h':AH),Ps cl l r T h=some (ss,T',h')->oi P l r T h ss T' h'
 |[],r,T,h,ss,T',h',hd=>by
  simp[Ps]at hd;obtain⟨rfl,rfl,rfl⟩:=hd;exact .nil _ _ _
 |o::l,r,T,h,ss,T',h',hd=>by
  unfold Ps at hd;split at hd;case h_2=>cases hd
  rename_i s hs;split at hd;case h_2=>cases hd
  rename_i ss1 T1 h1 mj;cases hd;exact .cons cl hcl hs (zw hcl l _ _ _ _ _ _ mj)
theorem pO{P:Program}:∀(l:List aY) (r:Nat) (T:Tm) (h:AH) (ss:List bR) (T':Tm) (h':AH),oi P l r T h ss T' h'->
  ∃(Ts:Nat->Tm) (Hs:Nat->AH),Ts 0=T/\Hs 0=h/\Ts l.length=T'/\Hs l.length=h'/\ss.length=l.length/\
   ∀i o s,l[i]?=some o->ss[i]?=some s->(∃cl,HOk P cl/\DSp cl o (r+i) (Ts i) (Hs i) s)/\Ts (i+1)=lh (Ts i) o.dst s.v/\Hs (i+1)=s.h'
 |[],r,T,h,ss,T',h',hd=>by
  cases hd;exact⟨λ_=>T,λ_=>h,rfl,rfl,rfl,rfl,rfl,λi o s ho=>by simp at ho⟩
 |o::l,r,T,h,ss,T',h',hd=>by
  cases hd;rename_i s ss1 cl hcl hs mj;obtain⟨Ts,Hs,e1,e2,e3,e4,e5,e6⟩:=pO l (r+1) _ _ _ _ _ mj;have hsp:=Ug hs;refine⟨λi=>match i with|0=>T|i+1=>Ts i,λi=>match i with|0=>h|i+1=>Hs i,rfl,rfl,e3,e4,by simp[e5],λi o' s' ho' hs'=>?_⟩;cases i with
  |zero=>
   simp at ho' hs';subst ho';subst hs';exact⟨⟨cl,hcl,hsp⟩,e1,e2⟩
  |succ i=>
   simp at ho' hs';obtain⟨a1,a2,a3⟩:=e6 i o' s' ho' hs';exact⟨by rw[show r+(i+1)=r+1+i by omega];exact a1,a2,a3⟩
theorem wx{o:aY}{bits:Nat}{s:bR}:∀(l:List (aY×bR)) (k:Nat),JC o bits s k l=true->∀i p q,l[i]?=some (p,q)->Nat.testBit bits (k+i)=true\/(l8 p o=true/\aU q.k s.k=true)
 |[],k,h,i,p,q,hi=>by simp at hi
 |(p0,q0)::l,k,h,i,p,q,hi=>by
  simp only[JC,amZ,anV]at h;cases i with
  |zero=>simp at hi;obtain⟨rfl,rfl⟩:=hi;exact h.1
  |succ i=>
   simp at hi;have:=wx l (k+1) h.2 i p q hi;rwa [show k+1+i=k+(i+1)by omega]at this
theorem rU:∀(l:List (aY×Nat)) (ss:List bR) (acc:List (aY×bR)),uJ l ss acc=true->∀j o bits s,l[j]?=some (o,bits)->ss[j]?=some s->
  ∀i p q,(acc++(l.map (·.1)).zip ss)[i]?=some (p,q)->i<acc.length+j->Nat.testBit bits i=true\/(l8 p o=true/\aU q.k s.k=true)
 |[],ss,acc,h,j,o,bits,s,hj,hs,i,p,q,hi,hlt=>by simp at hj
 |(o0,b0)::l,[],acc,h,j,o,bits,s,hj,hs,i,p,q,hi,hlt=>by simp at hs
 |(o0,b0)::l,s0::ss,acc,h,j,o,bits,s,hj,hs,i,p,q,hi,hlt=>by
  simp only[uJ,amZ]at h;cases j with
  |zero=>
   simp at hj hs;obtain⟨rfl,rfl⟩:=hj;subst hs;rw[aod,am1 (by omega)]at hi;have:=wx acc 0 h.1 i p q hi;rwa [aoe]at this
  |succ j=>
   simp at hj hs;refine rU l ss (acc++[(o0,s0)]) h.2 j o bits s hj hs i p q ?_ (by simp;omega);simpa using hi
def cJ(acc:Array Nat)(o:Oper):Array Nat:=acc.push (o.after.foldl (λs e=>if Region.binds .any e then s ||| 2^e.on ||| acc.getD e.on 0 else s) 0)
theorem pR(ops:Array Oper):Region.before ops=ops.toList.foldl cJ #[]:=by
 unfold Region.before;rw[<-Array.foldl_toList];rfl
theorem mB:∀(l:List Oper) (acc:Array Nat) (k:Nat),k<acc.size->(l.foldl cJ acc).getD k 0=acc.getD k 0
 |[],acc,k,h=>rfl
 |o::l,acc,k,h=>by
  simp only[an1];rw[mB l _ k (by simp[cJ];omega)];simp[cJ,Array.getElem?_push,Nat.ne_of_lt h]
theorem qU:∀(l:List Oper) (acc:Array Nat),(l.foldl cJ acc).size=acc.size+l.length
 |[],acc=>by simp
 |o::l,acc=>by simp only[an1];rw[qU l];simp[cJ];omega
theorem Dh(acc:Array Nat)(j:Nat):∀(l:List Edge) (s0:Nat),Nat.testBit (l.foldl (λs e=>if Region.binds .any e then s ||| 2^e.on ||| acc.getD e.on 0 else s) s0) j=true->
  Nat.testBit s0 j=true\/∃e∈l,Region.binds .any e=true/\(e.on=j\/Nat.testBit (acc.getD e.on 0) j=true)
 |[],s0,h=>.inl h
 |e::l,s0,h=>by
  simp only[an1]at h;rcases Dh acc j l _ h with h1|⟨e',h1,h2⟩
  ·split at h1
   ·rename_i hb;simp only[aov,anV]at h1;rcases h1 with(h1|h1)|h1
    ·exact .inl h1
    ·refine .inr ⟨e,by simp,hb,.inl ?_⟩;rw[aol]at h1;simpa using h1
    ·exact .inr ⟨e,by simp,hb,.inr h1⟩
   ·exact .inl h1
  ·exact .inr ⟨e',by simp[h1],h2⟩
theorem rE:∀(l:List Oper) (acc:Array Nat) (i:Nat) (o:Oper),l[i]?=some o->∀j,Nat.testBit ((l.foldl cJ acc).getD (acc.size+i) 0) j=true->
  ∃e∈o.after,Region.binds .any e=true/\(e.on=j\/Nat.testBit ((l.foldl cJ acc).getD e.on 0) j=true)
 |[],acc,i,o,ho,j,h=>by simp at ho
 |o0::l,acc,i,o,ho,j,h=>by
  simp only[an1]at h ⊢;cases i with
  |zero=>
   simp at ho;subst ho;have hsz:acc.size<(cJ acc o0).size:=by simp[cJ]
   rw[aoy,mB l _ _ hsz]at h;have h0:(cJ acc o0).getD acc.size 0=o0.after.foldl (λs e=>if Region.binds .any e then s ||| 2^e.on ||| acc.getD e.on 0 else s) 0:=by simp[cJ]
   rw[h0,<-Array.foldl_toList]at h;rcases Dh acc j o0.after.toList 0 h with h1|⟨e,h1,h2,h3⟩
   ·simp at h1
   ·refine⟨e,by simpa using h1,h2,h3.imp id λh4=>?_⟩;have hlt:e.on<acc.size:=by
     rcases aoi e.on acc.size with h5|h5
     ·exact h5
     ·rw[show acc.getD e.on 0=0 by simp[Array.getElem?_eq_none h5]]at h4;simp at h4
    rw[mB l _ _ (by simp[cJ];omega)];simpa[cJ,Array.getElem?_push,Nat.ne_of_lt hlt]using h4
  |succ i=>
   simp at ho;have:=rE l (cJ acc o0) i o ho j (by
    rw[show(cJ acc o0).size+i=acc.size+(i+1)by simp[cJ];omega];exact h)
   exact this
theorem oV:∀(l:List Oper) (k:Nat),ap4 k l=true->∀i o,l[i]?=some o->∀e∈o.after,Region.binds .any e=true->e.on<k+i
 |[],k,h,i,o,ho=>by simp at ho
 |o0::l,k,h,i,o,ho=>by
  simp only[ap4,amZ]at h;cases i with
  |zero=>
   simp at ho;subst ho;intro e he hb;have:=Array.all_eq_true_iff_forall_mem.1 h.1 e he;simpa[hb]using this
  |succ i=>
   simp at ho;intro e he hb;have:=oV l (k+1) h.2 i o ho e he hb;omega
theorem wJ{P:Program}{nt:Nat}{ops:Array Oper}:∀(l:List Oper) (al:List aY),jY P nt ops l=some al->al.length=l.length/\∀(i:Nat) o ao,l[i]?=some o->al[i]?=some ao->Ef P nt ops o=some ao
 |[],al,h=>by simp[jY]at h;subst h;simp
 |o::l,al,h=>by
  unfold jY at h;split at h
  ·rename_i x l' h1 h2;cases h;obtain⟨e1,e2⟩:=wJ l l' h2;refine⟨by simp[e1],λi o' ao' ho hao=>?_⟩;cases i with
   |zero=>simp at ho hao;subst ho;subst hao;exact h1
   |succ i=>simp at ho hao;exact e2 i o' ao' ho hao
  ·cases h
instance:Inhabited bR:=⟨⟨.leaf,⟨.leaf,0⟩,.undef,.pure⟩⟩
def unl(listed:Array Bool):Nat:=(listed.toList.filter (! ·)).length
section
variable {P:Program} {nt:Nat} {ds:List Deferred} {own:Nat->Prop} {β:Bl} {T:Tm} {h:AH} {a:Act} {w:World}
theorem yy{ops:Array Oper}{L:List (aY×Nat)}{π:Nat->Nat}{T':Tm}{h':AH}(x9:P.follows .mixedOrders=true)(hd:DL P nt ops L π){ss:List bR}(fc:oi P (L.map (·.1)) h.nx T ⟨h.H,h.nx+L.length⟩ ss T' h')(xU:∀(i j:Nat) (p o:aY) (q s:bR) (bits bp:Nat),i<j->L[i]?=some (p,bp)->ss[i]?=some q->L[j]?=some (o,bits)->ss[j]?=some s->Nat.testBit bits i=true\/(l8 p o=true/\aU q.k s.k=true))(hs:Sim nt ds own β T h a w)
  {Q:Exit->Act->World->Prop} (hQ:∀β' a' w',Sim nt ds own β' T' h' a' w'->bJ own β h w β' h' w'->Q .normal a' w'):wpAny P .any ops Q ops.size (Array.replicate ops.size false) a { w with drawn:=w.drawn+1 }:=by
 have hzl:L.length=ops.size:=hd.len;rw[hzl]at fc;obtain⟨Ts,Hs,e1,e2,e3,e4,e5,e6⟩:=pO _ _ _ _ _ _ _ fc;rw[aor,hzl]at e3 e4 e5;let n:=ops.size
 let o:Nat->aY:=λi=>(L.getD i default).1
 let s:Nat->bR:=λi=>ss.getD i default
 let b:Nat->Nat:=λi=>(L.getD i default).2
 have hLg:∀i,i<n->L[i]?=some (o i,b i):=λi hi=>by simp[o,b,show i<L.length by omega]
 have ho:∀i,i<n->(L.map (·.1))[i]?=some (o i):=λi hi=>by rw[anb,hLg i hi];rfl
 have hsg:∀i,i<n->ss[i]?=some (s i):=λi hi=>by simp[s,show i<ss.length by omega]
 have hLi:∀i x,L[i]?=some x->i<n:=λi x hx=>by have:=(amV.1 hx).1;omega
 have acF:∀i,i<n->∀oo,ops[π i]?=some oo->∀j,Nat.testBit (b i) j=true->∃e∈oo.after,Region.binds .any e=true/\(e.on=π j\/∃k,k<n/\π k=e.on/\Nat.testBit (b k) j=true):=by
  intro i hi oo hoo j hb;obtain⟨e,h1,h2,h3⟩:=hd.bef i _ (hLg i hi) oo hoo j hb;refine⟨e,h1,h2,h3.imp id ?_⟩;rintro⟨k,y,hk,h4,h5⟩;have hkn:=hLi k y hk;rw[hLg k hkn]at hk;cases hk;exact⟨k,hkn,h4,h5⟩
 have aqx:∀i j,π i=π j->i=j:=by
  intro i j hij;rcases aoi i ops.size with hi|hi<;>rcases aoi j ops.size with hj|hj
  ·exact hd.inj i j hi hj hij
  ·have:=hd.lt i hi;rw[hij,hd.out j hj]at this;omega
  ·have:=hd.lt j hj;rw[<-hij,hd.out i hi]at this;omega
  ·rw[hd.out i hi,hd.out j hj]at hij;exact hij
 have c:mc P nt ops π n h.nx o s b Ts Hs:=by
  refine⟨λi hi=>hd.cop i _ (hLg i hi),λi hi=>(e6 i _ _ (ho i hi) (hsg i hi)).1,λi hi=>(e6 i _ _ (ho i hi) (hsg i hi)).2.1,λi hi=>(e6 i _ _ (ho i hi) (hsg i hi)).2.2,?_,by rw[e2];exact amY _,?_⟩
  ·intro i j hij hj;exact xU i j _ _ _ _ _ _ hij (hLg i (by omega)) (hsg i (by omega)) (hLg j hj) (hsg j hj)
  ·intro id hid;rw[e2];exact hs.hp.dead hid
 have hup:∀i,i<n->(Hs i).nx<=(Hs (i+1)).nx:=by
  intro i hi;obtain⟨cl,_,h1⟩:=c.step i hi;rw[c.Hn i hi];generalize s i=t at h1;cases h1<;>simp only[bR.h']<;>first|exact amY _|assumption
 have hnx:=c.nxm hup;have key:∀(fuel:Nat) (listed:Array Bool) (β':Bl) (G:HF) (m:Nat) (a':Act) (w':World),listed.size=n->unl listed<=fuel->Inv own β w nt ds n h.nx o s b Ts Hs (λi=>listed.getD (π i) false=true) β' G m a' w'->wpAny P .any ops Q fuel listed a' w':=by
  intro fuel;have least:∀(listed:Array Bool),listed.size=n->(∃i,i<n/\listed.getD (π i) false=false)->∃i,i<n/\listed.getD (π i) false=false/\∀j,j<i->listed.getD (π j) false=true:=by
   intro listed hsz ⟨i,hi,hf⟩;induction i using Nat.strongRecOn with
   |_ i ih=>
    by_cases hex:∃j,j<i/\listed.getD (π j) false=false
    ·obtain⟨j,hj,hjf⟩:=hex;exact ih j hj (by omega) hjf
    ·refine⟨i,hi,hf,λj hj=>?_⟩;cases hq:listed.getD (π j) false
     ·exact absurd ⟨j,hj,hq⟩ hex
     ·rfl
  have done:∀(listed:Array Bool) (β':Bl) (G:HF) (m:Nat) (a':Act) (w':World),listed.size=n->Inv own β w nt ds n h.nx o s b Ts Hs (λi=>listed.getD (π i) false=true) β' G m a' w'->Region.ready .any ops listed=[]->Q .normal a' w':=by
   intro listed β' G m a' w' hsz v hr;have eQ:∀i,i<n->listed.getD (π i) false=true:=by
    intro i hi;cases hq:listed.getD (π i) false with
    |true=>rfl
    |false=>
     exfalso;obtain⟨k,hk1,hk2,hk3⟩:=least listed hsz ⟨i,hi,hq⟩;have:π k∈Region.ready .any ops listed:=by
      rw[mem_ready];have hk':π k<ops.size:=hd.lt k hk1;refine⟨by have:π k<listed.size:=(by omega);simp[this]at hk2 ⊢; exact hk2,ops[π k],by simp[hk'],λe he hb=>?_⟩;obtain⟨q,hq1,hq2⟩:=hd.Xs k _ (by simp[hk']) e he hb;rw[hq2];exact hk3 q hq1
     rw[hr]at this;cases this
   have hmn:∀x,G x=(Hs n).H.get x:=by
    have xV:∀q,m<=q->q<=n->(Hs q).nx=(Hs m).nx/\(∀x,(∀k,m<=k->k<q->fA s k->x≠h.nx+k)->(Hs q).H.get x=(Hs m).H.get x)/\(∀k,m<=k->k<q->∀r cs,(s k).k =.alloc r cs->(Hs q).H.get (h.nx+k)=some cs):=by
     intro q hq;induction hq with
     |refl=>intro _;exact⟨rfl,λ_ _=>rfl,λk h1 h2=>by omega⟩
     | @step q hq ih=>
      intro hqn;have hq':m<=q:=hq;have nU:q<n:=hqn;obtain⟨a1,a2,a3⟩:=ih (by omega);have hnE:¬gJ s q:=λhE=>by have:=v.CN q nU hE (eQ q nU);omega
      by_cases hA:fA s q
      ·obtain⟨r,cs,hr⟩:=hA;have hH:=(c.als nU hr).2;refine⟨by rw[hH];exact a1,λx hx=>?_,λk h1 h2 r' cs' hr'=>?_⟩
       ·rw[hH,PM.ch _ _ (hx q hq' (by omega) ⟨r,cs,hr⟩)];exact a2 x (λk h1 h2=>hx k h1 (by omega))
       ·by_cases hkq:k=q
        ·subst hkq;rw[hr]at hr';cases hr';rw[hH,PM.cq]
        ·rw[hH,PM.ch _ _ (by omega)];exact a3 k h1 (by omega) r' cs' hr'
      ·have hH:=c.stays nU hnE hA;rw[hH];refine⟨a1,λx hx=>a2 x (λk h1 h2=>hx k h1 (by omega)),λk h1 h2 r' cs' hr'=>?_⟩;by_cases hkq:k=q
       ·subst hkq;exact absurd ⟨r',cs',hr'⟩ hA
       ·exact a3 k h1 (by omega) r' cs' hr'
    obtain⟨_,a2,a3⟩:=xV n v.mle (amY _);intro x;by_cases hx:∃k,m<=k/\k<n/\fA s k/\x=h.nx+k
    ·obtain⟨k,h1,h2,⟨r,cs,hr⟩,rfl⟩:=hx;rw[v.g2 k h1 h2 (eQ k h2) r cs hr,a3 k h1 h2 r cs hr]
    ·have hx':∀k,m<=k->k<n->fA s k->x≠h.nx+k:=λk h1 h2 h3 he=>hx ⟨k,h1,h2,h3,he⟩
     rw[a2 x hx'];by_cases hr:h.nx+m<=x/\x<h.nx+n
     ·have g3:=v.g3 (x-h.nx) (by omega) (by omega) (.inr (λhA=>hx' (x-h.nx) (by omega) (by omega) hA (by omega)));have m0:=v.m0 (x-h.nx) (by omega) (by omega);rw[show h.nx+(x-h.nx)=x by omega]at g3 m0;rw[g3,m0]
     ·exact v.g1 x (by omega)
   have Jd:(Hs n).nx=(Hs m).nx:=by
    have:∀q,m<=q->q<=n->(Hs q).nx=(Hs m).nx:=by
     intro q hq;induction hq with
     |refl=>intro _;rfl
     | @step q hq ih=>
      intro hqn;have nU:q<n:=hqn;have hq':m<=q:=hq;have hnE:¬gJ s q:=λhE=>by have:=v.CN q nU hE (eQ q nU);omega
      by_cases hA:fA s q
      ·obtain⟨r,cs,hr⟩:=hA;rw[(c.als nU hr).2];exact ih (by omega)
      ·rw[c.stays nU hnE hA];exact ih (by omega)
    exact this n v.mle (amY _)
   have hGe:G=λx=>(Hs n).H.get x:=funext hmn
   have kH:=v.sim;have htm:=v.tm;have htr:=v.trans;rw[hGe]at kH htm htr;rw[<-Jd]at kH;rw[show Hs n=h' from e4]at kH htm htr Jd;refine hQ β' a' w' ⟨⟨kH.fresh,kH.lt,kH.mf,kH.obj,kH.inj⟩,v.sz,λt u hu=>htm t u ?_,v.df⟩ ?_
   ·have hu':(Ts n).get t=some u:=by rw[show Ts n=T' from e3];exact hu
    rcases c.text n (amY _) t u hu' with⟨k,h1,h2,h3,h4,h5⟩|⟨h1,h2⟩
    ·exact .inl ⟨k,h1,eQ k h1,h3,h4,λi' b1 _ b3=>h5 i' b1 b1 b3⟩
    ·exact .inr ⟨λi b1 _=>h1 i b1 b1,h2⟩
   ·have U5:=hnx m v.mle;have h0:(λx=>(Hs 0).H.get x)=λx=>h.H.get x:=by rw[e2]
    rw[h0]at htr;refine⟨htr.ext,v.low,by rw[Jd];omega,htr.size,htr.du,htr.live,htr.shape,htr.os,htr.tape,htr.output⟩
  have abS:∀(listed:Array Bool) (β':Bl) (G:HF) (m:Nat) (a':Act) (w':World),listed.size=n->Inv own β w nt ds n h.nx o s b Ts Hs (λi=>listed.getD (π i) false=true) β' G m a' w'->∀i∈Region.ready .any ops listed,∀K:Act->World->Prop,
    (∀β'' G'' m'' a'' w'',Inv own β w nt ds n h.nx o s b Ts Hs (λj=>(listed.setIfInBounds i true).getD (π j) false=true) β'' G'' m'' a'' w''->K a'' w'')->wpOp P ops Q i K a' w':=by
   intro listed β' G m a' w' hsz v i hi K hK;obtain⟨hun,oo,hoo,abF⟩:=mem_ready.1 hi;have hin:i<n:=(anv.1 hoo).1;have hil:i<listed.size:=by omega
   obtain⟨p,hpn,hpi⟩:=hd.sur i hin;have hL:¬(listed.getD (π p) false=true):=by rw[hpi];simp[hil]at hun ⊢; exact hun
   have hP:∀j,Nat.testBit (b p) j=true->listed.getD (π j) false=true:=by
    intro j hj;obtain⟨e,h1,h2,h3⟩:=acF p hpn oo (by rw[hpi];exact hoo) j hj;have hle:=abF e h1 h2;rcases h3 with h3|⟨k,hk1,hk2,hk3⟩
    ·rw[<-h3];exact hle
    ·exact v.closed k hk1 (show listed.getD (π k) false=true by rw[hk2];exact hle) j hk3
   rw[<-hpi];refine v.step c hnx hpn hL hP λβ'' G'' m'' a'' w'' v'=>hK β'' G'' m'' a'' w'' ?_
   have heq:(λj=>j=p\/listed.getD (π j) false=true)=(λj=>(listed.setIfInBounds i true).getD (π j) false=true):=by
    funext j
    apply propext;by_cases hj:π j=i
    ·have hjp:j=p:=aqx j p (hj.trans hpi.symm);simp[hil,hj,hjp,hpi]
    ·have hjp:j≠p:=λhe=>hj (by rw[he,hpi])
     simp[hjp,anU (Ne.symm hj)]
   rw[heq]at v';exact v'
  induction fuel with
  |zero=>
   intro listed β' G m a' w' hsz hu v;have hr:Region.ready .any ops listed=[]:=by
    cases hq:Region.ready .any ops listed with
    |nil=>rfl
    |cons i r=>
     exfalso;obtain⟨hun,oo,hoo,_⟩:=mem_ready.1 (show i∈Region.ready .any ops listed by rw[hq];simp);have hin:i<listed.size:=by rw[hsz];exact(anv.1 hoo).1
     have:false∈listed.toList.filter (! ·):=by
      rw[List.mem_filter];refine⟨?_,rfl⟩;simp[hin]at hun;rw[<-hun];simp
     unfold unl at hu;have abI:=am8 (by omega:(listed.toList.filter (! ·)).length=0);rw[abI]at this;cases this
   exact⟨hr,done listed β' G m a' w' hsz v hr⟩
  |succ fuel ih=>
   intro listed β' G m a' w' hsz hu v;refine⟨done listed β' G m a' w' hsz v,λi hi=>?_⟩;refine abS listed β' G m a' w' hsz v i hi _ λβ'' G'' m'' a'' w'' v'=>ih _ β'' G'' m'' a'' w'' (by simp[hsz]) ?_ v'
   obtain⟨hun,oo,hoo,_⟩:=mem_ready.1 hi;have hin:i<listed.size:=by rw[hsz];exact(anv.1 hoo).1
   have hfi:listed[i]=false:=by simpa[hin]using hun
   have hlt:unl (listed.setIfInBounds i true)<unl listed:=by
    unfold unl;rw[Array.toList_setIfInBounds];have:∀(l:List Bool) (k:Nat),l[k]?=some false->((l.set k true).filter (! ·)).length<(l.filter (! ·)).length:=by
     intro l;induction l with
     |nil=>intro k hk;simp at hk
     |cons x l ihl=>
      intro k hk;cases k with
      |zero=>simp at hk;subst hk;simp
      |succ k=>simp at hk;have:=ihl k hk;cases x<;>simp<;>omega
    exact this _ i (by simp[hin,hfi])
   omega
 refine key ops.size (Array.replicate ops.size false) β (λx=>h.H.get x) 0 a { w with drawn:=w.drawn+1 } (by simp[n]) ?_ ?_
 ·unfold unl;have:=List.length_filter_le (! ·) (Array.replicate ops.size false).toList;simp
 ·have hnL:∀i,¬((Array.replicate ops.size false).getD (π i) false=true):=by
   intro i hq;by_cases hi:π i<ops.size
   ·simp[hi]at hq
   ·simp[hi]at hq
  have hp':=hs.hp;refine⟨⟨λid hid=>hp'.fresh id (by rw[e2]at hid;simp only at hid;omega),hp'.lt,hp'.mf,hp'.obj,hp'.inj⟩,hs.sz,hs.df,λi _ hq=>absurd hq (hnL i),aoo _,.inl rfl,λe _ _ hq=>absurd hq (hnL e),λx _=>by rw[e2],λj _ _ hq=>absurd hq (hnL j),λj _ _ _=>hp'.dead (by omega),λj _ _=>c.YN _ (by omega),λj _ _=>hp'.fresh _ (by omega),λid _=>rfl,λt u hu=>?_,?_⟩
  ·rcases hu with⟨i,_,hq,_⟩|⟨_,hq⟩
   ·exact absurd hq (hnL i)
   ·rw[e1]at hq;exact hs.tm t u hq
  ·rw[e2];exact⟨λ_ _ h=>h,amY _,λ_ _ _=>rfl,λ_ h=>.inl h,λ_ cur _ fz h=>⟨cur,fz,h,rfl,λ_=>rfl⟩,rfl,rfl,rfl⟩
end
section
variable {P:Program} {nt:Nat} {ds:List Deferred} {own:Nat->Prop} {β:Bl} {T:Tm} {h:AH} {a:Act} {w:World}
theorem yZ{ops:Array Oper}{π:Nat->Nat}{n:Nat}{o:Nat->aY}{s:Nat->bR}{b:Nat->Nat}{Ts:Nat->Tm}{Hs:Nat->AH}(c:mc P nt ops π n h.nx o s b Ts Hs){T':Tm}{h':AH}(e2:Hs 0=⟨h.H,h.nx+n⟩)(e3:Ts n=T')(e4:Hs n=h')
  (hnx:∀i,i<=n->h.nx+n<=(Hs i).nx) {Q:Exit->Act->World->Prop} (hQ:∀β' a' w',Sim nt ds own β' T' h' a' w'->bJ own β h w β' h' w'->Q .normal a' w')
  {listed:Array Bool} {β':Bl} {G:HF} {m:Nat} {a':Act} {w':World} (v:Inv own β w nt ds n h.nx o s b Ts Hs (λi=>listed.getD (π i) false=true) β' G m a' w') (eQ:∀i,i<n->listed.getD (π i) false=true):Q .normal a' w':=by
 have hmn:∀x,G x=(Hs n).H.get x:=by
  have xV:∀q,m<=q->q<=n->(Hs q).nx=(Hs m).nx/\(∀x,(∀k,m<=k->k<q->fA s k->x≠h.nx+k)->(Hs q).H.get x=(Hs m).H.get x)/\(∀k,m<=k->k<q->∀r cs,(s k).k =.alloc r cs->(Hs q).H.get (h.nx+k)=some cs):=by
   intro q hq;induction hq with
   |refl=>intro _;exact⟨rfl,λ_ _=>rfl,λk h1 h2=>by omega⟩
   | @step q hq ih=>
    intro hqn;have hq':m<=q:=hq;have nU:q<n:=hqn;obtain⟨a1,a2,a3⟩:=ih (by omega);have hnE:¬gJ s q:=λhE=>by have:=v.CN q nU hE (eQ q nU);omega
    by_cases hA:fA s q
    ·obtain⟨r,cs,hr⟩:=hA;have hH:=(c.als nU hr).2;refine⟨by rw[hH];exact a1,λx hx=>?_,λk h1 h2 r' cs' hr'=>?_⟩
     ·rw[hH,PM.ch _ _ (hx q hq' (by omega) ⟨r,cs,hr⟩)];exact a2 x (λk h1 h2=>hx k h1 (by omega))
     ·by_cases hkq:k=q
      ·subst hkq;rw[hr]at hr';cases hr';rw[hH,PM.cq]
      ·rw[hH,PM.ch _ _ (by omega)];exact a3 k h1 (by omega) r' cs' hr'
    ·have hH:=c.stays nU hnE hA;rw[hH];refine⟨a1,λx hx=>a2 x (λk h1 h2=>hx k h1 (by omega)),λk h1 h2 r' cs' hr'=>?_⟩;by_cases hkq:k=q
     ·subst hkq;exact absurd ⟨r',cs',hr'⟩ hA
     ·exact a3 k h1 (by omega) r' cs' hr'
  obtain⟨_,a2,a3⟩:=xV n v.mle (amY _);intro x;by_cases hx:∃k,m<=k/\k<n/\fA s k/\x=h.nx+k
  ·obtain⟨k,h1,h2,⟨r,cs,hr⟩,rfl⟩:=hx;rw[v.g2 k h1 h2 (eQ k h2) r cs hr,a3 k h1 h2 r cs hr]
  ·have hx':∀k,m<=k->k<n->fA s k->x≠h.nx+k:=λk h1 h2 h3 he=>hx ⟨k,h1,h2,h3,he⟩
   rw[a2 x hx'];by_cases hr:h.nx+m<=x/\x<h.nx+n
   ·have g3:=v.g3 (x-h.nx) (by omega) (by omega) (.inr (λhA=>hx' (x-h.nx) (by omega) (by omega) hA (by omega)));have m0:=v.m0 (x-h.nx) (by omega) (by omega);rw[show h.nx+(x-h.nx)=x by omega]at g3 m0;rw[g3,m0]
   ·exact v.g1 x (by omega)
 have Jd:(Hs n).nx=(Hs m).nx:=by
  have:∀q,m<=q->q<=n->(Hs q).nx=(Hs m).nx:=by
   intro q hq;induction hq with
   |refl=>intro _;rfl
   | @step q hq ih=>
    intro hqn;have nU:q<n:=hqn;have hq':m<=q:=hq;have hnE:¬gJ s q:=λhE=>by have:=v.CN q nU hE (eQ q nU);omega
    by_cases hA:fA s q
    ·obtain⟨r,cs,hr⟩:=hA;rw[(c.als nU hr).2];exact ih (by omega)
    ·rw[c.stays nU hnE hA];exact ih (by omega)
  exact this n v.mle (amY _)
 have hGe:G=λx=>(Hs n).H.get x:=funext hmn
 have kH:=v.sim;have htm:=v.tm;have htr:=v.trans;rw[hGe]at kH htm htr;rw[<-Jd]at kH;rw[show Hs n=h' from e4]at kH htm htr Jd;refine hQ β' a' w' ⟨⟨kH.fresh,kH.lt,kH.mf,kH.obj,kH.inj⟩,v.sz,λt u hu=>htm t u ?_,v.df⟩ ?_
 ·have hu':(Ts n).get t=some u:=by rw[show Ts n=T' from e3];exact hu
  rcases c.text n (amY _) t u hu' with⟨k,h1,h2,h3,h4,h5⟩|⟨h1,h2⟩
  ·exact .inl ⟨k,h1,eQ k h1,h3,h4,λi' b1 _ b3=>h5 i' b1 b1 b3⟩
  ·exact .inr ⟨λi b1 _=>h1 i b1 b1,h2⟩
 ·have U5:=hnx m v.mle;have h0:(λx=>(Hs 0).H.get x)=λx=>h.H.get x:=by rw[e2]
  rw[h0]at htr;refine⟨htr.ext,v.low,by rw[Jd];omega,htr.size,htr.du,htr.live,htr.shape,htr.os,htr.tape,htr.output⟩
theorem apF{ops:Array Oper}{π:Nat->Nat}{o:Nat->aY}{s:Nat->bR}{b:Nat->Nat}{Ts:Nat->Tm}{Hs:Nat->AH}(c:mc P nt ops π ops.size h.nx o s b Ts Hs)(aqx:∀i j,π i=π j->i=j)(sur:∀j,j<ops.size->∃i,i<ops.size/\π i=j){X:Nat->Nat->Prop}
  (acF:∀i,i<ops.size->∀oo,ops[π i]?=some oo->∀j,Nat.testBit (b i) j=true->(∃e∈oo.after,Region.binds .any e=true/\(e.on=π j\/∃k,k<ops.size/\π k=e.on/\Nat.testBit (b k) j=true))\/X i j)
  (hnx:∀i,i<=ops.size->h.nx+ops.size<=(Hs i).nx) {Q:Exit->Act->World->Prop} {listed:Array Bool} {β':Bl} {G:HF} {m:Nat} {a':Act} {w':World} (hsz:listed.size=ops.size)
  (v:Inv own β w nt ds ops.size h.nx o s b Ts Hs (λi=>listed.getD (π i) false=true) β' G m a' w') {i:Nat} (hi:i∈Region.ready .any ops listed) (acK:∀p j,p<ops.size->π p=i->X p j->listed.getD (π j) false=true) {K:Act->World->Prop}
  (hK:∀β'' G'' m'' a'' w'',Inv own β w nt ds ops.size h.nx o s b Ts Hs (λj=>(listed.setIfInBounds i true).getD (π j) false=true) β'' G'' m'' a'' w''->K a'' w''):wpOp P ops Q i K a' w':=by
 obtain⟨hun,oo,hoo,abF⟩:=mem_ready.1 hi;have hin:i<ops.size:=(anv.1 hoo).1;have hil:i<listed.size:=by omega
 obtain⟨p,hpn,hpi⟩:=sur i hin;have hL:¬(listed.getD (π p) false=true):=by rw[hpi];simp[hil]at hun ⊢; exact hun
 have hP:∀j,Nat.testBit (b p) j=true->listed.getD (π j) false=true:=by
  intro j hj;rcases acF p hpn oo (by rw[hpi];exact hoo) j hj with⟨e,h1,h2,h3⟩|hx
  ·have hle:=abF e h1 h2;rcases h3 with h3|⟨k,hk1,hk2,hk3⟩
   ·rw[<-h3];exact hle
   ·exact v.closed k hk1 (show listed.getD (π k) false=true by rw[hk2];exact hle) j hk3
  ·exact acK p j hpn hpi hx
 rw[<-hpi];refine v.step c hnx hpn hL hP λβ'' G'' m'' a'' w'' v'=>hK β'' G'' m'' a'' w'' ?_
 have heq:(λj=>j=p\/listed.getD (π j) false=true)=(λj=>(listed.setIfInBounds i true).getD (π j) false=true):=by
  funext j
  apply propext;by_cases hj:π j=i
  ·have hjp:j=p:=aqx j p (hj.trans hpi.symm);simp[hil,hj,hjp,hpi]
  ·have hjp:j≠p:=λhe=>hj (by rw[he,hpi])
   simp[hjp,anU (Ne.symm hj)]
 rw[heq]at v';exact v'
def Vu(ops:Array Oper)(L:List (aY×Nat))(π:Nat->Nat):Prop:=∀i x,L[i]?=some x->∀oo,ops[π i]?=some oo->∀e∈oo.after,Region.binds .any e=true->∃k,e.on=π k/\Nat.testBit x.2 k=true
theorem DK{o1 o2:Nat->aY}{s1 s2:Nat->bR}{Ts1 Ts2:Nat->Tm}{Hs1 Hs2:Nat->AH}{N:Nat}(hT:Ts1 0=Ts2 0)(hH:Hs1 0=Hs2 0)(ho:∀i,i<N->o1 i=o2 i)(hs:∀i,i<N->s1 i=s2 i)
  (h1:∀i,i<N->Ts1 (i+1)=lh (Ts1 i) (o1 i).dst (s1 i).v/\Hs1 (i+1)=(s1 i).h') (h2:∀i,i<N->Ts2 (i+1)=lh (Ts2 i) (o2 i).dst (s2 i).v/\Hs2 (i+1)=(s2 i).h'):∀i,i<=N->Ts1 i=Ts2 i/\Hs1 i=Hs2 i
 |0,_=>⟨hT,hH⟩
 |i+1,hi=>by
  obtain⟨a1,a2⟩:=h1 i (by omega);obtain⟨b1,b2⟩:=h2 i (by omega);have ih:=DK hT hH ho hs h1 h2 i (by omega);rw[a1,a2,b1,b2,ho i (by omega),hs i (by omega),ih.1];exact⟨rfl,rfl⟩
def sw(N:Nat)(π:Nat->Nat)(i:Nat):Nat:=if i=N then π (N+1)else if i=N+1 then π N else π i
theorem Oo{ops:Array Oper}{R:List (aY×Nat)}{x y:aY×Nat}{π:Nat->Nat}(hd:DL P nt ops (R++[x,y]) π)(hc:Vu ops (R++[x,y]) π)(uk:∀z∈R++[x,y],∀j,Nat.testBit z.2 j=true->j<R.length)
  {sr t1 t2:List bR} {T1 T2:Tm} {h1 h2:AH} (hl1:t1.length=2) (hl2:t2.length=2) (hsr:sr.length=R.length)
  (agK:oi P ((R++[x,y]).map (·.1)) h.nx T ⟨h.H,h.nx+ops.size⟩ (sr++t1) T1 h1) (agX:oi P ((R++[y,x]).map (·.1)) h.nx T ⟨h.H,h.nx+ops.size⟩ (sr++t2) T2 h2)
  (hp1:∀(i j:Nat) (p o:aY) (q s:bR) (bits bp:Nat),i<j->(R++[x,(y.1,y.2 ||| 2^R.length)])[i]?=some (p,bp)->(sr++t1)[i]?=some q->(R++[x,(y.1,y.2 ||| 2^R.length)])[j]?=some (o,bits)->(sr++t1)[j]?=some s->Nat.testBit bits i=true\/(l8 p o=true/\aU q.k s.k=true))
  (hp2:∀(i j:Nat) (p o:aY) (q s:bR) (bits bp:Nat),i<j->(R++[y,(x.1,x.2 ||| 2^R.length)])[i]?=some (p,bp)->(sr++t2)[i]?=some q->(R++[y,(x.1,x.2 ||| 2^R.length)])[j]?=some (o,bits)->(sr++t2)[j]?=some s->Nat.testBit bits i=true\/(l8 p o=true/\aU q.k s.k=true))
  (hs:Sim nt ds own β T h a w) {Q:Exit->Act->World->Prop} (hQ1:∀β' a' w',Sim nt ds own β' T1 h1 a' w'->bJ own β h w β' h1 w'->Q .normal a' w') (hQ2:∀β' a' w',Sim nt ds own β' T2 h2 a' w'->bJ own β h w β' h2 w'->Q .normal a' w'):
  wpAny P .any ops Q ops.size (Array.replicate ops.size false) a { w with drawn:=w.drawn+1 }:=by
 have hzl:R.length+2=ops.size:=by have:=hd.len;simp at this;omega
 obtain⟨N,hN⟩:∃N,N=R.length:=⟨_,rfl⟩;have hn:ops.size=N+2:=by omega
 obtain⟨Ts1,Hs1,a1,a2,a3,a4,a5,a6⟩:=pO _ _ _ _ _ _ _ agK;obtain⟨Ts2,Hs2,b1,b2,b3,b4,b5,b6⟩:=pO _ _ _ _ _ _ _ agX;have U_:((R++[x,y]).map (·.1)).length=ops.size:=by simp;omega
 have MA:((R++[y,x]).map (·.1)).length=ops.size:=by simp;omega
 rw[U_]at a3 a4 a5;rw[MA]at b3 b4 b5;obtain⟨L1,hL1⟩:∃L1,L1=R++[x,(y.1,y.2 ||| 2^R.length)]:=⟨_,rfl⟩;obtain⟨L2,hL2⟩:∃L2,L2=R++[y,(x.1,x.2 ||| 2^R.length)]:=⟨_,rfl⟩;have hm1:(R++[x,y]).map (·.1)=L1.map (·.1):=by rw[hL1];simp
 have hm2:(R++[y,x]).map (·.1)=L2.map (·.1):=by rw[hL2];simp
 rw[hm1]at a6;rw[hm2]at b6;rw[<-hL1]at hp1;rw[<-hL2]at hp2;have alr:L1.length=ops.size:=by rw[hL1];simp;omega
 have alN:L2.length=ops.size:=by rw[hL2];simp;omega
 let o1:Nat->aY:=λi=>(L1.getD i default).1
 let s1:Nat->bR:=λi=>(sr++t1).getD i default
 let bb1:Nat->Nat:=λi=>(L1.getD i default).2
 let o2:Nat->aY:=λi=>(L2.getD i default).1
 let s2:Nat->bR:=λi=>(sr++t2).getD i default
 let bb2:Nat->Nat:=λi=>(L2.getD i default).2
 have g1:∀i,i<ops.size->L1[i]?=some (o1 i,bb1 i):=λi hi=>by simp[o1,bb1,show i<L1.length by omega]
 have g2:∀i,i<ops.size->L2[i]?=some (o2 i,bb2 i):=λi hi=>by simp[o2,bb2,show i<L2.length by omega]
 have q1:∀i,i<ops.size->(L1.map (·.1))[i]?=some (o1 i):=λi hi=>by rw[anb,g1 i hi];rfl
 have q2:∀i,i<ops.size->(L2.map (·.1))[i]?=some (o2 i):=λi hi=>by rw[anb,g2 i hi];rfl
 have r1:∀i,i<ops.size->(sr++t1)[i]?=some (s1 i):=λi hi=>by simp only[s1,anh];rw[am0 (by omega)];rfl
 have r2:∀i,i<ops.size->(sr++t2)[i]?=some (s2 i):=λi hi=>by simp only[s2,anh];rw[am0 (by omega)];rfl
 have i1:∀i,i<N->L1[i]?=R[i]?:=λi hi=>by rw[hL1,anz (by omega)]
 have i2:∀i,i<N->L2[i]?=R[i]?:=λi hi=>by rw[hL2,anz (by omega)]
 have j1:L1[N]?=some x:=by rw[hL1,anj (by omega),hN];simp
 have k1:L1[N+1]?=some (y.1,y.2 ||| 2^R.length):=by rw[hL1,anj (by omega),show N+1-R.length=1 by omega];rfl
 have j2:L2[N]?=some y:=by rw[hL2,anj (by omega),hN];simp
 have k2:L2[N+1]?=some (x.1,x.2 ||| 2^R.length):=by rw[hL2,anj (by omega),show N+1-R.length=1 by omega];rfl
 have i0:∀i,i<N->(R++[x,y])[i]?=R[i]?:=λi hi=>by rw[anz (by omega)]
 have j0:(R++[x,y])[N]?=some x:=by rw[anj (by omega),hN];simp
 have k0:(R++[x,y])[N+1]?=some y:=by rw[anj (by omega),show N+1-R.length=1 by omega];rfl
 have aqx:∀i j,π i=π j->i=j:=by
  intro i j hij;rcases aoi i ops.size with hi|hi<;>rcases aoi j ops.size with hj|hj
  ·exact hd.inj i j hi hj hij
  ·have:=hd.lt i hi;rw[hij,hd.out j hj]at this;omega
  ·have:=hd.lt j hj;rw[<-hij,hd.out i hi]at this;omega
  ·rw[hd.out i hi,hd.out j hj]at hij;exact hij
 have swN:sw N π N=π (N+1):=am1 rfl;have N3:sw N π (N+1)=π N:=by unfold sw;rw[amU (by omega),am1 rfl]
 have swi:∀i,i≠N->i≠N+1->sw N π i=π i:=λi h1 h2=>by unfold sw;rw[amU h1,amU h2]
 have YX:∀i j,sw N π i=sw N π j->i=j:=by
  intro i j hij;have key:∀i,sw N π i=π (if i=N then N+1 else if i=N+1 then N else i):=λi=>by
   unfold sw;by_cases h1:i=N
   ·simp[h1]
   ·by_cases h2:i=N+1
    ·simp[h2]
    ·simp[h1,h2]
  rw[key,key]at hij;have:=aqx _ _ hij;split at this<;>split at this<;>(try split at this)<;>(try split at this)<;>omega
 have agy:∀j,j<ops.size->∃i,i<ops.size/\sw N π i=j:=by
  intro j hj;obtain⟨i,hi,hij⟩:=hd.sur j hj;by_cases h1:i=N
  ·subst h1;exact⟨i+1,by omega,by rw[N3];exact hij⟩
  ·by_cases h2:i=N+1
   ·subst h2;exact⟨N,by omega,by rw[swN];exact hij⟩
   ·exact⟨i,hi,by rw[swi i h1 h2];exact hij⟩
 have agz:∀(i:Nat) (z:aY×Nat),(R++[x,y])[i]?=some z->∀j,Nat.testBit z.2 j=true->j<N:=λi z hz j hj=>by rw[hN];exact uk z (am9 hz) j hj
 have agG:∀(i:Nat) (z:aY×Nat),(R++[x,y])[i]?=some z->∀oo,ops[π i]?=some oo->∀j,Nat.testBit z.2 j=true->∃e∈oo.after,Region.binds .any e=true/\(e.on=π j\/∃k u,k<N/\R[k]?=some u/\π k=e.on/\Nat.testBit u.2 j=true):=by
  intro i z hz oo hoo j hj;obtain⟨e,h1,h2,h3⟩:=hd.bef i z hz oo hoo j hj;refine⟨e,h1,h2,h3.imp id ?_⟩;rintro⟨k,u,hk1,hk2,hk3⟩;obtain⟨k',hk4,hk5⟩:=hc i z hz oo hoo e h1 h2;have hkk:k=k':=aqx _ _ (by rw[hk2,hk4]);subst hkk;have hkN:=agz i z hz k hk5;rw[i0 k hkN]at hk1;exact⟨k,u,hkN,hk1,hk2,hk3⟩
 have aiN:∀k u,k<N->R[k]?=some u->bb1 k=u.2:=λk u hk hu=>by
  have:=g1 k (by omega);rw[i1 k hk,hu]at this;exact(congrArg Prod.snd (anW this)).symm
 have aiX:∀k u,k<N->R[k]?=some u->bb2 k=u.2:=λk u hk hu=>by
  have:=g2 k (by omega);rw[i2 k hk,hu]at this;exact(congrArg Prod.snd (anW this)).symm
 have UD:∀i,i<ops.size->∀oo,ops[π i]?=some oo->∀j,Nat.testBit (bb1 i) j=true->(∃e∈oo.after,Region.binds .any e=true/\(e.on=π j\/∃k,k<ops.size/\π k=e.on/\Nat.testBit (bb1 k) j=true))\/(i=N+1/\j=N):=by
  intro i hi oo hoo j hj;have fin:∀z,(R++[x,y])[i]?=some z->Nat.testBit z.2 j=true->(∃e∈oo.after,Region.binds .any e=true/\(e.on=π j\/∃k,k<ops.size/\π k=e.on/\Nat.testBit (bb1 k) j=true)):=by
   intro z hz hzj;obtain⟨e,h1,h2,h3⟩:=agG i z hz oo hoo j hzj;refine⟨e,h1,h2,h3.imp id ?_⟩;rintro⟨k,u,hk1,hk2,hk3,hk4⟩;exact⟨k,by omega,hk3,by rw[aiN k u hk1 hk2];exact hk4⟩
  by_cases c1:i<N
  ·left;have hg:=g1 i hi;rw[i1 i c1,<-i0 i c1]at hg;exact fin _ hg hj
  ·by_cases c2:i=N
   ·subst c2;left;have hg:=g1 i hi;rw[j1,<-j0]at hg;exact fin _ hg hj
   ·have c3:i=N+1:=by omega
    subst c3;have hg:=g1 (N+1) hi;rw[k1]at hg;have hb:bb1 (N+1)=y.2 ||| 2^R.length:=(congrArg Prod.snd (anW hg)).symm;rw[hb,aov,aol,anV,ana]at hj;rcases hj with hj|hj
    ·exact .inl (fin y k0 hj)
    ·exact .inr ⟨rfl,by omega⟩
 have YR:∀i,i<ops.size->∀oo,ops[sw N π i]?=some oo->∀j,Nat.testBit (bb2 i) j=true->(∃e∈oo.after,Region.binds .any e=true/\(e.on=sw N π j\/∃k,k<ops.size/\sw N π k=e.on/\Nat.testBit (bb2 k) j=true))\/(i=N+1/\j=N):=by
  intro i hi oo hoo j hj;have fin:∀q z,(R++[x,y])[q]?=some z->ops[π q]?=some oo->Nat.testBit z.2 j=true->(∃e∈oo.after,Region.binds .any e=true/\(e.on=sw N π j\/∃k,k<ops.size/\sw N π k=e.on/\Nat.testBit (bb2 k) j=true)):=by
   intro q z hz hoo hzj;have hjN:=agz q z hz j hzj;obtain⟨e,h1,h2,h3⟩:=agG q z hz oo hoo j hzj;refine⟨e,h1,h2,?_⟩;rcases h3 with h3|⟨k,u,hk1,hk2,hk3,hk4⟩
   ·left;rw[swi j (by omega) (by omega)];exact h3
   ·right;exact⟨k,by omega,by rw[swi k (by omega) (by omega)];exact hk3,by rw[aiX k u hk1 hk2];exact hk4⟩
  by_cases c1:i<N
  ·left;have hg:=g2 i hi;rw[i2 i c1,<-i0 i c1]at hg;rw[swi i (by omega) (by omega)]at hoo;exact fin i _ hg hoo hj
  ·by_cases c2:i=N
   ·subst c2;left;have hg:=g2 i hi;rw[j2,<-k0]at hg;rw[swN]at hoo;exact fin (i+1) _ hg hoo hj
   ·have c3:i=N+1:=by omega
    subst c3;have hg:=g2 (N+1) hi;rw[k2]at hg;have hb:bb2 (N+1)=x.2 ||| 2^R.length:=(congrArg Prod.snd (anW hg)).symm;rw[hb,aov,aol,anV,ana]at hj;rw[N3]at hoo;rcases hj with hj|hj
    ·exact .inl (fin N x j0 hoo hj)
    ·exact .inr ⟨rfl,by omega⟩
 have c1:mc P nt ops π ops.size h.nx o1 s1 bb1 Ts1 Hs1:=by
  refine⟨λi hi=>?_,λi hi=>(a6 i _ _ (q1 i hi) (r1 i hi)).1,λi hi=>(a6 i _ _ (q1 i hi) (r1 i hi)).2.1,λi hi=>(a6 i _ _ (q1 i hi) (r1 i hi)).2.2,?_,by rw[a2];exact amY _,?_⟩
  ·have:∃z,(R++[x,y])[i]?=some z/\z.1=o1 i:=by
    have hq:=q1 i hi;rw[<-hm1,anb]at hq;cases hz:(R++[x,y])[i]? with
    |none=>rw[hz]at hq;cases hq
    |some z=>rw[hz]at hq;exact⟨z,rfl,anW hq⟩
   obtain⟨z,hz,hz2⟩:=this;rw[<-hz2];exact hd.cop i z hz
  ·intro i j hij hj;exact hp1 i j _ _ _ _ _ _ hij (g1 i (by omega)) (r1 i (by omega)) (g1 j hj) (r1 j hj)
  ·intro id hid;rw[a2];exact hs.hp.dead hid
 have c2:mc P nt ops (sw N π) ops.size h.nx o2 s2 bb2 Ts2 Hs2:=by
  refine⟨λi hi=>?_,λi hi=>(b6 i _ _ (q2 i hi) (r2 i hi)).1,λi hi=>(b6 i _ _ (q2 i hi) (r2 i hi)).2.1,λi hi=>(b6 i _ _ (q2 i hi) (r2 i hi)).2.2,?_,by rw[b2];exact amY _,?_⟩
  ·have hg:=g2 i hi;by_cases d1:i<N
   ·rw[i2 i d1,<-i0 i d1]at hg;rw[swi i (by omega) (by omega)];exact hd.cop i _ hg
   ·by_cases d2:i=N
    ·subst d2;rw[j2,<-k0]at hg;rw[swN];exact hd.cop (i+1) _ hg
    ·have d3:i=N+1:=by omega
     subst d3;rw[k2]at hg;rw[N3];have:o2 (N+1)=x.1:=(congrArg Prod.fst (anW hg)).symm;rw[this];exact hd.cop N x j0
  ·intro i j hij hj;exact hp2 i j _ _ _ _ _ _ hij (g2 i (by omega)) (r2 i (by omega)) (g2 j hj) (r2 j hj)
  ·intro id hid;rw[b2];exact hs.hp.dead hid
 have hup:∀ {π':Nat->Nat} {o':Nat->aY} {s':Nat->bR} {b':Nat->Nat} {Ts':Nat->Tm} {Hs':Nat->AH},mc P nt ops π' ops.size h.nx o' s' b' Ts' Hs'->∀i,i<ops.size->(Hs' i).nx<=(Hs' (i+1)).nx:=by
  intro π' o' s' b' Ts' Hs' c i hi;obtain⟨cl,_,h1⟩:=c.step i hi;rw[c.Hn i hi];generalize s' i=t at h1;cases h1<;>simp only[bR.h']<;>first|exact amY _|assumption
 have XA:=c1.nxm (hup c1);have U5:=c2.nxm (hup c2);have eo:∀i,i<N->o1 i=o2 i:=λi hi=>by
  have h1:=g1 i (by omega);have h2:=g2 i (by omega);rw[i1 i hi]at h1;rw[i2 i hi,h1]at h2;exact congrArg Prod.fst (anW h2)
 have eb:∀i,i<N->bb1 i=bb2 i:=λi hi=>by
  have h1:=g1 i (by omega);have h2:=g2 i (by omega);rw[i1 i hi]at h1;rw[i2 i hi,h1]at h2;have:=congrArg Prod.snd (anW h2);exact this
 have es:∀i,i<N->s1 i=s2 i:=λi hi=>by
  simp only[s1,s2,anh];rw[anz (by omega),anz (by omega)]
 have eTH:=DK (N:=N) (a1.trans b1.symm) (a2.trans b2.symm) eo es (λi hi=>⟨c1.Tn i (by omega),c1.Hn i (by omega)⟩) (λi hi=>⟨c2.Tn i (by omega),c2.Hn i (by omega)⟩);have conv:∀(listed:Array Bool) (β':Bl) (G:HF) (m:Nat) (a':Act) (w':World),listed.getD (π N) false=false->listed.getD (π (N+1)) false=false->Inv own β w nt ds ops.size h.nx o1 s1 bb1 Ts1 Hs1 (λi=>listed.getD (π i) false=true) β' G m a' w'->
   Inv own β w nt ds ops.size h.nx o2 s2 bb2 Ts2 Hs2 (λi=>listed.getD (sw N π i) false=true) β' G m a' w':=by
  intro listed β' G m a' w' hf0 hf1 v;have hL:(λi=>listed.getD (sw N π i) false=true)=λi=>listed.getD (π i) false=true:=by
   funext i
   by_cases h1:i=N
   ·subst h1;rw[swN,hf0,hf1]
   ·by_cases h2:i=N+1
    ·subst h2;rw[N3,hf0,hf1]
    ·rw[swi i h1 h2]
  rw[hL];have hlt:∀i,i<ops.size->listed.getD (π i) false=true->i<N:=by
   intro i hi hl;by_cases h1:i=N
   ·subst h1;rw[hf0]at hl;cases hl
   ·by_cases h2:i=N+1
    ·subst h2;rw[hf1]at hl;cases hl
    ·omega
  have hmN:m<=N:=by
   rcases v.cut with rfl|⟨e,rfl,he,_⟩
   ·omega
   ·have:=hlt e (by have:=v.mle;omega) he;omega
  have eH:Hs1 m=Hs2 m:=(eTH m hmN).2;have eE:∀i,i<N->(gJ s1 i↔gJ s2 i):=λi hi=>by unfold gJ;rw[es i hi]
  have eA:∀i,i<N->(fA s1 i↔fA s2 i):=λi hi=>by unfold fA;rw[es i hi]
  refine⟨by rw[<-eH];exact v.sim,v.sz,v.df,λi hi hl j hj=>v.closed i hi hl j (by rw[eb i (hlt i hi hl)];exact hj),v.mle,?_,λe he hE hl=>v.CN e he ((eE e (hlt e he hl)).2 hE) hl,λx hx=>by rw[<-eH];exact v.g1 x hx,
   λj h1 h2 hl r cs hr=>v.g2 j h1 h2 hl r cs (by rw[es j (hlt j h2 hl)];exact hr),λj h1 h2 h3=>v.g3 j h1 h2 ?_,λj h1 h2=>by rw[<-eH];exact v.m0 j h1 h2,λj h1 h2=>v.EH j h1 ?_,v.low,λt u hu=>v.tm t u ?_,by rw[<-(eTH 0 (aoo _)).2];exact v.trans⟩
  ·rcases v.cut with rfl|⟨e,rfl,he,hE⟩
   ·exact .inl rfl
   ·exact .inr ⟨e,rfl,he,(eE e (by omega)).1 hE⟩
  ·by_cases hjN:j<N
   ·exact h3.imp id λh hA=>h ((eA j hjN).1 hA)
   ·left;intro hl;have:=hlt j h2 hl;omega
  ·by_cases hjN:j<N
   ·exact h2.imp id λh hA=>h ((eA j hjN).1 hA)
   ·left;intro hl;have:=hlt j h1 hl;omega
  ·rcases hu with⟨i,d1,d2,d3,d4,d5⟩|⟨d1,d2⟩
   ·have hi:=hlt i d1 d2;exact .inl ⟨i,d1,d2,by rw[eo i hi];exact d3,by rw[es i hi];exact d4,λi' f1 f2 f3=>d5 i' f1 f2 (by rw[<-eo i' (hlt i' f1 f2)];exact f3)⟩
   ·exact .inr ⟨λi f1 f2 f3=>d1 i f1 f2 (by rw[<-eo i (hlt i f1 f2)];exact f3),by rw[(eTH 0 (aoo _)).1];exact d2⟩
 have least:∀(listed:Array Bool),listed.size=ops.size->(∃i,i<ops.size/\listed.getD (π i) false=false)->∃i,i<ops.size/\listed.getD (π i) false=false/\∀j,j<i->listed.getD (π j) false=true:=by
  intro listed hsz ⟨i,hi,hf⟩;induction i using Nat.strongRecOn with
  |_ i ih=>
   by_cases hex:∃j,j<i/\listed.getD (π j) false=false
   ·obtain⟨j,hj,hjf⟩:=hex;exact ih j hj (by omega) hjf
   ·refine⟨i,hi,hf,λj hj=>?_⟩;cases hq:listed.getD (π j) false
    ·exact absurd ⟨j,hj,hq⟩ hex
    ·rfl
 have ajK:∀(listed:Array Bool),listed.size=ops.size->Region.ready .any ops listed=[]->∀i,i<ops.size->listed.getD (π i) false=true:=by
  intro listed hsz hr i hi;cases hq:listed.getD (π i) false with
  |true=>rfl
  |false=>
   exfalso;obtain⟨k,hk1,hk2,hk3⟩:=least listed hsz ⟨i,hi,hq⟩;have:π k∈Region.ready .any ops listed:=by
    rw[mem_ready];have hk':π k<ops.size:=hd.lt k hk1;refine⟨by have:π k<listed.size:=(by omega);simp[this]at hk2 ⊢; exact hk2,ops[π k],by simp[hk'],λe he hb=>?_⟩;obtain⟨q,hq1,hq2⟩:=hd.Xs k _ (by simp[hk']) e he hb;rw[hq2];exact hk3 q hq1
   rw[hr]at this;cases this
 let St:Array Bool->Act->World->Prop:=λlisted a' w'=>
  (listed.getD (π N) false=false/\listed.getD (π (N+1)) false=false/\∃β' G m,Inv own β w nt ds ops.size h.nx o1 s1 bb1 Ts1 Hs1 (λi=>listed.getD (π i) false=true) β' G m a' w')\/
  (listed.getD (π N) false=true/\∃β' G m,Inv own β w nt ds ops.size h.nx o1 s1 bb1 Ts1 Hs1 (λi=>listed.getD (π i) false=true) β' G m a' w')\/
  (listed.getD (π (N+1)) false=true/\∃β' G m,Inv own β w nt ds ops.size h.nx o2 s2 bb2 Ts2 Hs2 (λi=>listed.getD (sw N π i) false=true) β' G m a' w')
 have done:∀(listed:Array Bool) (a':Act) (w':World),listed.size=ops.size->St listed a' w'->Region.ready .any ops listed=[]->Q .normal a' w':=by
  intro listed a' w' hsz hst hr;have eQ:=ajK listed hsz hr;rcases hst with⟨hf,_⟩|⟨_,β',G,m,v⟩|⟨_,β',G,m,v⟩
  ·rw[eQ N (by omega)]at hf;cases hf
  ·exact yZ c1 a2 a3 a4 XA hQ1 v eQ
  ·refine yZ c2 b2 b3 b4 U5 hQ2 v λi hi=>?_
   by_cases d1:i=N
   ·subst d1;rw[swN];exact eQ _ (by omega)
   ·by_cases d2:i=N+1
    ·subst d2;rw[N3];exact eQ _ (by omega)
    ·rw[swi i d1 d2];exact eQ i hi
 have N7:∀(listed:Array Bool) (i j:Nat),listed.size=ops.size->i<ops.size->(listed.setIfInBounds i true).getD j false=if j=i then true else listed.getD j false:=by
  intro listed i j hsz hi;by_cases hj:j=i
  ·subst hj;simp[show j<listed.size by omega]
  ·rw[amU hj];simp[anU (Ne.symm hj)]
 have step:∀(listed:Array Bool) (a':Act) (w':World),listed.size=ops.size->St listed a' w'->∀i∈Region.ready .any ops listed,∀K:Act->World->Prop,(∀a'' w'',St (listed.setIfInBounds i true) a'' w''->K a'' w'')->wpOp P ops Q i K a' w':=by
  intro listed a' w' hsz hst i hi K hK;obtain⟨hun,oo,hoo,_⟩:=mem_ready.1 hi;have hin:i<ops.size:=(anv.1 hoo).1;obtain⟨p,hp,hpi⟩:=hd.sur i hin;rcases hst with⟨hf0,hf1,β',G,m,v⟩|⟨ht,β',G,m,v⟩|⟨ht,β',G,m,v⟩
  ·by_cases d1:p=N+1
   ·subst d1;refine apF c2 YX agy YR U5 hsz (conv listed β' G m a' w' hf0 hf1 v) hi (λp' j _ hp' hx=>?_) λβ'' G'' m'' a'' w'' v'=>hK a'' w'' (.inr (.inr ⟨?_,β'',G'',m'',v'⟩))
    ·obtain⟨rfl,_⟩:=hx;rw[N3,<-hpi]at hp';have:=aqx _ _ hp';omega
    ·rw[N7 listed i _ hsz hin,am1 hpi]
   ·by_cases d2:p=N
    ·subst d2;refine apF c1 aqx hd.sur UD XA hsz v hi (λp' j _ hp' hx=>?_) λβ'' G'' m'' a'' w'' v'=>hK a'' w'' (.inr (.inl ⟨?_,β'',G'',m'',v'⟩))
     ·obtain⟨rfl,_⟩:=hx;rw[<-hpi]at hp';have:=aqx _ _ hp';omega
     ·rw[N7 listed i _ hsz hin,am1 hpi]
    ·refine apF c1 aqx hd.sur UD XA hsz v hi (λp' j _ hp' hx=>?_) λβ'' G'' m'' a'' w'' v'=>hK a'' w'' (.inl ⟨?_,?_,β'',G'',m'',v'⟩)
     ·obtain⟨rfl,_⟩:=hx;rw[<-hpi]at hp';exact absurd (aqx _ _ hp').symm d1
     ·rw[N7 listed i _ hsz hin,amU (λhe=>d2 (aqx _ _ (hpi.trans he.symm)))];exact hf0
     ·rw[N7 listed i _ hsz hin,amU (λhe=>d1 (aqx _ _ (hpi.trans he.symm)))];exact hf1
  ·refine apF c1 aqx hd.sur UD XA hsz v hi (λp' j _ hp' hx=>?_) λβ'' G'' m'' a'' w'' v'=>hK a'' w'' (.inr (.inl ⟨?_,β'',G'',m'',v'⟩))
   ·obtain⟨_,rfl⟩:=hx;exact ht
   ·rw[N7 listed i _ hsz hin];split
    ·rfl
    ·exact ht
  ·refine apF c2 YX agy YR U5 hsz v hi (λp' j _ hp' hx=>?_) λβ'' G'' m'' a'' w'' v'=>hK a'' w'' (.inr (.inr ⟨?_,β'',G'',m'',v'⟩))
   ·obtain⟨_,rfl⟩:=hx;rw[swN];exact ht
   ·rw[N7 listed i _ hsz hin];split
    ·rfl
    ·exact ht
 have key:∀(fuel:Nat) (listed:Array Bool) (a':Act) (w':World),listed.size=ops.size->unl listed<=fuel->St listed a' w'->wpAny P .any ops Q fuel listed a' w':=by
  intro fuel;induction fuel with
  |zero=>
   intro listed a' w' hsz hu v;have hr:Region.ready .any ops listed=[]:=by
    cases hq:Region.ready .any ops listed with
    |nil=>rfl
    |cons i r=>
     exfalso;obtain⟨hun,oo,hoo,_⟩:=mem_ready.1 (show i∈Region.ready .any ops listed by rw[hq];simp);have hin:i<listed.size:=by rw[hsz];exact(anv.1 hoo).1
     have:false∈listed.toList.filter (! ·):=by
      rw[List.mem_filter];refine⟨?_,rfl⟩;simp[hin]at hun;rw[<-hun];simp
     unfold unl at hu;have abI:=am8 (by omega:(listed.toList.filter (! ·)).length=0);rw[abI]at this;cases this
   exact⟨hr,done listed a' w' hsz v hr⟩
  |succ fuel ih=>
   intro listed a' w' hsz hu v;refine⟨done listed a' w' hsz v,λi hi=>?_⟩;refine step listed a' w' hsz v i hi _ λa'' w'' v'=>ih _ a'' w'' (by simp[hsz]) ?_ v'
   obtain⟨hun,oo,hoo,_⟩:=mem_ready.1 hi;have hin:i<listed.size:=by rw[hsz];exact(anv.1 hoo).1
   have hfi:listed[i]=false:=by simpa[hin]using hun
   have hlt:unl (listed.setIfInBounds i true)<unl listed:=by
    unfold unl;rw[Array.toList_setIfInBounds];have:∀(l:List Bool) (k:Nat),l[k]?=some false->((l.set k true).filter (! ·)).length<(l.filter (! ·)).length:=by
     intro l;induction l with
     |nil=>intro k hk;simp at hk
     |cons x l ihl=>
      intro k hk;cases k with
      |zero=>simp at hk;subst hk;simp
      |succ k=>simp at hk;have:=ihl k hk;cases x<;>simp<;>omega
    exact this _ i (by simp[hin,hfi])
   omega
 have hnL:∀i,(Array.replicate ops.size false).getD i false=false:=by
  intro i;by_cases hi:i<ops.size
  ·simp[hi]
  ·simp[hi]
 refine key ops.size (Array.replicate ops.size false) a { w with drawn:=w.drawn+1 } (by simp) ?_ (.inl ⟨hnL _,hnL _,β,λx=>h.H.get x,0,?_⟩)
 ·unfold unl;have:=List.length_filter_le (! ·) (Array.replicate ops.size false).toList;simp
 ·have XF:∀i,¬((Array.replicate ops.size false).getD (π i) false=true):=λi hq=>by rw[hnL]at hq;cases hq
  have hp':=hs.hp;refine⟨⟨λid hid=>hp'.fresh id (by rw[a2]at hid;simp only at hid;omega),hp'.lt,hp'.mf,hp'.obj,hp'.inj⟩,hs.sz,hs.df,λi _ hq=>absurd hq (XF i),aoo _,.inl rfl,λe _ _ hq=>absurd hq (XF e),λx _=>by rw[a2],λj _ _ hq=>absurd hq (XF j),λj _ _ _=>hp'.dead (by omega),λj _ _=>c1.YN _ (by omega),λj _ _=>hp'.fresh _ (by omega),λid _=>rfl,λt u hu=>?_,?_⟩
  ·rcases hu with⟨i,_,hq,_⟩|⟨_,hq⟩
   ·exact absurd hq (XF i)
   ·rw[a1]at hq;exact hs.tm t u hq
  ·rw[a2];exact⟨λ_ _ h=>h,amY _,λ_ _ _=>rfl,λ_ h=>.inl h,λ_ cur _ fz h=>⟨cur,fz,h,rfl,λ_=>rfl⟩,rfl,rfl,rfl⟩
end
section
variable {P:Program} {nt:Nat} {ds:List Deferred} {own:Nat->Prop} {β:Bl} {T:Tm} {h:AH} {a:Act} {w:World}
theorem PC{rid:Nat}{ops:Array Oper}{L:List (aY×Nat)}{π:Nat->Nat}{T':Tm}{h':AH}(x9:P.follows .mixedOrders=true)(hd:DL P nt ops L π){ss:List bR}(fc:oi P (L.map (·.1)) h.nx T ⟨h.H,h.nx+L.length⟩ ss T' h')(xU:∀(i j:Nat) (p o:aY) (q s:bR) (bits bp:Nat),i<j->L[i]?=some (p,bp)->ss[i]?=some q->L[j]?=some (o,bits)->ss[j]?=some s->Nat.testBit bits i=true\/(l8 p o=true/\aU q.k s.k=true))(hs:Sim nt ds own β T h a w)
  {Q:Exit->Act->World->Prop} (hQ:∀β' a' w',Sim nt ds own β' T' h' a' w'->bJ own β h w β' h' w'->Q .normal a' w'):(Code.region rid ops true).wp P Q a w:=
 wp_region_any x9 (yy x9 hd fc xU hs hQ)
theorem W9{cl:cI}(hcl:HOk P cl){rid:Nat}{ops:Array Oper}{L:List (aY×Nat)}{π:Nat->Nat}{T':Tm}{h':AH}(x9:P.follows .mixedOrders=true)(hd:DL P nt ops L π)(ha:OP cl L T h=some (T',h'))(hs:Sim nt ds own β T h a w)
  {Q:Exit->Act->World->Prop} (hQ:∀β' a' w',Sim nt ds own β' T' h' a' w'->bJ own β h w β' h' w'->Q .normal a' w'):(Code.region rid ops true).wp P Q a w:=by
 unfold OP at ha;split at ha;case h_2=>cases ha
 rename_i ss T1 h1 fc;split at ha;case isFalse=>cases ha
 rename_i xU;cases ha;refine PC x9 hd (zw hcl _ _ _ _ _ _ _ fc) (λi j p o q s bits bp hij h1 h2 h3 h4=>?_) hs hQ;have hz2:(([]:List (aY×bR))++(L.map (·.1)).zip ss)[i]?=some (p,q):=by
  rw[anx,an7];exact⟨by rw[anb,h1];rfl,h2⟩
 exact rU _ _ _ xU j _ _ _ h3 h4 i _ _ hz2 (by simpa using hij)
theorem adI{ops:Array Oper}{al:List aY}(hed:uK ops=true)(hc:jY P nt ops ops.toList=some al):DL P nt ops (al.zip (Region.before ops).toList) id:=by
 obtain⟨hal,ajg⟩:=wJ _ _ hc;have ai4:al.length=ops.size:=by simpa using hal
 have hbs:(Region.before ops).toList.length=ops.size:=by rw[aCl,pR,qU];simp
 have alM:(Region.before ops).size=ops.size:=by simpa using hbs
 have hzl:(al.zip (Region.before ops).toList).length=ops.size:=by simp[ai4]at hbs ⊢; omega
 have YW:∀i oo,ops[i]?=some oo->∀e∈oo.after,Region.binds .any e=true->e.on<i:=by
  intro i oo hoo e he hb;have:=oV ops.toList 0 hed i oo (by simpa using hoo) e he hb;omega
 refine⟨hzl,λi hi=>hi,λ_ _=>rfl,λ_ _ _ _ h=>h,λj hj=>⟨j,hj,rfl⟩,λi x hx=>?_,λi x hx oo hoo j hb=>?_,λi oo hoo e he hb=>⟨e.on,YW i oo hoo e he hb,rfl⟩⟩
 ·rw[an7]at hx;have hi:i<ops.size:=by have:=(amV.1 hx.1).1;omega
  exact⟨ops[i],by simp[hi],ajg i _ _ (by simp[hi]) hx.1⟩
 ·rw[an7]at hx;have hi:i<ops.size:=by have:=(amV.1 hx.1).1;omega
  have hxb:(Region.before ops).getD i 0=x.2:=by
   have:=hx.2;simp at this;simp[this]
  have hb':Nat.testBit ((ops.toList.foldl cJ #[]).getD ((#[]:Array Nat).size+i) 0) j=true:=by
   rw[<-pR];simpa[hxb]using hb
  obtain⟨e,h1,h2,h3⟩:=rE ops.toList #[] i oo (by simpa using hoo) j hb';refine⟨e,h1,h2,h3.imp id λh4=>?_⟩;rw[<-pR]at h4;have hei:=YW i oo hoo e h1 h2;refine⟨e.on,(al[e.on]'(by omega),(Region.before ops)[e.on]'(by omega)),?_,rfl,?_⟩
  ·rw[an7];simp[show e.on<al.length by omega,show e.on<(Region.before ops).size by omega]
  ·simpa[show e.on<(Region.before ops).size by omega]using h4
theorem qb(acc:Array Nat)(j:Nat):∀(l:List Edge) (s0:Nat),Nat.testBit s0 j=true->Nat.testBit (l.foldl (λs e=>if Region.binds .any e then s ||| 2^e.on ||| acc.getD e.on 0 else s) s0) j=true
 |[],s0,h=>h
 |e::l,s0,h=>by
  simp only[an1];refine qb acc j l _ ?_;split
  ·simp[aov,h]
  ·exact h
theorem rY(acc:Array Nat):∀(l:List Edge) (s0:Nat) (e:Edge),e∈l->Region.binds .any e=true->Nat.testBit (l.foldl (λs e=>if Region.binds .any e then s ||| 2^e.on ||| acc.getD e.on 0 else s) s0) e.on=true
 |[],s0,e,h,hb=>by cases h
 |e0::l,s0,e,h,hb=>by
  simp only[an1];rcases anT.1 h with rfl|h
  ·refine qb acc _ l _ ?_;rw[am1 hb];simp[aov,aol]
  ·exact rY acc l _ e h hb
theorem th:∀(l:List Oper) (acc:Array Nat) (i:Nat) (o:Oper),l[i]?=some o->∀e∈o.after,Region.binds .any e=true->Nat.testBit ((l.foldl cJ acc).getD (acc.size+i) 0) e.on=true
 |[],acc,i,o,ho=>by simp at ho
 |o0::l,acc,i,o,ho=>by
  intro e he hb;simp only[an1];cases i with
  |zero=>
   simp at ho;subst ho;have hsz:acc.size<(cJ acc o0).size:=by simp[cJ]
   rw[aoy,mB l _ _ hsz];have h0:(cJ acc o0).getD acc.size 0=o0.after.foldl (λs e=>if Region.binds .any e then s ||| 2^e.on ||| acc.getD e.on 0 else s) 0:=by simp[cJ]
   rw[h0,<-Array.foldl_toList];exact rY acc _ 0 e (by simpa using he) hb
  |succ i=>
   simp at ho;have:=th l (cJ acc o0) i o ho e he hb;rwa [show(cJ acc o0).size+i=acc.size+(i+1)by simp[cJ];omega]at this
theorem nE(p:List Nat)(bits:Nat)(j:Nat):∀(l:List Nat) (s:Nat),Nat.testBit (vc p bits l s) j=true↔(Nat.testBit s j=true\/(j∈l/\Nat.testBit bits (p.getD j 0)=true))
 |[],s=>by simp[vc]
 |k::l,s=>by
  unfold vc;rw[nE p bits j l];cases hb:Nat.testBit bits (p.getD k 0)with
  |true=>
   simp only[aoB,aov,aol,anV,ana,anT];constructor
   ·rintro((h|h)|h)
    ·exact .inl h
    ·subst h;exact .inr ⟨.inl rfl,hb⟩
    ·exact .inr ⟨.inr h.1,h.2⟩
   ·rintro(h|⟨h|h,h2⟩)
    ·exact .inl (.inl h)
    ·exact .inl (.inr h.symm)
    ·exact .inr ⟨h,h2⟩
  |false=>
   simp only[cond_false,anT];constructor
   ·rintro(h|h)
    ·exact .inl h
    ·exact .inr ⟨.inr h.1,h.2⟩
   ·rintro(h|⟨h|h,h2⟩)
    ·exact .inl h
    ·subst h;rw[hb]at h2;cases h2
    ·exact .inr ⟨h,h2⟩
theorem xh{ops:Array Oper}{al:List aY}(hed:uK ops=true)(hc:jY P nt ops ops.toList=some al):∃π,DL P nt ops (DS (al.zip (Region.before ops).toList)) π/\Vu ops (DS (al.zip (Region.before ops).toList)) π:=by
 have d:=adI hed hc;have MC:∀(i:Nat) (x:aY×Nat),(al.zip (Region.before ops).toList)[i]?=some x->∀oo:Oper,ops[i]?=some oo->∀e∈oo.after,Region.binds .any e=true->Nat.testBit x.2 e.on=true:=by
  intro i x hx oo hoo e he hb;rw[an7]at hx;have hxb:(Region.before ops).getD i 0=x.2:=by
   have:=hx.2;simp at this;simp[this]
  have:=th ops.toList #[] i oo (by simpa using hoo) e he hb;rw[<-pR]at this;simpa[hxb]using this
 generalize al.zip (Region.before ops).toList=l at d MC ⊢;have dc:Vu ops l id:=λi x hx oo hoo e he hb=>⟨e.on,rfl,MC i x hx oo hoo e he hb⟩
 unfold DS;cases XZ l with
 |false=>exact⟨id,d,dc⟩
 |true=>
 cases hk:Ao l (L9 l)with
 |false=>exact⟨id,d,dc⟩
 |true=>
 simp only[aoB];generalize L9 l=p at hk ⊢;have hn:l.length=ops.size:=d.len;unfold Ao at hk;have k0:∀i,i<l.length->p.getD i 0<l.length/\(∃j,j<l.length/\p.getD j 0=i)/\∀j,j<l.length->(i=j\/¬p.getD i 0=p.getD j 0)/\(Nat.testBit (l.getD (p.getD i 0) default).2 (p.getD j 0)=false\/j<i):=by
  intro i hi;have h1:=anK.1 hk i (aoJ.2 hi);simp only[amZ]at h1;obtain⟨⟨h2,h3⟩,h4⟩:=h1;refine⟨by simpa using h2,?_,λj hj=>?_⟩
  ·obtain⟨j,hj,hj2⟩:=List.any_eq_true.1 h3;exact⟨j,aoJ.1 hj,by simpa using hj2⟩
  ·have h5:=anK.1 h4 j (aoJ.2 hj);simp only[amZ,anV,Nat.beq_eq_true_eq,anX,Nat.blt_eq]at h5;refine⟨h5.1.imp an8 λh=>?_,h5.2⟩;intro he;rw[he]at h;simp at h
 have hP:∀i x,(ze l p)[i]?=some x->i<l.length/\x=((l.getD (p.getD i 0) default).1,vc p (l.getD (p.getD i 0) default).2 (List.range l.length) 0):=by
  intro i x hx;unfold ze at hx;rw[anb]at hx;cases hq:(List.range l.length)[i]? with
  |none=>rw[hq]at hx;cases hx
  |some q=>
   rw[hq]at hx;have hi:i<l.length:=by have:=(amV.1 hq).1;simpa using this
   rw[List.getElem?_range hi]at hq;cases hq;cases hx;exact⟨hi,rfl⟩
 have hPg:∀i,i<l.length->(ze l p)[i]?=some ((l.getD (p.getD i 0) default).1,vc p (l.getD (p.getD i 0) default).2 (List.range l.length) 0):=by
  intro i hi;unfold ze;rw[anb,List.getElem?_range hi];rfl
 have hg:∀i,i<l.length->l[i]?=some (l.getD i default):=λi hi=>by simp[hi]
 have hπ:∀i,i<l.length->(if i<ops.size then p.getD i 0 else i)=p.getD i 0:=λi hi=>am1 (by omega)
 refine⟨λi=>if i<ops.size then p.getD i 0 else i,⟨by simp[ze,hn],λi hi=>?_,λi hi=>amU (by omega),λi j hi hj he=>?_,λj hj=>?_,λi x hx=>?_,λi x hx oo hoo j hb=>?_,λi oo hoo e he hb=>?_⟩,λi x hx oo hoo e he hb=>?_⟩
 ·simp only[am1 hi];have:=(k0 i (by omega)).1;omega
 ·simp only[am1 hi,am1 hj]at he;exact((k0 i (by omega)).2.2 j (by omega)).1.resolve_right (λh=>h he)
 ·obtain⟨q,hq,hq2⟩:=(k0 j (by omega)).2.1;exact⟨q,by omega,by simp only[am1 (show q<ops.size by omega)];exact hq2⟩
 ·obtain⟨hi,rfl⟩:=hP i x hx;simp only[hπ i hi];exact d.cop _ _ (hg _ (k0 i hi).1)
 ·obtain⟨hi,rfl⟩:=hP i x hx;simp only[hπ i hi]at hoo;rw[nE]at hb;rcases hb with hb|⟨hj,hb⟩
  ·simp at hb
  ·have hj':=aoJ.1 hj;obtain⟨e,h1,h2,h3⟩:=d.bef _ _ (hg _ (k0 i hi).1) oo hoo _ hb;refine⟨e,h1,h2,?_⟩;rcases h3 with h3|⟨k,y,hk1,hk2,hk3⟩
   ·left;simp only[hπ j hj'];exact h3
   ·right;have hkl:k<l.length:=(amV.1 hk1).1;obtain⟨q,hq,hq2⟩:=(k0 k hkl).2.1;refine⟨q,_,hPg q hq,by simp only[hπ q hq];rw[hq2];exact hk2,?_⟩;rw[nE];refine .inr ⟨hj,?_⟩;rw[hq2];rw[hg k hkl]at hk1;cases hk1;exact hk3
 ·have hi:i<l.length:=by
   rcases aoi i ops.size with h|h
   ·omega
   ·rw[amU (by omega)]at hoo;have:=(anv.1 hoo).1;omega
  simp only[hπ i hi]at hoo;have h1:=MC _ _ (hg _ (k0 i hi).1) oo hoo e he hb;obtain⟨q0,h2,h3⟩:=d.Xs _ oo hoo e he hb;have h3':e.on=q0:=h3;have hel:e.on<l.length:=by rw[h3'];exact Nat.lt_trans h2 (k0 i hi).1
  obtain⟨q,hq,hq2⟩:=(k0 _ hel).2.1;refine⟨q,?_,by simp only[hπ q hq];exact hq2.symm⟩;refine(((k0 i hi).2.2 q hq).2).resolve_left ?_;rw[hq2,h1];simp
 ·obtain⟨hi,rfl⟩:=hP i x hx;simp only[hπ i hi]at hoo;have h1:=MC _ _ (hg _ (k0 i hi).1) oo hoo e he hb;obtain⟨q0,h2,h3⟩:=d.Xs _ oo hoo e he hb;have h3':e.on=q0:=h3;have hel:e.on<l.length:=by rw[h3'];exact Nat.lt_trans h2 (k0 i hi).1
  obtain⟨q,hq,hq2⟩:=(k0 _ hel).2.1;refine⟨q,by simp only[hπ q hq];exact hq2.symm,?_⟩;rw[nE];exact .inr ⟨aoJ.2 hq,by rw[hq2];exact h1⟩
theorem Xa{ops:Array Oper}{al:List aY}(hed:uK ops=true)(hc:jY P nt ops ops.toList=some al):∃π,DL P nt ops (DS (al.zip (Region.before ops).toList)) π:=
 let⟨π,h,_⟩:=xh hed hc;⟨π,h⟩
end
def AX.abz:AX->Exit
 |.nrm=>.normal
 |.exit id=>.exit id
 |.ret=>.ret
section
variable {P:Program} {nt:Nat} {ds:List Deferred} {own:Nat->Prop}
theorem zK{cl:cI}(hcl:HOk P cl){N:Nat}:∀(c:Code) (ac:apg) (β:Bl) (T:Tm) (h:AH) (a:Act) (w:World) (x:AX) (T':Tm) (h':AH),cY P nt c=some ac->fZ cl N ac T h=some (x,T',h')->Sim nt ds own β T h a w->
  ∀Q:Exit->Act->World->Prop,(∀β' a' w',Sim nt ds own β' T' h' a' w'->bJ own β h w β' h' w'->Q x.abz a' w')->c.wp P Q a w:=by
 intro c;induction c with
 |skip=>
  intro ac β T h a w x T' h' hc ha hs Q hQ;simp only[cY]at hc;cases hc;simp only[fZ]at ha;cases ha;exact wp_skip (hQ β a w hs (.refl _ _ _ _))
 |label l=>
  intro ac β T h a w x T' h' hc ha hs Q hQ;simp only[cY]at hc;cases hc;simp only[fZ]at ha;cases ha;exact wp_label (hQ β a w hs (.refl _ _ _ _))
 |region rid ops draw=>
  intro ac β T h a w x T' h' hc ha hs Q hQ;simp only[cY]at hc;split at hc
  ·rename_i l hl;cases draw with
   |true=>
    simp only[anH]at hc;split at hc
    ·rename_i hm;cases hc;simp only[amZ]at hm;simp only[fZ]at ha;split at ha
     ·rename_i T1 h1 had;cases ha;obtain⟨_,hdl⟩:=Xa hm.2 hl;exact W9 hcl hm.1 hdl had hs hQ
     ·cases ha
    ·cases hc
   |false=>
    simp only[am7,ans]at hc;cases hc;simp only[fZ]at ha;split at ha
    ·rename_i T1 h1 had;cases ha;exact wp_region_list (Bn hcl _ _ _ _ _ _ _ _ _ hl had hs hQ)
    ·cases ha
  ·cases hc
 |seq c1 c2 ih1 ih2=>
  intro ac β T h a w x T' h' hc ha hs Q hQ;simp only[cY]at hc;split at hc
  ·rename_i x1 x2 h1 h2;cases hc;simp only[fZ]at ha;refine wp_seq ?_;cases hx:fZ cl N x1 T h with
   |none=>simp[hx]at ha
   |some r=>
    obtain⟨y,T1,h1'⟩:=r;simp only[hx]at ha;cases y with
    |nrm=>
     simp only at ha;refine ih1 x1 β T h a w .nrm T1 h1' h1 hx hs _ λβ1 a1 w1 s1 t1=>?_
     exact ih2 x2 β1 T1 h1' a1 w1 x T' h' h2 ha s1 Q λβ2 a2 w2 s2 t2=>hQ β2 a2 w2 s2 (t1.trans t2)
    |exit j=>
     simp only at ha;cases ha;exact ih1 x1 β T h a w _ _ _ h1 hx hs _ λβ1 a1 w1 s1 t1=>hQ β1 a1 w1 s1 t1
    |ret=>
     simp only at ha;cases ha;exact ih1 x1 β T h a w _ _ _ h1 hx hs _ λβ1 a1 w1 s1 t1=>hQ β1 a1 w1 s1 t1
  ·cases hc
 |cond co c1 c2 ih1 ih2=>
  intro ac β T h a w x T' h' hc ha hs Q hQ;simp only[cY]at hc;split at hc
  ·rename_i y x1 x2 hy h1 h2;cases hc;simp only[fZ]at ha;have hv:=fT hs hy;cases hyv:y.ev T<;>rw[hyv]at ha hv<;>(try(simp only at ha;cases ha;done));rename_i bb;generalize hce:a.eval co=cv at hv;cases hv;cases bb with
   |true=>exact wp_cond_true hce (ih1 x1 β T h a w x T' h' h1 (by simpa only using ha) hs Q hQ)
   |false=>exact wp_cond_false hce (ih2 x2 β T h a w x T' h' h2 (by simpa only using ha) hs Q hQ)
  ·cases hc
 |block id c1 ih=>
  intro ac β T h a w x T' h' hc ha hs Q hQ;simp only[cY]at hc;split at hc
  ·rename_i x1 h1;cases hc;simp only[fZ]at ha;refine wp_block ?_;cases hx:fZ cl N x1 T h with
   |none=>simp[hx]at ha
   |some r=>
    obtain⟨y,T1,h1'⟩:=r;simp only[hx]at ha;cases y with
    |nrm=>
     simp only at ha;cases ha;exact ih x1 β T h a w _ _ _ h1 hx hs _ λβ1 a1 w1 s1 t1=>hQ β1 a1 w1 s1 t1
    |ret=>
     simp only at ha;cases ha;exact ih x1 β T h a w _ _ _ h1 hx hs _ λβ1 a1 w1 s1 t1=>hQ β1 a1 w1 s1 t1
    |exit j=>
     simp only at ha;refine ih x1 β T h a w _ _ _ h1 hx hs _ λβ1 a1 w1 s1 t1=>?_
     show(if j=id then Q .normal a1 w1 else Q (.exit j) a1 w1)
     split at ha
     ·rename_i hj;cases ha;rw[am1 hj];exact hQ β1 a1 w1 s1 t1
     ·rename_i hj;cases ha;rw[amU hj];exact hQ β1 a1 w1 s1 t1
  ·cases hc
 |loop c1 ih=>
  intro ac β T h a w x T' h' hc ha hs Q hQ;simp only[cY]at hc;split at hc
  ·rename_i x1 h1;cases hc;simp only[fZ]at ha;refine wp_loop_rounds N ?_;have key:∀(n:Nat) (β:Bl) (T:Tm) (h:AH) (a:Act) (w:World),DT (fZ cl N x1) n T h=some (x,T',h')->Sim nt ds own β T h a w->(∀β' a' w',Sim nt ds own β' T' h' a' w'->bJ own β h w β' h' w'->Q x.abz a' w')->Code.rounds P c1 Q n a w:=by
    intro n;induction n with
    |zero=>intro β T h a w hi;simp[DT]at hi
    |succ n ihn=>
     intro β T h a w hi hs hQ;rw[rounds_succ];simp only[DT]at hi;cases hx:fZ cl N x1 T h with
     |none=>simp[hx]at hi
     |some r=>
      obtain⟨y,T1,h1'⟩:=r;simp only[hx]at hi;cases y with
      |nrm=>
       simp only at hi;refine ih x1 β T h a w _ _ _ h1 hx hs _ λβ1 a1 w1 s1 t1=>?_
       exact ihn β1 T1 h1' a1 w1 hi s1 λβ2 a2 w2 s2 t2=>hQ β2 a2 w2 s2 (t1.trans t2)
      |exit j=>
       simp only at hi;cases hi;exact ih x1 β T h a w _ _ _ h1 hx hs _ λβ1 a1 w1 s1 t1=>hQ β1 a1 w1 s1 t1
      |ret=>
       simp only at hi;cases hi;exact ih x1 β T h a w _ _ _ h1 hx hs _ λβ1 a1 w1 s1 t1=>hQ β1 a1 w1 s1 t1
   exact key N β T h a w ha hs hQ
  ·cases hc
 |exit id=>
  intro ac β T h a w x T' h' hc ha hs Q hQ;simp only[cY]at hc;cases hc;simp only[fZ]at ha;cases ha;exact wp_exit (hQ β a w hs (.refl _ _ _ _))
 |ret=>
  intro ac β T h a w x T' h' hc ha hs Q hQ;simp only[cY]at hc;cases hc;simp only[fZ]at ha;cases ha;exact wp_ret (hQ β a w hs (.refl _ _ _ _))
 |rangeFunc g ps c1 c2=>intro ac β T h a w x T' h' hc ha;simp only[cY]at hc;(repeat' (split at hc))<;>cases hc;simp[fZ]at ha
 |scope=>intro ac β T h a w x T' h' hc ha;simp only[cY]at hc;cases hc;simp[fZ]at ha
 |goto=>intro ac β T h a w x T' h' hc ha;simp only[cY]at hc;cases hc;simp[fZ]at ha
 |refuse=>intro ac β T h a w x T' h' hc ha;simp only[cY]at hc;cases hc;simp[fZ]at ha
theorem zh:∀(args:List AV) (i:Nat) (T:Tm) (t:Nat),(zf args i T).get t=if i<=t/\t<i+args.length then args[t-i]? else T.get t
 |[],i,T,t=>by simp[zf];intro h1 h2;omega
 |v::args,i,T,t=>by
  simp only[zf];rw[zh args (i+1) (T.put i v) t];by_cases h1:t=i
  ·subst h1;rw[amU (by omega),Tm.cq,am1 (by simp)];simp
  ·by_cases h2:i+1<=t/\t<i+1+args.length
   ·rw[am1 h2,am1 (by simp;omega)];rw[show t-i=(t-(i+1))+1 by omega];simp
   ·rw[amU h2,Tm.ch _ _ h1,amU (by simp;omega)]
def sq(tmps:Array Value):ResultVar->Sem Value
 |.tmp t=>pure (tmps.getD t Go.undef)
 |.cell x t=>do loadVar t (<-asAddr (tmps.getD x Go.undef))
theorem se{β:Bl}{T:Tm}{h:AH}{a:Act}{w:World}(hs:Sim nt ds own β T h a w):∀(rs:List ResultVar) (ars:List NG) (vs:List AV),Fp P rs=some ars->BM T h ars=some vs->
  ∃cvs:List Value,((rs.mapM (sq a.tmps)).run P w =.ok cvs w)/\RL w.heap (LL own β h.H) β vs cvs
 |[],ars,vs,hc,ha=>by
  simp[Fp]at hc;subst hc;simp[BM]at ha;subst ha;exact⟨[],by simp,RL.nil⟩
 |.tmp t::rs,ars,vs,hc,ha=>by
  simp only[Fp]at hc;split at hc
  ·rename_i l hl;cases hc;simp only[BM]at ha;split at ha
   ·rename_i l2 hl2;cases ha;obtain⟨cvs,h1,h2⟩:=se hs rs l l2 hl hl2;refine⟨a.tmps.getD t Go.undef::cvs,?_,RL.cons ?_ h2⟩
    ·rw[List.mapM_cons];simp only[sq,anq,anG,ani,h1]
    ·cases hg:T.get t with
     |none=>exact .undef _
     |some v=>exact hs.tm t v hg
   ·cases ha
  ·cases hc
 |.cell t ty::rs,ars,vs,hc,ha=>by
  simp only[Fp]at hc;split at hc
  ·rename_i n l hn hl;cases hc;simp only[BM]at ha;split at ha
   ·rename_i v l2 hv hl2;cases ha;obtain⟨cvs,h1,h2⟩:=se hs rs l l2 hl hl2;have hR:VR w.heap (LL own β h.H) β ((T.get t).getD .undef) (a.tmps.getD t Go.undef):=by
     cases hg:T.get t with
     |none=>exact .undef _
     |some v=>exact hs.tm t v hg
    have hld:∃cv,(do loadVar ty (<-asAddr (a.tmps.getD t Go.undef)):Sem Value).run P w =.ok cv w/\VR w.heap (LL own β h.H) β v cv:=by
     cases n with
     |none=>
      obtain⟨ad,u,e1,e2,e3⟩:=yS hs.hp hv hR;obtain⟨cv,e4,e5⟩:=Ea (P:=P) hs.hp hn hv hR;refine⟨cv,?_,e5⟩;rw[e1]at e4 ⊢;simpa only[Instr.loadAt,Instr.sureAddr,asAddr,anq,anG,ani]using e4
     |some n=>
      simp only[anm]at hv;obtain⟨cs,hv,rfl⟩:=hv;obtain⟨ad,u,e1,_⟩:=sx hs.hp hv hR;obtain⟨cv,e4,e5⟩:=Dg (P:=P) hs.hp hn hv hR;refine⟨cv,?_,e5⟩;rw[e1]at e4 ⊢;simpa only[Instr.loadAt,Instr.sureAddr,asAddr,anq,anG,ani]using e4
    obtain⟨cv,e4,e5⟩:=hld;refine⟨cv::cvs,?_,RL.cons e5 h2⟩;have e4':(sq a.tmps (.cell t ty)).run P w =.ok cv w:=e4;rw[List.mapM_cons];simp only[anq,e4',ani,h1,anG]
   ·cases ha
  ·cases hc
theorem OT{fn:Func}{af:AFn}(h:cFn P fn=some af):fn.body.isSome=true:=by
 unfold cFn at h;split at h
 ·rename_i c hc;rw[hc];rfl
 ·cases h
end
def ai(gE:List AV)(i:Nat):AV:=(gE[i]?).getD .undef
def WA(gE:List AV):List Nat->Nat->Tm->Tm
 |[],_,T=>T
 |r::rs,i,T=>WA gE rs (i+1) (T.put r (ai gE i))
def mkT(live:List Nat)(gE:List AV):Tm:=WA gE live 0 .leaf
def rg(T:Tm)(t:Nat):AV:=(T.get t).getD .undef
def yd(live:List Nat)(T:Tm):List AV:=live.map (rg T)
structure It where
 f:Nat
 back:Bool
 en:Option Nat
def It.z(i:It):Nat:=i.en.getD 1
def It.pos(i:It)(len k:Nat):Nat:=cond i.back (len-1-k) k
inductive dh where
 |skip
 |reg (ops:List aY)
 |draw (ops:List (aY×Nat))
 |seq (a b:dh)
 |cond (c:Opd) (t e:dh)
 |block (id:Nat) (b:dh)
 |loop (li lo:List Nat) (b:dh)
 |join (lo:List Nat) (a:dh)
 |xI (lo:List Nat) (a:dh)
 |I5 (ops:List (aY×Option Nat))
 |xG (ops:List ((aY×Nat)×Option Nat))
 |exit (id:Nat)
 |ret
 |stuck
 |rng (its:List It) (g:Opd) (ps:List Nat) (a b:dh)
 |frz (lo:List Nat) (a:dh)
 |zF (b:dh)
 deriving Inhabited
def dh.erase:dh->apg
 |.skip=>.skip
 |.reg ops=>.reg ops
 |.draw ops=>.draw ops
 |.seq a b=>.seq a.erase b.erase
 |.cond c t e=>.cond c t.erase e.erase
 |.block id b=>.block id b.erase
 |.loop _ _ b=>.loop b.erase
 |.join _ a=>a.erase
 |.xI _ a=>a.erase
 |.I5 ops=>.reg (ops.map (·.1))
 |.xG ops=>.draw (ops.map (·.1))
 |.exit id=>.exit id
 |.ret=>.ret
 |.stuck=>.stuck
 |.rng _ g ps a b=>.rng g ps a.erase b.erase
 |.frz _ a=>a.erase
 |.zF b=>.loop b.erase
section
variable {R:Type}
def sjn{α:Type}(r:Option (AX×α×AH))(k:AX->α->AH->Option R):Option R:=
 match r with
 |some (x,v,h)=>k x v h
 |none=>none
end
def aqv(f:List AV->AH->Option (AX×(List AV×List AV)×AH)):Nat->List AV->AH->Option (AX×List AV×AH)
 |0,_,_=>none
 |n+1,gE,h=>sjn (f gE h) λx vs h'=>
  match x with
  |.nrm=>aqv f n vs.1 h'
  |.exit j=>some (.exit j,vs.2,h')
  |.ret=>some (.ret,vs.2,h')
theorem xe(gE:List AV):∀(live:List Nat) (i:Nat) (T:Tm) (t:Nat) (u:AV),(WA gE live i T).get t=some u->(∃j,live[j]?=some t/\u=ai gE (i+j))\/T.get t=some u
 |[],i,T,t,u,h=>.inr h
 |r::rs,i,T,t,u,h=>by
  simp only[WA]at h;rcases xe gE rs (i+1) _ t u h with⟨j,h1,h2⟩|h1
  ·exact .inl ⟨j+1,by simpa using h1,by rw[h2];congr 1;omega⟩
  ·rw[Tm.jA]at h1;split at h1
   ·rename_i ht;subst ht;cases h1;exact .inl ⟨0,by simp,rfl⟩
   ·exact .inr h1
section
variable {P:Program} {nt:Nat} {ds:List Deferred} {own:Nat->Prop}
theorem Sim.du{β:Bl}{T:Tm}{h:AH}{a:Act}{w:World}(hs:Sim nt ds own β T h a w)(live:List Nat):Sim nt ds own β (mkT live (yd live T)) h a w:=by
 refine⟨hs.hp,hs.sz,λt u hu=>?_,hs.df⟩;rcases xe _ live 0 .leaf t u hu with⟨j,h1,h2⟩|h1
 ·have:u=rg T t:=by
   rw[h2];simp[ai,yd,h1]
  subst this;unfold rg;cases hg:T.get t with
  |none=>exact .undef _
  |some v=>exact hs.tm t v hg
 ·simp[Tm.xJ]at h1
theorem NS{c:Code}{x y:apg}(hc:cY P nt c=some (.seq x y)):∃a b,c =.seq a b/\cY P nt a=some x/\cY P nt b=some y:=by
 cases c<;>simp only[cY]at hc<;>(try(cases hc;done));case seq a b=>
  split at hc
  ·rename_i h1 h2;cases hc;exact⟨a,b,rfl,h1,h2⟩
  ·cases hc
 all_goals (repeat' (split at hc))<;>cases hc
theorem Fq{c:Code}{o:Opd}{x y:apg}(hc:cY P nt c=some (.cond o x y)):∃co a b,c =.cond co a b/\dv co=some o/\cY P nt a=some x/\cY P nt b=some y:=by
 cases c<;>simp only[cY]at hc<;>(try(cases hc;done));case cond co a b=>
  split at hc
  ·rename_i h0 h1 h2;cases hc;exact⟨co,a,b,rfl,h0,h1,h2⟩
  ·cases hc
 all_goals (repeat' (split at hc))<;>cases hc
theorem Ey{c:Code}{id:Nat}{x:apg}(hc:cY P nt c=some (.block id x)):∃a,c =.block id a/\cY P nt a=some x:=by
 cases c<;>simp only[cY]at hc<;>(try(cases hc;done));case block id a=>
  split at hc
  ·rename_i h1;cases hc;exact⟨a,rfl,h1⟩
  ·cases hc
 all_goals (repeat' (split at hc))<;>cases hc
theorem we{c:Code}{x:apg}(hc:cY P nt c=some (.loop x)):∃a,c =.loop a/\cY P nt a=some x:=by
 cases c<;>simp only[cY]at hc<;>(try(cases hc;done));case loop a=>
  split at hc
  ·rename_i h1;cases hc;exact⟨a,rfl,h1⟩
  ·cases hc
 all_goals (repeat' (split at hc))<;>cases hc
end
structure SFn where
 nt:Nat
 res:List NG
 body:dh
def SFn.erase(f:SFn):AFn:=⟨f.nt,f.res,f.body.erase⟩
section
variable {P:Program}
end
open Go.RowKit
def idle:Obj->Bool
 |.loop _=>true
 |.deferred _=>true
 |_=>false
structure kj(n0:Nat)(w w':World):Prop where
 size:w.heap.size<=w'.heap.size
 same:∀(b:Nat) (x:Obj),w.heap[b]?=some x->idle x=false->w'.heap[b]?=some x
 low:∀(b:Nat),b<n0->w'.heap[b]?=w.heap[b]?
 os:w'.os=w.os
 tape:w'.tape=w.tape
 output:w'.output=w.output
theorem kj.refl(n0:Nat)(w:World):kj n0 w w:=⟨amY _,λ_ _ h _=>h,λ_ _=>rfl,rfl,rfl,rfl⟩
theorem kj.trans{n0:Nat}{w1 w2 w3:World}(h:kj n0 w1 w2)(k:kj n0 w2 w3):kj n0 w1 w3:=
 ⟨ane h.size k.size,λb x hx hi=>k.same b x (h.same b x hx hi) hi,λb hb=>(k.low b hb).trans (h.low b hb),k.os.trans h.os,k.tape.trans h.tape,k.output.trans h.output⟩
theorem kj.putObj{n0 l:Nat}{w:World}{o:Obj}(o':Obj)(h:w.heap[l]?=some o)(hi:idle o=true)(hl:n0<=l):kj n0 w (w.putObj l o'):=by
 refine⟨by simp,λb x hx hx2=>?_,λb hb=>World.putObj_heap_other (by omega),rfl,rfl,rfl⟩;have:b≠l:=λe=>by subst e;rw[h]at hx;cases hx;rw[hi]at hx2;cases hx2
 rw[World.putObj_heap_other this];exact hx
theorem VR.quiet{n0:Nat}{w w':World}(hq:kj n0 w w'){L:Nat->Prop}{β:Bl}{a:AV}{v:Value}(h:VR w.heap L β a v):VR w'.heap L β a v:=by
 induction h with
 |undef v=>exact .undef v
 |bool b=>exact .bool b
 |int k n=>exact .int k n
 |str s=>exact .str s
 |agg cs vs hlen h ih=>exact .agg cs vs hlen ih
 |tup cs vs hlen h ih=>exact .tup cs vs hlen ih
 |ptr id off b base h=>exact .ptr id off b base h
 |dS=>exact .dS
 |lz cs b o cur e fz hb hL hs h ih=>exact .lz cs b o cur e fz (hq.same _ _ hb rfl) hL hs ih
 |fY g off=>exact .fY g off
 |aa=>exact .aa
 |esl a=>exact .esl a
 |jS a cap=>exact .jS a cap
 |psl xs z b o cap cur e fz hb hL hs hz hc h ih=>exact .psl xs z b o cap cur e fz (hq.same _ _ hb rfl) hL hs hz hc ih
 |rsl id off len z b base cap cur e fz h hb hc hm hs=>exact .rsl id off len z b base cap cur e fz h (hq.same _ _ hb rfl) hc hm hs
 |nQ id off z b base o h=>exact .nQ id off z b base o h
 |jR id b base h=>exact .jR id b base h
 |dP=>exact .dP
 |func fn f1 c1 f2 c2 hl1 hl2 h1 h2 ih1 ih2=>exact .func fn f1 c1 f2 c2 hl1 hl2 ih1 ih2
 |dt=>exact .dt
 |gf=>exact .gf
 |iface t a v h ih=>exact .iface t a v ih
 |sint k m i c lo hi b base h h1 h2=>exact .sint k m i c lo hi b base h h1 h2
 |sX k m r i j l lo hi b1 n1 b2 n2 b3 h1 h2 h3 q1 q2 q3 q4=>exact .sX k m r i j l lo hi b1 n1 b2 n2 b3 h1 h2 h3 q1 q2 q3 q4
 |qJ k rs n h=>exact .qJ k rs n h
theorem bV.quiet{n0:Nat}{w w':World}(hq:kj n0 w w'){own:Nat->Prop}{β:Bl}{H:Hp}{nx:Nat}(hs:bV own β H nx w):bV own β H nx w':=by
 refine⟨hs.fresh,λid b base h=>ant (hs.lt id b base h) hq.size,λb h=>ant (hs.mf b h) hq.size,λid o h=>?_,hs.inj⟩;obtain⟨b,base,h1,h2,h3⟩:=hs.obj id o h;refine⟨b,base,h1,h2,?_⟩;cases o with
 |cells cs=>
  obtain⟨cur,e,q1,q2,q3⟩:=h3;exact⟨cur,e,hq.same _ _ q1 rfl,q2,λi c v k1 k2=>(q3 i c v k1 k2).quiet hq⟩
 |map kvs=>
  obtain⟨q0,es,q1,q2,q3⟩:=h3;exact⟨q0,es,hq.same _ _ q1 rfl,q2,λi kv e k1 k2=>⟨(q3 i kv e k1 k2).1.quiet hq,(q3 i kv e k1 k2).2.1.quiet hq,(q3 i kv e k1 k2).2.2⟩⟩
 |aqv s pos=>exact⟨h3.1,hq.same _ _ h3.2 rfl⟩
 |typ t cs=>
  obtain⟨q0,cur,q1,q2,q3⟩:=h3;exact⟨q0,cur,hq.same _ _ q1 rfl,q2,λi c v k1 k2=>(q3 i c v k1 k2).quiet hq⟩
 |iq g cs=>
  obtain⟨q0,q00,cur,e,fz,q1,q2,q3⟩:=h3;exact⟨q0,q00,cur,e,fz,hq.same _ _ q1 rfl,q2,λi c v k1 k2=>(q3 i c v k1 k2).quiet hq⟩
theorem bJ.quiet{own:Nat->Prop}{β β':Bl}{h h':AH}{w w1 w2:World}(ht:bJ own β h w β' h' w1)(hq:kj w.heap.size w1 w2):bJ own β h w β' h' w2:=by
 refine⟨ht.ext,ht.low,ht.up,ane ht.size hq.size,λb hb hl=>(hq.low b hb).trans (ht.du b hb hl),ht.live,λb cur e fz hb=>?_,hq.os.trans ht.os,hq.tape.trans ht.tape,hq.output.trans ht.output⟩;obtain⟨jB,fz',h1,h2,h3⟩:=ht.shape b cur e fz hb;exact⟨jB,fz',hq.same _ _ h1 rfl,h2,h3⟩
theorem bV.NV{own:Nat->Prop}{β:Bl}{H:Hp}{nx:Nat}{w:World}(hs:bV own β H nx w){b:Nat}{o:Obj}(hb:w.heap[b]?=some o)(hi:idle o=true):¬Eng.live β H b:=by
 rintro⟨id,ob,base,h1,h2⟩;obtain⟨b',eI,h3,_,h4⟩:=hs.obj id ob h1;rw[h2]at h3;cases h3;cases ob with
 |cells cs=>obtain⟨cur,e,q1,_⟩:=h4;rw[hb]at q1;cases q1;cases hi
 |map kvs=>obtain⟨_,es,q1,_⟩:=h4;rw[hb]at q1;cases q1;cases hi
 |aqv s pos=>have q1:=h4.2;rw[hb]at q1;cases q1;cases hi
 |typ t cs=>obtain⟨_,cur,q1,_⟩:=h4;rw[hb]at q1;cases q1;cases hi
 |iq g cs=>obtain⟨_,_,cur,e,fz,q1,_⟩:=h4;rw[hb]at q1;cases q1;cases hi
theorem bJ.idle{own:Nat->Prop}{β β':Bl}{h h':AH}{w w':World}(ht:bJ own β h w β' h' w')(hs:bV own β h.H h.nx w){b:Nat}{o:Obj}(hb:w.heap[b]?=some o)(hi:idle o=true):w'.heap[b]?=some o:=
 (ht.du b (gg hb) (hs.NV hb hi)).trans hb
def mk(r:Nat):Deferred:={ target:=.collected r,args:= #[] }
def rM(n0:Nat)(w:World)(ds ds':List Deferred):Prop:=
 ∃ms:List Nat,ds'=ms.map mk++ds/\ms.Nodup/\∀r∈ms,n0<=r/\w.heap[r]?=some (.deferred (some []))
theorem rM.refl(n0:Nat)(w:World)(ds:List Deferred):rM n0 w ds ds:=⟨[],rfl,List.nodup_nil,λr hr=>by simp at hr⟩
theorem rM.trans{n0:Nat}{w1 w2:World}{ds ds1 ds2:List Deferred}{own:Nat->Prop}{β1 β2:Bl}{h1 h2:AH}(m1:rM n0 w1 ds ds1)(hn:n0<=w1.heap.size)(hs:bV own β1 h1.H h1.nx w1)(ht:bJ own β1 h1 w1 β2 h2 w2)
  (m2:rM w1.heap.size w2 ds1 ds2):rM n0 w2 ds ds2:=by
 obtain⟨l1,rfl,d1,q1⟩:=m1;obtain⟨l2,rfl,d2,q2⟩:=m2;refine⟨l2++l1,by simp,List.nodup_append.2 ⟨d2,d1,?_⟩,λr hr=>?_⟩
 ·intro a ha b hb e;subst e;have h3:=(q2 a ha).1;have h4:=gg (q1 a hb).2;omega
 ·rcases anP.1 hr with h|h
  ·exact⟨ane hn (q2 r h).1,(q2 r h).2⟩
  ·exact⟨(q1 r h).1,ht.idle hs (q1 r h).2 rfl⟩
def F4(W:World)(b o:Nat):Option Nat->Value->Prop
 |none,v=>W.cell? ⟨b,o,none⟩=some v
 |some n,v=>∃cs:Array Value,v =.agg cs/\cs.size=n/\(∀(j:Nat) (c:Value),cs[j]?=some c->W.cell? ⟨b,o+j,none⟩=some c)/\∀(j:Nat) (c:Value),cs[j]?=some c->c.oneCell'=true
def Fh(P:Program)(it:It):Prop:=
 (∃fn,P.funcs[it.f]?=some fn/\fn.body.isSome=true/\fn.name ≠ "runtime.NumGoroutine")/\
 ∀(l:Nat) (bx:Addr) (len:Nat) (J:Nat->World->Prop) (Jx:World->Prop) (W:World),len<=maxLen->
  (∀i W,J i W->(len=0/\∃a cap,W.cell? bx=some (.slice a 0 cap))\/∃b o cap,W.cell? bx=some (.slice (some ⟨b,o,none⟩) len cap)/\∀k,k<len->∃v,F4 W b (o+k*it.z) it.en v)->
  (∀b o cap,W.cell? bx=some (.slice (some ⟨b,o,none⟩) len cap)->∀i W',J i W'->∀k,k<len->∃v,F4 W' b (o+k*it.z) it.en v)->
  (∀i W' b o cap v,i<len->J i W'->(W'.cell? bx=some (.slice (some ⟨b,o,none⟩) len cap)\/W.cell? bx=some (.slice (some ⟨b,o,none⟩) len cap))->F4 W' b (o+it.pos len i*it.z) it.en v->
   YieldAt Fence.wide 0 P l #[.int .i64 ((it.pos len i:Nat):Int),v] W' λe W2=>(e =.returned (.bool true)/\J (i+1) W2)\/(e =.returned (.bool false)/\Jx W2))->
  (∀i W W',J i W->kj W.heap.size W W'->J i W')->J 0 W->Calls P it.f #[.func (.yield l) #[] #[],.pointer (some bx)] W λe W'=>(∃v,e =.returned v)/\(J len W'\/Jx W')
