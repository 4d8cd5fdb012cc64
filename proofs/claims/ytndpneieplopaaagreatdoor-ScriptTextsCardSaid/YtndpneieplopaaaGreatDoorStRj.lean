/- Both readers read the same: values. -/
import Derived.Test.YtndpneieplopaaaGreatDoorStQa
set_option linter.unusedSimpArgs false
set_option linter.unusedVariables false
noncomputable section
namespace Go.Proofs.YtndpneieplopaaaGreatDoor
open Go.Eng Go.St
open Go.Lib (itoa decDigits)
mutual
def dep:Val->Nat
 |.mk k _ _ l=>if k=4 then 1+qH l else 0
def qH:List Val->Nat
 |[]=>0
 |v::l=>max (dep v) (qH l)
end
theorem vD(a:List Val)(v:Val):qH (a++[v])=max (qH a) (dep v):=by
 induction a with
 |nil=>simp[qH]
 |cons x a ih=>simp[qH,ih,Nat.max_assoc]
def VSm(s:Str)(k:Nat)(v:Val)(t:PS)(w:Val)(u:RS):Prop:=
 (At s t u/\v=w/\dep v<=k)\/(t.ok=false/\(u.bad=true\/xu s true u))\/(t.ok=true/\u.bad=true/\k<dep v)
def ISm(s:Str)(k:Nat)(a1:List Val)(t:PS)(a2:List Val)(u:RS):Prop:=
 (At s (bg s 93 t) u/\a1=a2/\qH a1<=k)\/((bg s 93 t).ok=false/\u.bad=true)\/((bg s 93 t).ok=true/\u.bad=true/\k<qH a1)
theorem Ez(s:Str)(b:UInt8)(u:RS):e_ s [b] u=true↔s[u.pos]?=some b:=by
 unfold e_;constructor
 ·intro h;simp only[amZ,ana,an2,am2]at h;have h2:=congrArg (λl:Str=>l[0]?) h.2;simp only[anZ,anl]at h2;simpa using h2
 ·intro h;have hlt:=(amV.1 h).1;simp only[amZ,ana,an2,am2];refine⟨by omega,?_⟩;rw[ang hlt];have:=(amV.1 h).2;simp[this]
theorem Jr{s w:Str}{u:RS}(h:e_ s w u=true):∃r,s.drop u.pos=w++r/\u.pos+w.length<=s.length:=by
 unfold e_ at h;simp only[amZ,ana,an2]at h;refine⟨(s.drop u.pos).drop w.length,?_,h.1⟩;conv=>lhs;rw[<-an9 w.length (s.drop u.pos)]
 rw[h.2]
theorem KW{s w r:Str}{u:RS}(h:s.drop u.pos=w++r)(hu:u.pos<=s.length):e_ s w u=true:=by
 unfold e_;have hl:=congrArg List.length h;rw[am3,amX]at hl;simp only[amZ,ana,an2];refine⟨by omega,?_⟩;rw[h,aoO];rfl
theorem Kc{s w:Str}{b:UInt8}{u:RS}(h:e_ s (b::w) u=true):s[u.pos]?=some b:=by
 obtain⟨r,h1,_⟩:=Jr h;have:=congrArg (λl:Str=>l[0]?) h1;simpa[anl]using this
theorem vE(s:Str)(V:PS->Val×PS):∀(n:Nat) (acc:List Val) (t:PS),qH acc<=qH (iK s V n acc t).1
 |0,acc,t=>amY _
 |n+1,acc,t=>by
  unfold iK;split
  ·refine ane ?_ (vE s V n _ _);rw[vD];omega
  ·exact amY _
theorem C1{s:Str}{b:UInt8}{t:PS}(h:t.ok=false):(bg s b t).ok=false:=by
 unfold bg bB;rw[h];simp
theorem uW{s:Str}{k:Nat}{VP:PS->Val×PS}{VR:RS->Val×RS}(hV:∀t u,At s t u->VSm s k (VP t).1 (VP t).2 (VR u).1 (VR u).2)(hP:xC s VP)(hR:rO s VR):
  ∀(n m:Nat) (acc:List Val) (t:PS) (u:RS),At s t u->s.length-u.pos+1<=n->s.length-u.pos+2<=m->qH acc<=k->ISm s k (iK s VP n acc t).1 (iK s VP n acc t).2 (fL s VR m acc u).1 (fL s VR m acc u).2
 |n,m,acc,t,u,h,hn,hm,hd=>by
  obtain⟨n,rfl⟩:∃x,n=x+1:=⟨n-1,by omega⟩;obtain⟨m,rfl⟩:∃x,m=x+1:=⟨m-1,by omega⟩;have hpm:bB s t=decide (u.pos<s.length):=by unfold bB;rw[h.ok,h.pos];simp
  have htl:t.pos<=s.length:=by rw[h.pos];exact h.le
  have hul:u.pos<=s.length+1:=by have:=h.le;omega
  have agN:bE s t=bg s 32 t:=by unfold bE;rw[h.first];rfl
  unfold iK fL;rw[hpm,h.bad,h.pos];simp only[am7,ans];by_cases h93:s[u.pos]?=some 93
  ·have hb:=(Ez s 93 u).2 h93;have hlt:=(amV.1 h93).1;rw[am1 hb,amU (by simp[h93])];left;have e:bg s 93 t=⟨t.pos+1,t.first,t.ok⟩:=by
    unfold bg;rw[hpm,h.pos,h93];simp[hlt]
   have e2:dA s [93] u=⟨u.pos+1,u.bad⟩:=by unfold dA;rw[am1 hb];rfl
   simp only;rw[e,e2];exact⟨⟨h.ok,h.bad,by simp[h.pos],by simp only;omega,h.first⟩,trivial,hd⟩
  ·have hb:¬e_ s [93] u=true:=λe=>h93 ((Ez s 93 u).1 e)
   rw[amU hb];by_cases hlt:u.pos<s.length
   ·rw[am1 ⟨by simp[hlt],h93⟩];have h1:(At s (if acc=[]then t else bg s 32 t) (if acc=[]then u else aN s u)\/((if acc=[]then t else bg s 32 t).ok=false/\(if acc=[]then u else aN s u).bad=true))/\cD s t (if acc=[]then t else bg s 32 t)/\bX s u (if acc=[]then u else aN s u):=by
     by_cases ha:acc=[]
     ·rw[am1 ha,am1 ha];exact⟨.inl h,.refl htl,.refl hul⟩
     ·rw[amU ha,amU ha,<-agN];exact⟨oM h,dM s t htl,cg s u hul⟩
    generalize(if acc=[]then t else bg s 32 t)=t1 at*;generalize(if acc=[]then u else aN s u)=u1 at*;obtain⟨h1,kP,kR⟩:=h1;have kV:=hP t1 kP.lt;have kW:=hR u1 kR.lt;rcases h1 with h1|⟨h1,h2⟩
    ·rcases hV t1 u1 h1 with⟨g1,g2,g3⟩|⟨g1,g2⟩|⟨g1,g2,g3⟩
     ·rw[g2];have:=kV.2 g1.ok;have e1:=h1.pos;have e2:=g1.pos;have e3:=g1.le;have e4:=kR.le;refine uW hV hP hR n m _ _ _ g1 (by omega) (by omega) ?_;rw[vD,<-g2];omega
     ·right;left;refine⟨C1 ((mv hP n _ _ kV.1.lt).nok g1),?_⟩;rcases g2 with g2|g2
      ·exact(fO hR m _ _ kW.1.lt).bb g2
      ·obtain⟨m,rfl⟩:∃x,m=x+1:=⟨m-1,by omega⟩;have hg:(aN s (VR u1).2).bad=true:=ld (.inr g2.I4);have hgk:=cg s _ kW.1.lt;unfold fL;split
       ·assumption
       ·rw[amU (λe=>by
         obtain⟨c,q1,q2⟩:=g2;rw[(Ez s 93 _).1 e]at q1;cases q1;simp[bl]at q2)]
        rw[amU (by simp)];have h3:=hR _ hgk.lt;exact(fO hR m _ _ h3.1.lt).bb (h3.1.bb hg)
     ·right;have ui:(fL s VR m (acc++[(VR u1).1]) (VR u1).2).2.bad=true:=(fO hR m _ _ kW.1.lt).bb g2;have hdp:=vE s VP n (acc++[(VP t1).1]) (VP t1).2;rw[vD]at hdp;cases hok:(bg s 93 (iK s VP n (acc++[(VP t1).1]) (VP t1).2).2).ok
      ·exact .inl ⟨rfl,ui⟩
      ·exact .inr ⟨rfl,ui,by omega⟩
    ·right;left;refine⟨C1 ((mv hP n _ _ kV.1.lt).nok (kV.1.nok h1)),(fO hR m _ _ kW.1.lt).bb (kW.1.bb h2)⟩
   ·rw[amU (by simp[hlt])];right;left;have mE:s[u.pos]?=none:=by rw[ank];omega
    refine⟨by unfold bg;rw[hpm];simp[hlt],?_⟩;have h1:(VR (if acc=[]then u else aN s u)).2.bad=true/\(VR (if acc=[]then u else aN s u)).2.pos<=s.length+1:=by
     by_cases ha:acc=[]
     ·rw[am1 ha];refine⟨?_,(hR u hul).1.lt⟩;have kV:=hP t htl;have e1:=h.pos;have e2:=kV.1.lt;rcases hV t u h with⟨g1,_⟩|⟨_,g2|⟨c,q1,_⟩⟩|⟨g1,_⟩
      ·have:=kV.2 g1.ok;omega
      ·exact g2
      ·have:=(hR u hul).1.le;have:=(amV.1 q1).1;omega
      ·have:=kV.2 g1;omega
     ·rw[amU ha];have hg:(aN s u).bad=true:=by unfold aN;rw[mE];simp
      have hk:=hR _ (cg s u hul).lt;exact⟨hk.1.bb hg,hk.1.lt⟩
    exact(fO hR m _ _ h1.2).bb h1.1
 termination_by n=>n
theorem aaB{p:UInt8->Bool}(a r:Str)(ha:∀c∈a,p c=true):(a++r).takeWhile p=a++r.takeWhile p:=by
 induction a with
 |nil=>rfl
 |cons c a ih=>
  have:=ih λd hd=>ha d (by simp[hd])
  simp[ha c (by simp),this]
theorem Td{c:UInt8}{w:Str}(hc:gx c=false)(h45:c≠45):fD (c::w)=false:=by
 cases h:fD (c::w)
 ·rfl
 ·exfalso;obtain⟨n,_,_,h2,_⟩:=(mP _).1 h;unfold Lib.itoa at h2;split at h2
  ·simp at h2;exact h45 h2.1
  ·have:=uM n.toNat c (by rw[<-h2];simp);rw[this]at hc;cases hc
theorem zi{s w:Str}{b:UInt8}{t:PS}{u:RS}(h:At s t u)(hw:∀c∈(b::w),bl true c=true)(hst:e_ s (b::w) u=true):
  (bZ s true t=b::w/\At s (cR s true t) (dA s (b::w) u))\/(bZ s true t≠b::w/\(∃r,bZ s true t=(b::w)++r)/\xu s true (dA s (b::w) u)):=by
 obtain⟨r,h1,h2⟩:=Jr hst;have e:bZ s true t=(b::w)++r.takeWhile (bl true):=by
  unfold bZ;rw[h.pos,h1];exact aaB _ _ hw
 have eT:dA s (b::w) u=⟨u.pos+(b::w).length,u.bad⟩:=by unfold dA;rw[am1 hst]
 cases hr:r.takeWhile (bl true)with
 |nil=>
  left;rw[hr,am5]at e;refine⟨e,?_⟩;rw[eT];unfold cR;rw[e,h.ok];exact⟨rfl,h.bad,by simp[h.pos],h2,h.first⟩
 |cons c q=>
  right;rw[hr]at e;refine⟨?_,⟨_,e⟩,?_⟩
  ·rw[e];intro he;have:=congrArg List.length he;simp at this
  ·rw[eT];cases r with
   |nil=>simp at hr
   |cons d r'=>
    have hd:bl true d=true:=by
     cases hb:bl true d
     ·rw[aog (by simp[hb])]at hr;cases hr
     ·rfl
    refine⟨d,?_,hd⟩;have this:(s.drop u.pos)[(b::w).length]?=((b::w)++d::r')[(b::w).length]?:=congrArg (λl:Str=>l[(b::w).length]?) h1;rw[anl,anj (amY _),aoS]at this;exact this
theorem yP{s:Str}{k:Nat}{VP:PS->Val×PS}{L:RS->Val×RS}(hL:∀t u,At s t u->s[u.pos]?=some 91->VSm s k (lZ s VP t) (gR s VP t) (L (dA s [91] u)).1 (L (dA s [91] u)).2){t:PS}{u:RS}(h:At s t u):
  VSm s k (if bB s t=true then(if s[t.pos]?=some 34 then((.mk 3 0 (jd s t) []:Val),ef s t)else if s[t.pos]?=some 91 then(lZ s VP t,gR s VP t)else(i_ s t,gy s t))else(Val.zero,⟨t.pos,t.first,false⟩)).1
   (if bB s t=true then(if s[t.pos]?=some 34 then((.mk 3 0 (jd s t) []:Val),ef s t)else if s[t.pos]?=some 91 then(lZ s VP t,gR s VP t)else(i_ s t,gy s t))else(Val.zero,⟨t.pos,t.first,false⟩)).2 (o6 s L u).1 (o6 s L u).2:=by
 have hpm:bB s t=decide (u.pos<s.length):=by unfold bB;rw[h.ok,h.pos];simp
 unfold o6;rw[hpm,h.bad,h.pos];simp only[am7,ans];have hne:∀ {b c:UInt8} {w:Str},s[u.pos]?=some c->c≠b->¬e_ s (b::w) u=true:=λhc hcb e=>by
  have:=Kc e;rw[hc]at this;cases this;exact hcb rfl
 cases hc:s[u.pos]? with
 |none=>
  have hge:s.length<=u.pos:=by rw[ank]at hc;omega
  have hf:∀ {b:UInt8} {w:Str},¬e_ s (b::w) u=true:=λe=>by have:=Kc e;rw[hc]at this;cases this
  rw[amU (by simp;omega),amU (show ¬e_ s d_ u=true from hf),amU (show ¬e_ s dk u=true from hf),amU (by simp),amU (show ¬e_ s [91] u=true from hf)];right;left;refine⟨rfl,.inl ?_⟩;have e:s.drop u.pos=[]:=anf hge;unfold dU kU;rw[e];simp[fH,fF,jF]
 |some c=>
  have hlt:=(amV.1 hc).1;rw[am1 (by simp[hlt])];by_cases h34:c=34
  ·subst h34;rw[am1 rfl,amU (show ¬e_ s d_ u=true from hne hc (by decide)),amU (show ¬e_ s dk u=true from hne hc (by decide)),am1 rfl];rcases zp h with⟨q1,q2⟩|⟨q1,q2⟩
   ·exact .inl ⟨q1,by rw[q2],by simp[dep]⟩
   ·exact .inr (.inl ⟨q1,.inl q2⟩)
  ·by_cases h91:c=91
   ·subst h91;rw[amU (by simp),am1 rfl,amU (show ¬e_ s d_ u=true from hne hc (by decide)),amU (show ¬e_ s dk u=true from hne hc (by decide)),amU (by simp),am1 ((Ez s 91 u).2 hc)];exact hL t u h hc
   ·have n34:¬some c=some 34:=by simpa using h34
    have n91:¬some c=some 91:=by simpa using h91
    have nst:¬e_ s [91] u=true:=hne hc h91;rw[amU n34,amU n91];have eW:bZ s true t=(s.drop u.pos).takeWhile (bl true):=by unfold bZ;rw[h.pos]
    by_cases hT:e_ s d_ u=true
    ·rw[am1 hT];rcases zi (b:=116) h (by decide) hT with⟨q1,q2⟩|⟨q1,⟨r,q2⟩,q3⟩
     ·left;have q1':bZ s true t=d_:=q1;refine⟨?_,?_,by simp[i_,q1',dep]⟩
      ·unfold gy;rw[am1 q1'];exact q2
      ·unfold i_;rw[am1 q1']
     ·right;left;have q1':¬bZ s true t=d_:=q1;have qf:¬bZ s true t=dk:=by rw[q2];intro e;simp[dk]at e
      refine⟨?_,.inr q3⟩;unfold gy;rw[amU q1',amU qf,q2];rw[show((116:UInt8)::[114,117,101])++r=116::([114,117,101]++r)from rfl,Td (by decide) (by decide)];simp
    ·rw[amU hT];have nT:¬bZ s true t=d_:=λe=>hT (by
      obtain⟨r,q1,_⟩:=lO (bl true) (s.drop u.pos);rw[<-eW,e]at q1;exact KW q1 h.le)
     by_cases hF:e_ s dk u=true
     ·rw[am1 hF];rcases zi (b:=102) h (by decide) hF with⟨q1,q2⟩|⟨q1,⟨r,q2⟩,q3⟩
      ·left;have q1':bZ s true t=dk:=q1;refine⟨?_,?_,by simp[i_,q1',dk,d_,dep]⟩
       ·unfold gy;rw[amU nT,am1 q1'];exact q2
       ·unfold i_;rw[amU nT,am1 q1']
      ·right;left;have q1':¬bZ s true t=dk:=q1;refine⟨?_,.inr q3⟩;unfold gy;rw[amU nT,amU q1',q2];rw[show((102:UInt8)::[97,108,115,101])++r=102::([97,108,115,101]++r)from rfl,Td (by decide) (by decide)];simp
     ·rw[amU hF,amU n34,amU nst];have nF:¬bZ s true t=dk:=λe=>hF (by
       obtain⟨r,q1,_⟩:=lO (bl true) (s.drop u.pos);rw[<-eW,e]at q1;exact KW q1 h.le)
      rcases DP (cl:=true) h.bad h.le with⟨d1,d2,d3,d4,d5⟩|⟨d1,d2⟩
      ·rw[<-eW]at d1 d3 d4 d5;left;refine⟨⟨?_,d2,?_,by rw[d4];exact d5,?_⟩,?_,?_⟩
       ·unfold gy;rw[amU nT,amU nF];unfold cR;simp[h.ok,Er d1,d1]
       ·unfold gy;rw[amU nT,amU nF,d4];show t.pos+_=_
        rw[h.pos]
       ·unfold gy;rw[amU nT,amU nF];exact h.first
       ·unfold i_;rw[amU nT,amU nF,d3]
       ·unfold i_;rw[amU nT,amU nF];simp[dep]
      ·right;left;rw[<-eW]at d1;refine⟨?_,d2⟩;unfold gy;rw[amU nT,amU nF,d1];simp
theorem C4(s:Str):∀(k:Nat) (t:PS) (u:RS),At s t u->VSm s k (jb s (k+1) t).1 (jb s (k+1) t).2 (fm s k u).1 (fm s k u).2
 |0,t,u,h=>by
  have h2:=yP (k:=0) (VP:=jb s 0) (L:=λt=>(.mk 4 0 [] [],⟨t.pos,true⟩)) (λt u h hc=>by
   cases hk:(gR s (jb s 0) t).ok
   ·exact .inr (.inl ⟨hk,.inl rfl⟩)
   ·exact .inr (.inr ⟨hk,rfl,by simp[lZ,dep];omega⟩)) h
  exact h2
 |k+1,t,u,h=>by
  have h2:=yP (k:=k+1) (VP:=jb s (k+1)) (L:=λt=>(.mk 4 0 [] (lI s (fm s k) t).1,(lI s (fm s k) t).2)) (λt u h hc=>by
   have hlt:=(amV.1 hc).1;have e:bg s 91 t=⟨t.pos+1,t.first,t.ok⟩:=by
    unfold bg bB;rw[h.ok,h.pos,hc];simp[hlt]
   have e2:dA s [91] u=⟨u.pos+1,u.bad⟩:=by unfold dA;rw[am1 ((Ez s 91 u).2 hc)];rfl
   have hA:At s (bg s 91 t) (dA s [91] u):=by
    rw[e,e2];exact⟨h.ok,h.bad,by simp[h.pos],by simp only;omega,h.first⟩
   have hi:=uW (C4 s k) (lA s (k+1)) (fU s k) (s.length+2) (s.length+3) [] _ _ hA (by omega) (by omega) (by simp[qH]);unfold lZ gR oE lI;rcases hi with⟨i1,i2,i3⟩|⟨i1,i2⟩|⟨i1,i2,i3⟩
   ·exact .inl ⟨i1,by rw[i2],by simp only[dep,anH];omega⟩
   ·exact .inr (.inl ⟨i1,.inl i2⟩)
   ·exact .inr (.inr ⟨i1,i2,by simp only[dep,anH];omega⟩)) h
  exact h2
open Go.Eng Go.St
theorem NJ(k n:Int)(s:Str)(l:List Val):kl k n s l = !(jT k n s l):=by
 unfold kl jT;by_cases k1:k=1
 ·subst k1;by_cases hs:s=[]<;>by_cases hl:l.length=0<;>simp[hs,hl]<;>omega
 by_cases k2:k=2
 ·subst k2;by_cases hs:s=[]<;>by_cases hl:l.length=0<;>simp[hs,hl]<;>omega
 by_cases k3:k=3
 ·subst k3;by_cases hn:n=0<;>by_cases hl:l.length=0<;>simp[hn,hl]<;>omega
 by_cases k4:k=4
 ·subst k4;by_cases hn:n=0<;>by_cases hs:s=[]<;>simp[hn,hs]
 ·rw[amU (by omega),amU k3,amU k4];have:k<1\/4<k:=by omega
  rcases this with h|h<;>simp[h]
theorem Qr(k n:Int):lY k n=oY k n:=by
 unfold lY oY;have e:(!(decide (-1099511627776<=n)&&decide (n<=1099511627776)))=(decide (n < -1099511627776)||decide (1099511627776<n)):=by
  by_cases a : -1099511627776<=n<;>by_cases b:n<=1099511627776<;>simp[a,b]<;>omega
 rw[e]
def TyM(ts:List Ty)(o:Option Ty×Bool):Prop:=
 match ts with
 |[]=>o=(none,true)
 |t::l=>match kO l t with
  |some x=>o=(some x,true)
  |none=>o.2=false
theorem yT:∀(l:List Ty) (t x:Ty),kO (l++[x]) t=match kO l t with|some y=>di y x|none=>none
 |[],t,x=>by
  simp only[anx,kO];cases di t x<;>rfl
 |u::l,t,x=>by
  simp only[anB,kO];cases di t u with
  |none=>rfl
  |some v=>exact yT l v x
theorem Xl{ts:List Ty}{o:Option Ty×Bool}(h:TyM ts o)(t:Ty):TyM (ts++[t]) (if o.2=false then o else u5 o.1 t):=by
 cases ts with
 |nil=>
  have h':o=(none,true):=h;subst h';rfl
 |cons t0 l=>
  unfold TyM at h ⊢;simp only[anB]at h ⊢;rw[yT];cases hj:kO l t0 with
  |none=>
   rw[hj]at h;have h':o.2=false:=h;rw[am1 h'];exact h'
  |some x=>
   rw[hj]at h;have h':o=(some x,true):=h;subst h';simp only[aon,ans];unfold u5;simp only;cases hx:di x t with
   |none=>simp
   |some y=>simp
mutual
theorem u7:∀(v:Val) (d m:Int),((chk d v m).1=0/\(dw (d+1) v m).1=0/\(chk d v m).2=(dw (d+1) v m).2)\/((chk d v m).1≠0/\(dw (d+1) v m).1≠0)
 |.mk k n s l,d,m=>by
  unfold Go.St.chk dw;by_cases h1:k=4/\16<=d
  ·rw[am1 h1,am1 ⟨h1.1,by omega⟩];right;simp
  rw[amU h1,amU (show ¬(k=4/\16<d+1)from λe=>h1 ⟨e.1,by omega⟩),NJ,Qr];cases h2:jT k n s l;case true=>right;simp
  cases h3:oY k n;case true=>right;simp
  simp only[Bool.not_false,aon,am7,ans];by_cases h4:2000<s.length\/100<l.length\/1000<m+1
  ·rw[am1 h4,am1 h4];right;simp
  rw[amU h4,amU h4];cases h5:Lib.validD s
  ·right;simp
  simp only[aon,ans];by_cases h6:k=4
  ·subst h6;simp only[ne_eq,aot,ans];rcases yL l (d+1) (m+1) [] (none,true) rfl with⟨q1,q2,q3,q4⟩|⟨q1,q2⟩
   ·unfold nY;rw[amU (by simp[q1]),amU (by simp[q2]),q4];generalize(nR (d+1) l (m+1) []).2.1=ts at*;generalize(fe (d+1+1) l (m+1) (none,true)).2.1=o at*;cases ts with
    |nil=>
     have q3':o=(none,true):=q3;subst q3';left;exact⟨rfl,by simp,by simp[jW]⟩
    |cons t0 l0=>
     unfold TyM at q3;simp only at q3;unfold jW;cases hj:kO l0 t0 with
     |none=>
      rw[hj]at q3;have q3':o.2=false:=q3;rw[am1 q3'];right;simp[hj]
     |some x=>
      rw[hj]at q3;have q3':o=(some x,true):=q3;subst q3';left;simp[hj]
   ·right;unfold nY;rw[am1 q1,am1 q2];exact⟨q1,q2⟩
  ·have hl:l=[]:=by
    unfold jT at h2;simp only[anC]at h2;have:=h2.2;simp only[an_,ano]at this;rcases this with h|h
    ·cases l with
     |nil=>rfl
     |cons a b=>simp at h
    ·exact absurd h6 h
   subst hl;left;simp[h6,fe,nY]
theorem yL:∀(l:List Val) (d m:Int) (ts:List Ty) (o:Option Ty×Bool),TyM ts o->
  ((nR d l m ts).1=0/\(fe (d+1) l m o).1=0/\TyM (nR d l m ts).2.1 (fe (d+1) l m o).2.1/\(nR d l m ts).2.2=(fe (d+1) l m o).2.2)\/((nR d l m ts).1≠0/\(fe (d+1) l m o).1≠0)
 |[],d,m,ts,o,h=>.inl ⟨rfl,rfl,h,rfl⟩
 |v::l,d,m,ts,o,h=>by
  unfold nR fe;rcases u7 v d m with⟨q1,q2,q3⟩|⟨q1,q2⟩
  ·rw[amU (by simp[q1]),amU (by simp[q2]),q3];have:=Xl h (dw (d+1) v m).2.1;have e:(if o.2=false then fe (d+1) l (dw (d+1) v m).2.2 o else fe (d+1) l (dw (d+1) v m).2.2 (u5 o.1 (dw (d+1) v m).2.1))=fe (d+1) l (dw (d+1) v m).2.2 (if o.2=false then o else u5 o.1 (dw (d+1) v m).2.1):=by
    split<;>rfl
   rw[e];exact yL l d _ _ _ this
  ·rw[am1 q1,am1 q2];exact .inr ⟨q1,q2⟩
end
mutual
theorem LV:∀(v:Val) (d m:Int),(chk d v m).1=0->dep v=0\/d+dep v<=16
 |.mk k n s l,d,m,h=>by
  unfold Go.St.chk at h;by_cases h6:k=4
  ·subst h6;right;by_cases h1:16<=d
   ·rw[am1 ⟨rfl,h1⟩]at h;simp at h
   rw[amU (λe=>h1 e.2)]at h;have hL:(nR (d+1) l (m+1) []).1=0:=by
    split at h
    ·simp at h
    split at h
    ·simp at h
    split at h
    ·simp at h
    split at h
    ·simp at h
    simp only[ne_eq,aot,ans]at h;split at h
    ·simpa using h
    ·rename_i hh;simpa using hh
   have:=Ew l (d+1) (m+1) [] hL;simp only[dep,anH];rcases this with h|h<;>omega
  ·left;simp[dep,h6]
theorem Ew:∀(l:List Val) (d m:Int) (ts:List Ty),(nR d l m ts).1=0->qH l=0\/d+qH l<=16
 |[],d,m,ts,h=>.inl rfl
 |v::l,d,m,ts,h=>by
  unfold nR at h;by_cases h1:(chk d v m).1=0
  ·rw[amU (by simp[h1])]at h;have q1:=LV v d m h1;have q2:=Ew l d _ _ h;simp only[qH];rcases q1 with q1|q1<;>rcases q2 with q2|q2<;>omega
  ·rw[am1 h1]at h;exact absurd h h1
end
theorem y8(v:Val):mT v=0↔(dw 1 v 0).1=0:=by
 have:=u7 v 0 0;rw[show(0:Int)+1=1 from rfl]at this;unfold mT;rcases this with⟨h1,h2,_⟩|⟨h1,h2⟩
 ·rw[h1,h2]
 ·exact⟨λh=>absurd h h1,λh=>absurd h h2⟩
theorem Rj{v:Val}(h:16<dep v):mT v≠0:=λe=>by
 have:=LV v 0 0 e;omega
def ei(s:Str)(t:RS):RS:=bu (fm s 16 (aN s t)).2 (decide ((dw 1 (fm s 16 (aN s t)).1 0).1≠0))
def gw(s:Str):Nat->List Val->RS->List Val×RS
 |0,acc,t=>(acc,t)
 |n+1,acc,t=>if t.bad=true then(acc,t)else if s.length<=t.pos then(acc,t)else gw s n (acc++[(fm s 16 (aN s t)).1]) (ei s t)
def y6(s:Str)(t:RS):List Val×RS:=gw s (s.length+3) [] t
theorem jM(s:Str)(t:RS)(ht:t.pos<=s.length+1):bX s t (ei s t)/\((ei s t).bad=false->t.pos<(ei s t).pos):=by
 have h1:=cg s t ht;have h2:=fU s 16 _ h1.lt;refine⟨⟨ane h1.le h2.1.le,h2.1.lt,λh=>?_⟩,λh=>?_⟩
 ·unfold ei bu at h;simp only[anC]at h;exact h1.ok (h2.1.ok h.1)
 ·unfold ei bu at h;simp only[anC]at h;exact aom h1.le (h2.2 h.1)
theorem gO(s:Str):∀(n:Nat) (acc:List Val) (t:RS),t.pos<=s.length+1->bX s t (gw s n acc t).2
 |0,acc,t,ht=>bX.refl ht
 |n+1,acc,t,ht=>by
  unfold gw;split
  ·exact bX.refl ht
  ·split
   ·exact bX.refl ht
   ·exact(jM s t ht).1.trans (gO s n _ _ (jM s t ht).1.lt)
theorem yx(s:Str):∀(n m:Nat) (acc:List Val) (t:PS) (u:RS),At s t u->s.length-u.pos+1<=n->s.length-u.pos+2<=m->
  (At s (ml s n acc t).2 (gw s m acc u).2/\(ml s n acc t).1=(gw s m acc u).1)\/((ml s n acc t).2.ok=false/\(gw s m acc u).2.bad=true)
 |n,m,acc,t,u,h,hn,hm=>by
  obtain⟨n,rfl⟩:∃x,n=x+1:=⟨n-1,by omega⟩;obtain⟨m,rfl⟩:∃x,m=x+1:=⟨m-1,by omega⟩;have hpm:bB s t=decide (u.pos<s.length):=by unfold bB;rw[h.ok,h.pos];simp
  have htl:t.pos<=s.length:=by rw[h.pos];exact h.le
  have hul:u.pos<=s.length+1:=by have:=h.le;omega
  unfold ml gw;rw[hpm,h.bad];simp only[am7,ans];by_cases hlt:u.pos<s.length
  ·rw[am1 (by simp[hlt]),amU (by omega)];have kP:=pM s t htl;have kR:=jM s u hul;have off:(je s t).ok=false->(ei s u).bad=true->((ml s n (acc++[oQ s (bE s t)]) (je s t)).2.ok=false/\(gw s m (acc++[(fm s 16 (aN s u)).1]) (ei s u)).2.bad=true):=λa b=>
    ⟨(lV s n _ _ kP.1.lt).nok a,(gO s m _ _ kR.1.lt).bb b⟩
   rcases oM h with h1|⟨h1,h2⟩
   ·have hv:=C4 s 16 _ _ h1;have hv':VSm s 16 (oQ s (bE s t)) (lX s (bE s t)) (fm s 16 (aN s u)).1 (fm s 16 (aN s u)).2:=hv;rcases hv' with⟨g1,g2,g3⟩|⟨g1,g2⟩|⟨g1,g2,g3⟩
    ·by_cases hc:mT (oQ s (bE s t))=0
     ·have hc2:=(y8 _).1 hc;have hA:At s (je s t) (ei s u):=by
       unfold je ei bu;rw[<-g2,hc,hc2];exact⟨by simp[g1.ok],by simp[g1.bad],g1.pos,g1.le,g1.first⟩
      have:=kP.2 hA.ok;have e1:=h.pos;have e2:=hA.pos;have e3:=hA.le;rw[<-g2];exact yx s n m _ _ _ hA (by omega) (by omega)
     ·right;refine off ?_ ?_
      ·unfold je;simp[hc]
      ·unfold ei bu;have:¬(dw 1 (fm s 16 (aN s u)).1 0).1=0:=λe=>hc ((y8 _).2 (by rw[g2];exact e))
       simp[this]
    ·right;have hP:(je s t).ok=false:=by unfold je;simp[g1]
     rcases g2 with g2|g2
     ·exact off hP (by unfold ei bu;simp[g2])
     ·by_cases hb:(ei s u).bad=true
      ·exact off hP hb
      ·refine⟨(lV s n _ _ kP.1.lt).nok hP,?_⟩;obtain⟨m,rfl⟩:∃x,m=x+1:=⟨m-1,by omega⟩;have hd:xu s true (ei s u):=g2;have hg:(aN s (ei s u)).bad=true:=ld (.inr hd.I4);have hgk:=cg s _ kR.1.lt;have ot:¬s.length<=(ei s u).pos:=by
        obtain⟨c,q1,_⟩:=hd;have:=(amV.1 q1).1;omega
       unfold gw;rw[amU hb,amU ot];have k3:=jM s (ei s u) kR.1.lt;refine(gO s m _ _ k3.1.lt).bb ?_;have k4:=fU s 16 _ hgk.lt;have:=k4.1.bb hg;unfold ei bu at this ⊢;simp only at this ⊢;rw[this];rfl
    ·right;refine off ?_ ?_
     ·have:¬mT (oQ s (bE s t))=0:=Rj g3;unfold je;simp[this]
     ·unfold ei bu;simp[g2]
   ·right;have k1:=dM s t htl;have k2:=cg s u hul;have k3:=(lA s 17 _ k1.lt).1.nok h1;have k4:=(fU s 16 _ k2.lt).1.bb h2;refine off ?_ ?_
    ·unfold je lX;simp[k3]
    ·unfold ei bu;simp[k4]
  ·rw[amU (by simp[hlt]),am1 (by omega)];exact .inl ⟨h,rfl⟩
 termination_by n=>n
open Go.Eng Go.St
def k_:List Str:=[QS,QY,adK,ga,On,K5]
def ie:List Str:=[nu,jP]
def jE:List Str:=[ji,jx]
def h_:List Str:=[jV,iw,ix,ga]
def cF:List Str:=[de,kh,gQ,gK,gH,gS,dN,db]
theorem kF.seq{α γ:Type}{s:Str}{c1 c2:Bool}{fV:PS->α}{fT:PS->PS}{gV:RS->α}{gT:RS->RS}{fV2:PS->γ}{fT2:PS->PS}{gV2:RS->γ}{gT2:RS->RS}(a:kF s c1 fV fT gV gT)(b:kF s c2 fV2 fT2 gV2 gT2):
  kF s false (λt=>(fV t,fV2 (fT t))) (λt=>fT2 (fT t)) (λu=>(gV u,gV2 (gT u))) (λu=>gT2 (gT u)):=by
 refine⟨λt u h=>?_,λt u h=>b.off _ _ (a.off _ _ h)⟩;rcases a.go t u h with⟨h1,h2⟩|h1
 ·rcases b.go _ _ h1 with⟨h3,h4⟩|h3
  ·exact .inl ⟨h3,by rw[h2,h4]⟩
  ·exact .inr h3.I4
 ·exact .inr (b.off _ _ h1.I4)
theorem kF.map{α γ:Type}{s:Str}{c:Bool}{fV:PS->α}{fT:PS->PS}{gV:RS->α}{gT:RS->RS}(F:α->γ)(a:kF s c fV fT gV gT):kF s c (λt=>F (fV t)) fT (λu=>F (gV u)) gT:=
 ⟨λt u h=>(a.go t u h).imp (λx=>⟨x.1,by rw[x.2]⟩) id,a.off⟩
theorem kF.same{α:Type}{s:Str}{c:Bool}{fV fV':PS->α}{fT fT':PS->PS}{gV gV':RS->α}{gT gT':RS->RS}(a:kF s c fV fT gV gT)(h1:∀t,fV' t=fV t)(h2:∀t,fT' t=fT t)(h3:∀u,gV' u=gV u)(h4:∀u,gT' u=gT u):kF s c fV' fT' gV' gT':=by
 refine⟨λt u h=>?_,λt u h=>?_⟩
 ·rw[h1,h2,h3,h4];exact a.go t u h
 ·rw[h2,h4];exact a.off t u h
theorem nr(s:Str)(t:RS)(ht:t.pos<=s.length+1):bX s t (aX s t):=by
 have h1:(aP s t).length<=s.length-t.pos:=by
  have:=mD (bl false) (s.drop t.pos);rw[am3]at this;exact this
 unfold aX;exact⟨by simp,by simp only;omega,id⟩
theorem sK{s:Str}{t:PS}{u:RS}(h:At s t u):(bT s t=aP s (aN s u)/\(aP s (aN s u)≠[]->At s (bq s t) (aX s (aN s u)))/\(aP s (aN s u)=[]->(bq s t).ok=false))\/((bq s t).ok=false/\(aX s (aN s u)).bad=true):=by
 rcases oM h with h1|⟨h1,h2⟩
 ·left;have e:bT s t=aP s (aN s u):=by unfold bT bZ aP;rw[h1.pos]
  have hl:(aP s (aN s u)).length<=s.length-(aN s u).pos:=by
   have:=mD (bl false) (s.drop (aN s u).pos);rw[am3]at this;exact this
  have hle:=h1.le;refine⟨e,λhw=>⟨?_,h1.bad,?_,?_,h1.first⟩,λhw=>?_⟩
  ·unfold bq cR;unfold bT at e;simp only;rw[e,h1.ok];cases hh:aP s (aN s u)with
   |nil=>exact absurd hh hw
   |cons c l=>rfl
  ·show(bE s t).pos+(bT s t).length=(aN s u).pos+(aP s (aN s u)).length
   rw[e,h1.pos]
  ·show(aN s u).pos+(aP s (aN s u)).length<=s.length
   omega
  ·unfold bq cR;unfold bT at e;simp only;rw[e,hw];simp
 ·right;refine⟨?_,h2⟩;unfold bq cR;simp[h1]
theorem wM{s:Str}{t:PS}{u:RS}(h:pT s false t u):(bq s t).ok=false/\(aX s (aN s u)).bad=true/\(bq s t).pos<=s.length/\(aX s (aN s u)).pos<=s.length+1:=by
 have hk:=fW s t h.lt;have hg:=cg s u h.ru;have hr:=nr s _ hg.lt;exact⟨hk.nok h.ok,hr.bb (ld h.off),hk.lt,hr.lt⟩
def sQ(l:List Str)(s:Str)(u:RS):Int:=jg l (aP s (aN s u))
def oj(l:List Str)(s:Str)(u:RS):RS:=bu (aX s (aN s u)) (decide (sQ l s u<0))
theorem xD(s:Str)(l l':List Str){t:PS}{u:RS}(h:pT s false t u):pT s false (aL s l t) (oj l' s u):=by
 obtain⟨h1,h2,h3,h4⟩:=wM h;refine .of ?_ h3 h4 ?_
 ·unfold aL;simp[h1]
 ·unfold oj bu;simp[h2]
theorem pP{s:Str}{l l':List Str}{t:PS}{u:RS}(h:At s t u)(hi:∀w:Str,w≠[]->(idx l w<0↔jg l' w<0)):
  (At s (aL s l t) (oj l' s u)/\bf s l t=idx l (aP s (aN s u))/\aP s (aN s u)≠[]/\¬sQ l' s u<0)\/pT s false (aL s l t) (oj l' s u):=by
 have hk:=fW s t (by rw[h.pos];exact h.le);have hg:=cg s u (by have:=h.le;omega);have hr:=nr s _ hg.lt;rcases sK h with⟨w1,w2,w3⟩|⟨w1,w2⟩
 ·by_cases hw:aP s (aN s u)=[]
  ·right;refine .of ?_ hk.lt hr.lt ?_
   ·unfold aL;simp[w3 hw]
   ·unfold oj bu sQ jg;simp[hw]
  ·have hA:=w2 hw;have e:bf s l t=idx l (aP s (aN s u)):=by unfold bf;rw[w1]
   by_cases hx:sQ l' s u<0
   ·right;refine .of ?_ hk.lt hr.lt ?_
    ·have:=(hi _ hw).2 hx;unfold aL;rw[w1];have h2:¬0<=idx l (aP s (aN s u)):=by omega
     simp[h2]
    ·unfold oj bu;simp[hx]
   ·left;refine⟨⟨?_,?_,hA.pos,hA.le,hA.first⟩,e,hw,hx⟩
    ·have h0:¬idx l (aP s (aN s u))<0:=λq=>hx ((hi _ hw).1 q)
     unfold aL;rw[w1,hA.ok];have h2:0<=idx l (aP s (aN s u)):=by omega
     simp[h2]
    ·unfold oj bu;rw[hA.bad];simp only[hx,aoz,Bool.or_self]
 ·right;refine .of ?_ hk.lt hr.lt ?_
  ·unfold aL;simp[w1]
  ·unfold oj bu;simp[w2]
theorem C5(s:Str)(l:List Str):kF s false (bf s l) (aL s l) (sQ l s) (oj l s):=by
 refine⟨λt u h=>?_,λt u h=>xD s l l h⟩;rcases pP (l:=l) (l':=l) h (λw hw=>by unfold jg;rw[amU hw])with⟨h1,h2,h3,h4⟩|h1
 ·refine .inl ⟨h1,?_⟩;rw[h2];unfold sQ jg;rw[amU h3]
 ·exact .inr h1
theorem Mt(l:List Str)(w:Str)(hw:w≠[]):idx ([]::l) w=if idx l w<0 then -1 else 1+idx l w:=by
 unfold idx;rw[aoG];have:(([]:Str)==w)=false:=by cases w with
  |nil=>exact absurd rfl hw
  |cons a b=>rfl
 rw[this];simp only[am7,ans];cases l.findIdx? (· == w)with
 |none=>simp
 |some i=>
  simp only[aoN];rw[amU (by omega)];omega
theorem MT(s:Str):kF s false (λt=>1+bf s k_ t) (aL s k_) (sQ gM s) (oj gM s):=by
 have hi:∀w:Str,w≠[]->(idx k_ w<0↔jg gM w<0):=λw hw=>by
  unfold jg;rw[amU hw];show _↔idx ([]::k_) w<0
  rw[Mt _ _ hw];split<;>omega
 refine⟨λt u h=>?_,λt u h=>xD s _ _ h⟩;rcases pP (l:=k_) (l':=gM) h hi with⟨h1,h2,h3,h4⟩|h1
 ·refine .inl ⟨h1,?_⟩;show 1+bf s k_ t=sQ gM s u
  rw[h2];have:¬idx k_ (aP s (aN s u))<0:=λq=>h4 ((hi _ h3).1 q)
  unfold sQ jg;rw[amU h3];show _=idx ([]::k_) _
  rw[Mt _ _ h3,amU this]
 ·exact .inr h1
def af5(o:Int)(n:Int×Int×Int×Int×Int):LA:=stN zIn 0 [I 1,I o,I n.1,I n.2.1,I n.2.2.1,I n.2.2.2.1,I n.2.2.2.2]
def Na(s:Str)(t:PS):List AV×PS:=
 let o:=1+bf s k_ t
 let t3:=aL s k_ t
 let t4:=bc s t3
 let t5:=bc s t4
 let t6:=bc s t5
 let t7:=bc s t6
 (af5 o (cQ s t3,cQ s t4,cQ s t5,cQ s t6,cQ s t7),bc s t7)
theorem O5(s:Str):kF s false (λt=>(Na s t).1) (λt=>(Na s t).2) (λu=>(MI s u).1) (λu=>(MI s u).2):=
 ((MT s).seq ((dT s).seq ((dT s).seq ((dT s).seq ((dT s).seq (dT s)))))).map (λx=>af5 x.1 x.2)
  |>.same (λt=>rfl) (λt=>rfl) (λu=>rfl) (λu=>rfl)
def yp(s:Str)(t:PS):List AV×PS:=(stN (stN zIn 0 [I 3]) 9 [I (cQ s t)],bc s t)
theorem Nz(s:Str):kF s false (λt=>(yp s t).1) (λt=>(yp s t).2) (λu=>(yB s u).1) (λu=>(yB s u).2):=
 (dT s).map (λx=>stN (stN zIn 0 [I 3]) 9 [I x]) |>.same (λt=>rfl) (λt=>rfl) (λu=>rfl) (λu=>rfl)
def yA(s:Str)(t:PS):List AV×PS:=(stN (stN (stN zIn 0 [I 4]) 10 [I (cQ s t)]) 11 [I (cQ s (bc s t))],bc s (bc s t))
theorem NM(s:Str):kF s false (λt=>(yA s t).1) (λt=>(yA s t).2) (λu=>(zl s u).1) (λu=>(zl s u).2):=
 ((dT s).seq (dT s)).map (λx=>stN (stN (stN zIn 0 [I 4]) 10 [I x.1]) 11 [I x.2]) |>.same (λt=>rfl) (λt=>rfl) (λu=>rfl) (λu=>rfl)
def zz(s:Str)(t:PS):List AV×PS:=
 let t3:=aL s ie t
 let t4:=aL s jE t3
 (stN (stN (stN zIn 0 [I 5]) 12 [.bool (bf s ie t==1),.bool (bf s jE t3==1),I 0]) 14 [I (cQ s t4)],bc s t4)
def rMd(s:Str)(t:RS):Bool×Bool:=(aP s (aN s t)==jP,aP s (aN s (aX s (aN s t)))==jx)
def Ar(s:Str)(t:RS):RS:=bu (aX s (aN s (aX s (aN s t)))) (gz (aP s (aN s t)) (aP s (aN s (aX s (aN s t)))))
theorem Cw(a b w:Str)(hab:a≠b):idx [a,b] w=if w=a then 0 else if w=b then 1 else -1:=by
 unfold idx;by_cases h1:w=a
 ·subst h1;simp[aoG]
 ·by_cases h2:w=b
  ·subst h2;simp[aoG,hab,h1]
  ·simp[aoG,h1,h2,aoL h1,aoL h2]
theorem FT(s:Str):kF s false (λt=>(bf s ie t==1,bf s jE (aL s ie t)==1)) (λt=>aL s jE (aL s ie t)) (rMd s) (Ar s):=by
 refine⟨λt u h=>?_,λt u h=>?_⟩
 ·have hk:=fW s t (by rw[h.pos];exact h.le);have hg:=cg s u (by have:=h.le;omega);have hr:=nr s _ hg.lt;have hg2:=cg s _ hr.lt;have hr2:=nr s _ hg2.lt;have hk2:=fW s (aL s ie t) hk.lt;have off:(aL s ie t).ok=false->(Ar s u).bad=true->pT s false (aL s jE (aL s ie t)) (Ar s u):=λa b=>by
   refine .of ?_ hk2.lt hr2.lt b;unfold aL at a ⊢;have:=hk2.nok a;unfold aL at this;rw[this];rfl
  have hb2:∀w w',gz w w' = !((decide (0<=idx ie w))&&decide (0<=idx jE w')):=λw w'=>by
   unfold gz ie jE;rw[Cw _ _ _ (by decide),Cw _ _ _ (by decide)];by_cases a1:w=nu
   ·subst a1;by_cases a2:w'=ji
    ·subst a2;decide
    ·by_cases a3:w'=jx
     ·subst a3;decide
     ·simp[a2,a3]
   ·by_cases a1':w=jP
    ·subst a1';by_cases a2:w'=ji
     ·subst a2;decide
     ·by_cases a3:w'=jx
      ·subst a3;decide
      ·simp[a2,a3]
    ·simp[a1,a1']
  rcases pP (l:=ie) (l':=ie) h (λw hw=>by unfold jg;rw[amU hw])with⟨h1,h2,h3,h4⟩|h1
  ·have hT:oj ie s u=aX s (aN s u):=by
    unfold oj bu;simp only[h4,aoz,Bool.or_false]
   rw[hT]at h1;have p1:0<=idx ie (aP s (aN s u)):=by
    unfold sQ jg at h4;rw[amU h3]at h4;omega
   rcases pP (l:=jE) (l':=jE) h1 (λw hw=>by unfold jg;rw[amU hw])with⟨q1,q2,q3,q4⟩|q1
   ·left;have p2:0<=idx jE (aP s (aN s (aX s (aN s u)))):=by
     unfold sQ jg at q4;rw[amU q3]at q4;omega
    have hT2:oj jE s (aX s (aN s u))=Ar s u:=by
     unfold oj Ar bu;rw[hb2];simp[q4,p1,p2]
    rw[hT2]at q1;refine⟨q1,?_⟩;rw[h2,q2];unfold rMd;unfold ie at p1 ⊢;unfold jE at p2 ⊢;rw[Cw _ _ _ (by decide)]at p1 p2 ⊢;rw[Cw _ _ _ (by decide)];generalize aP s (aN s u)=a at*;generalize aP s (aN s (aX s (aN s u)))=b at*;have hh:∀(w x y:Str),x≠y->(0<=if w=x then(0:Int)else if w=y then 1 else -1)->((if w=x then(0:Int)else if w=y then 1 else -1)==1)=(w==y):=by
     intro w x y hxy hp;by_cases e1:w=x
     ·subst e1;simp[hxy]
     ·by_cases e2:w=y
      ·subst e2;simp[e1]
      ·simp[e1,e2]at hp
    rw[hh _ _ _ (by decide) p1,hh _ _ _ (by decide) p2]
   ·right;refine⟨q1.ok,q1.lt,hr2.lt,?_⟩;left;rcases q1.off with q|⟨c,d1,d2⟩
    ·unfold oj bu at q;simp only[anV,ana]at q;unfold Ar bu;rcases q with q|q
     ·simp only;rw[q];rfl
     ·have hx:gz (aP s (aN s u)) (aP s (aN s (aX s (aN s u))))=true:=by
       rw[hb2];unfold sQ at q;have:¬0<=idx jE (aP s (aN s (aX s (aN s u)))):=by
        unfold jg at q;split at q
        ·rename_i hw;rw[hw];decide
        ·omega
       simp[this]
      simp only;rw[hx];simp
    ·have hc:(aX s (aN s (aX s (aN s u)))).bad=true\/bl false c=false:=by
      by_cases hw:bl false c=true
      ·exfalso;have e:(oj jE s (aX s (aN s u))).pos=(aN s (aX s (aN s u))).pos+((s.drop (aN s (aX s (aN s u))).pos).takeWhile (bl false)).length:=rfl;rw[e]at d1;obtain⟨r,r1,r2⟩:=lO (bl false) (s.drop (aN s (aX s (aN s u))).pos);have h9:=congrArg (λl:Str=>l[((s.drop (aN s (aX s (aN s u))).pos).takeWhile (bl false)).length]?) r1;rw[anj (amY _),aoS,anl,d1]at h9;cases r with
       |nil=>simp at h9
       |cons x y=>simp at h9;subst h9;have:=r2 c y rfl;rw[this]at hw;cases hw
      ·exact .inr (by simpa using hw)
     rcases hc with hc|hc
     ·unfold Ar bu;simp only;rw[hc];rfl
     ·rw[hc]at d2;cases d2
  ·right;refine off h1.ok ?_;rcases h1.off with q|⟨c,d1,d2⟩
   ·unfold oj bu at q;simp only[anV,ana]at q;unfold Ar bu;rcases q with q|q
    ·have:(aX s (aN s (aX s (aN s u)))).bad=true:=hr2.bb (hg2.bb q);simp only;rw[this];rfl
    ·have hx:gz (aP s (aN s u)) (aP s (aN s (aX s (aN s u))))=true:=by
      rw[hb2];unfold sQ at q;have:¬0<=idx ie (aP s (aN s u)):=by
       unfold jg at q;split at q
       ·rename_i hw;rw[hw];decide
       ·omega
      simp[this]
     simp only;rw[hx];simp
   ·exfalso;have e:(oj ie s u).pos=(aN s u).pos+((s.drop (aN s u).pos).takeWhile (bl false)).length:=rfl;rw[e]at d1;obtain⟨r,r1,r2⟩:=lO (bl false) (s.drop (aN s u).pos);have h9:=congrArg (λl:Str=>l[((s.drop (aN s u).pos).takeWhile (bl false)).length]?) r1;rw[anj (amY _),aoS,anl,d1]at h9;cases r with
    |nil=>simp at h9
    |cons x y=>simp at h9;subst h9;have:=r2 c y rfl;rw[this]at d2;cases d2
 ·obtain⟨h1,h2,h3,h4⟩:=wM h;have hP:(aL s ie t).ok=false:=by unfold aL;simp[h1]
  have hk2:=fW s (aL s ie t) h3;have hg2:=cg s _ h4;have hr2:=nr s _ hg2.lt;refine .of ?_ hk2.lt hr2.lt ?_
  ·have:=hk2.nok hP;unfold aL at this ⊢;rw[this];rfl
  ·unfold Ar bu;have:(aX s (aN s (aX s (aN s u)))).bad=true:=hr2.bb (hg2.bb h2);simp only;rw[this];rfl
theorem MN(s:Str):kF s false (λt=>(zz s t).1) (λt=>(zz s t).2) (λu=>(yU s u).1) (λu=>(yU s u).2):=
 ((FT s).seq (dT s)).map (λx=>stN (stN (stN zIn 0 [I 5]) 12 [.bool x.1.1,.bool x.1.2,I 0]) 14 [I x.2]) |>.same (λt=>rfl) (λt=>rfl) (λu=>rfl) (λu=>rfl)
def wT(s:Str)(t:PS):List AV×PS:=(stN (stN zIn 0 [I 6]) 15 [.psl (vCs (kL s t).1)],(kL s t).2)
def xk(s:Str)(t:RS):List AV×RS:=(stN (stN zIn 0 [I 6]) 15 [.psl (vCs (y6 s t).1)],(y6 s t).2)
theorem ND(s:Str):kF s false (λt=>(wT s t).1) (λt=>(wT s t).2) (λu=>(xk s u).1) (λu=>(xk s u).2):=by
 refine⟨λt u h=>?_,λt u h=>?_⟩
 ·have k1:=lV s (s.length+2) [] t (by rw[h.pos];exact h.le);have k2:=gO s (s.length+3) [] u (by have:=h.le;omega);rcases yx s (s.length+2) (s.length+3) [] t u h (by omega) (by omega)with⟨h1,h2⟩|⟨h1,h2⟩
  ·refine .inl ⟨h1,?_⟩;unfold wT xk kL y6;simp only;rw[h2]
  ·exact .inr (.of h1 k1.lt k2.lt h2)
 ·have k1:=lV s (s.length+2) [] t h.lt;have k2:=gO s (s.length+3) [] u h.ru;refine⟨k1.nok h.ok,k1.lt,k2.lt,?_⟩;rcases h.off with h1|h1
  ·exact .inl (k2.bb h1)
  ·by_cases hb:u.bad=true
   ·exact .inl (k2.bb hb)
   ·left;have hg:(aN s u).bad=true:=ld (.inr h1);have hgk:=cg s _ h.ru;have ot:¬s.length<=u.pos:=by
     obtain⟨c,q1,_⟩:=h1;have:=(amV.1 q1).1;omega
    show(gw s (s.length+3) [] u).2.bad=true
    unfold gw;rw[amU hb,amU ot];have k3:=jM s u h.ru;refine(gO s _ _ _ k3.1.lt).bb ?_;have:=(fU s 16 _ hgk.lt).1.bb hg;unfold ei bu;simp only;rw[this];rfl
def VN(a b o c d:Int)(x:Str):LA:=stN (stN (stN (stN (stN (stN (stN zIn 0 [I 7]) 16 [I a]) 17 [I b]) 18 [I ((2:Int)^(max o 0).toNat)]) 19 [I c]) 20 [I d]) 21 [.str x]
def Dr(s:Str)(t:PS):List AV×PS:=
 let t2:=bc s t
 let t3:=bc s t2
 let o:=bf s dI t3
 let t4:=aL s dI t3
 let t5:=bc s t4
 let t6:=bc s t5
 (VN (cQ s t) (cQ s t2) o (cQ s t4) (cQ s t5) (iJ s t6),dW s t6)
theorem R1(s:Str):kF s false (λt=>(Dr s t).1) (λt=>(Dr s t).2) (λu=>(DQ s u).1) (λu=>(DQ s u).2):=
 ((dT s).seq ((dT s).seq ((C5 s dI).seq ((dT s).seq ((dT s).seq (sI s false)))))).map (λx=>VN x.1 x.2.1 x.2.2.1 x.2.2.2.1 x.2.2.2.2.1 x.2.2.2.2.2)
  |>.same (λt=>by unfold Dr;rfl) (λt=>by unfold Dr;rfl) (λu=>by unfold DQ VN;rfl) (λu=>by unfold DQ;rfl)
def zA(lv:AV):LA:=stN (stN zIn 0 [I 6]) 15 [lv]
theorem aee(lv:AV)(h:15<(zA lv).length):(zA lv)[15]'h=lv:=rfl
theorem afm(lv lv':AV):stN (zA lv) 15 [lv']=zA lv':=rfl
structure RA(h hb h':AH)(s:Str)(t:RS)(lv:AV)(acc:List Val):Prop where
 l3:L3 h h' (rdC ⟨s,t⟩) (zA lv)
 nx:hb.nx<=h'.nx
 ol:OL 4 hb h' lv acc.length (cZ acc)
theorem RA.set{h hb h':AH}{s:Str}{t:RS}{lv:AV}{acc:List Val}(l:RA h hb h' s t lv acc)(hb0:h.nx+3<=hb.nx)(u:RS):RA h hb (h'.set (h.nx+1) (.cells (rdC ⟨s,u⟩))) s u lv acc:=
 ⟨l.l3.cE _,l.nx,l.ol.set (by omega) _⟩
theorem RA.bump{h hb h':AH}{s:Str}{t:RS}{lv:AV}{acc:List Val}(l:RA h hb h' s t lv acc){k:Nat}(hk:h'.nx<=k):RA h hb ⟨h'.H,k⟩ s t lv acc:=
 ⟨l.l3.bump hk,ane l.nx hk,l.ol.bump hk⟩
theorem RA.new{h hb h' h2:AH}{s:Str}{t:RS}{lv:AV}{acc:List Val}(l:RA h hb h' s t lv acc)(hn:h'.nx<=h2.nx)(hg:∀i,i<h'.nx->h2.H.get i=h'.H.get i):RA h hb h2 s t lv acc:=
 ⟨l.l3.new hn hg,ane l.nx hn,l.ol.du hn λi _ hi=>hg i hi⟩
theorem ZO{h h':AH}{lv:AV}{acc:List Val}{hb:AH}(o:OL 4 hb h' lv acc.length (cZ acc))(hb0:h.nx+3<=hb.nx):Up h h' (zA lv) (zA (.psl (vCs acc))):=by
 intro h2 hn hg;unfold zA;refine cA (cA (ja _) ⟨.int _ _,trivial⟩) ⟨?_,trivial⟩;have o2:OL 4 hb h2 lv acc.length (cZ acc):=o.du hn λi hi1 hi2=>hg i (by omega) hi2
 exact qx o2 (by omega)
theorem L3.low{h h' h2:AH}{c1 c2:LA}(l:L3 h h' c1 c2){b:Nat}(hb:h.nx+3<=b)(hn:h'.nx<=h2.nx)(hg:∀i,i<b->h2.H.get i=h'.H.get i):L3 h h2 c1 c2:=
 have n1:=l.nx
 ⟨by rw[ay (hg _ (by omega))];exact l.r,by rw[ay (hg _ (by omega))];exact l.a,by rw[ay (hg _ (by omega))];exact l.b,by omega,λi hi=>by rw[hg i (by omega)];exact l.get i hi,l.len,l.one⟩
theorem Ff(a b c:LA)(h:b.length=c.length):a7 (a++b) a.length c=some (a++c):=by
 rw[bz (by rw[amX];omega)];unfold stN;rw[aoO,anf (by rw[amX];omega),am5];rfl
theorem abm{h h1:AH}{s:Str}{t:RS}(hs:s.length<=1000000)(hp:t.pos<=s.length)(hL:L3 h h1 (rdC ⟨s,t⟩) zIn):
  dL (tb lE) (.ptr h.nx 0) (.ptr (h.nx+1) 0) (.ptr (h.nx+2) 0) (.str gS) h1 (LM h s (xk s t)):=by
 have hb:=hL.b;have hlen:=hL.len;have hnx:=hL.nx;simp(disch:=first|go_size|fail)[dL,gS,hb,cn];clear hb hlen hnx;have l_1:=hL.st 0 [I 6] (by simp) rfl;generalize h1.set (h.nx+2) (.cells (stN (zIn) 0 [I 6]))=hb at*;have hA:RA h hb hb s t .aa []:=⟨l_1,amY _,OL.start _ _ _⟩;have hb0:h.nx+3<=hb.nx:=l_1.nx;clear l_1 hL;unfold xk;have pq:gw s (s.length+3) [] t=y6 s t:=rfl;generalize hR:y6 s t=R at*;unfold lE;refine⟨λm vs h'=>∃acc t lv,vs=[.ptr h.nx 0,.ptr (h.nx+1) 0,.ptr (h.nx+2) 0]/\RA h hb h' s t lv acc/\t.pos<=s.length+1/\mz s t<=m/\gw s m acc t=R/\(t.bad=false->acc.length<=t.pos),s.length+3,?_,?_⟩
 ·exact⟨[],t,.aa,rfl,hA,by omega,by unfold mz;split<;>omega,pq,λ_=>by simp⟩
 ·rintro m vs h' ⟨acc,t,lv,rfl,hA,hp,hm,hq,hlen⟩;have hx:(Rd.mk s t).Ok:=⟨hs,hp⟩;have hn':=hA.l3.nx;have hc':h'.ab (h.nx+1)=some [.str s,I t.pos,.bool t.bad]:=hA.l3.a;simp(disch:=first|go_size|fail)[JA];refine⟨λvs h4=>vs=[.ptr h.nx 0,.ptr (h.nx+1) 0,.ptr (h.nx+2) 0,.bool (!t.bad && !(decide (s.length<=t.pos)))]/\h4=h',?_,?_⟩
  ·cases hb2:t.bad
   ·rw[hb2]at hc';simp(disch:=first|go_size|fail)[FN,hc'];refine PV (x:=⟨s,t⟩) hA.l3.a (by omega) hx ?_;simp(disch:=first|go_size|fail)[]
   ·rw[hb2]at hc';simp(disch:=first|go_size|fail)[FN,hc']
  ·rintro vs h4 ⟨rfl,rfl⟩;cases bN:(!t.bad && !(decide (s.length<=t.pos)))
   ·have ly:gw s m acc t=(acc,t):=by
     cases m with
     |zero=>rfl
     |succ m=>
      unfold gw;cases hb2:t.bad
      ·rw[hb2]at bN;simp at bN;simp[bN]
      ·simp
    rw[hq]at ly;subst ly;simp[zL];simp[Mh];simp[B1];exact⟨rfl,zA lv,hA.l3,ZO hA.ol hb0⟩
   ·simp only[amZ,anX,ano]at bN;obtain⟨hb2,hlt⟩:=bN;obtain⟨m,rfl⟩:∃k,m=k+1:=⟨m-1,by unfold mz at hm;rw[hb2]at hm;simp at hm;omega⟩;have hq2:=hq;unfold gw at hq2;rw[hb2]at hq2;simp only[am7,ans,hlt]at hq2;have hkR:=jM s t hp;have hkg:=cg s t hp;have hkv:=fU s 16 _ hkg.lt;simp[zL];refine qd (x:=⟨s,t⟩) hA.l3.a (by omega) hx ?_;have hA1:=hA.set hb0 (aN s t);simp only at hA1 ⊢;have eT:ei s t=bu (fm s 16 (aN s t)).2 (decide ((dw 1 (fm s 16 (aN s t)).1 0).1≠0)):=rfl;generalize h4.set (h.nx+1) (.cells (rdC ⟨s,aN s t⟩))=h5 at*;generalize aN s t=t1 at*;refine afj (x:=⟨s,t1⟩) hA1.l3.a (by have:=hA1.l3.nx;omega) ⟨hs,hkg.lt⟩ ?_;have hA2:=hA1.set hb0 (fm s 16 t1).2;simp only at hA2 ⊢;generalize h5.set (h.nx+1) (.cells (rdC ⟨s,(fm s 16 t1).2⟩))=h6 at*;generalize fm s 16 t1=VV at*;obtain⟨v,t2⟩:=VV;simp only at*;have hn6:=hA2.l3.nx;have iC:=iH v;have hlv:(vC v).length=4:=cH v;have hnb:=hA2.nx;have hA3:=hA2.new (h2:=(h6.add (.cells z4)).set h6.nx (.cells (vC v))) (by simp) λi hi=>by rw[au,amU (by omega),az,amU (by omega)]
    have hk3:((h6.add (.cells z4)).set h6.nx (.cells (vC v))).ab h6.nx=some (vC v):=an _ _ _ _ rfl;have hn3:((h6.add (.cells z4)).set h6.nx (.cells (vC v))).nx=h6.nx+1:=by simp
    have hst:kSt (h6.add (.cells [I 0,I 0,.str [],.aa])) 4 (.ptr h6.nx 0) (.agg (vC v))=some (.undef,(h6.add (.cells z4)).set h6.nx (.cells (vC v))):=by
     obtain⟨k',n',s',l'⟩:=v;simp only[vC];simp[];rfl
    have tU:cut (vC v) 0 4=some (vC v):=by
     have:=aM (α:=vC v) (b:=[]) (n:=4) hlv;rwa [am5]at this
    rw[hst];simp[];obtain⟨kv,aiQ⟩:∃kv,kv=h6.nx:=⟨_,rfl⟩;rw[<-aiQ]at hA3 hk3 hn3 ⊢;generalize(h6.add (.cells z4)).set kv (.cells (vC v))=h7 at*;have hc7:h7.ab (h.nx+1)=some [.str s,I t2.pos,.bool t2.bad]:=hA3.l3.a;refine⟨λvs h8=>vs=[.ptr h.nx 0,.ptr (h.nx+1) 0,.ptr (h.nx+2) 0,.ptr kv 0]/\RA h hb h8 s (ei s t) lv acc/\h8.ab kv=some (vC v)/\h8.nx=h7.nx,?_,?_⟩
    ·rw[eT];have hx:=hA3.set hb0 (bu t2 (decide ((dw 1 v 0).1≠0)));have hkx:(h7.set (h.nx+1) (.cells (rdC ⟨s,bu t2 (decide ((dw 1 v 0).1≠0))⟩))).ab kv=some (vC v):=by rw[ak _ _ _ _ (by omega)];exact hk3
     cases hb3:t2.bad
     ·rw[hb3]at hc7;simp[A3,hc7,hk3,tU];refine Yf v trivial ?_;simp[];have eB:∀e:Int,(e != 0)=decide (e≠0):=λe=>by by_cases q:e=0<;>simp[q]
      have eB2:∀e:Int,(!decide (e=0))=decide (e≠0):=λe=>by simp
      simp[Bh,hc7];rw[eB,eB2];simp only[bu,hb3,anF,anR,rdC]at hx hkx ⊢;refine⟨hx,?_⟩;first|exact hkx|(rw[amU (by omega)];exact hk3)
     ·rw[hb3]at hc7;simp[A3,hc7];simp(disch:=first|go_size|fail)[Bh,hc7];simp only[bu,hb3,anF,anR,rdC]at hx hkx ⊢;refine⟨hx,?_⟩;first|exact hkx|(rw[amU (by omega)];exact hk3)
    ·rintro vs h8 ⟨rfl,hA8,hk8,hn8⟩;have hbb:=hA8.l3.b;have ala:=hA8.l3.len;have alz:=hA8.l3.nx;have hA9:=hA8.bump (k:=h8.nx+10) (by omega);simp(disch:=first|go_size|fail)[LG,hbb,aee,hk8,tU,Bj hA9.ol];have alm:=hA8.nx;have aiT:∀i,i<hb.nx->((AH.mk h8.H (h8.nx+10)).set (h8.nx+4) (.cells z4)).H.get i=h8.H.get i:=λi hi=>by rw[au,amU (by omega)]
     have aiK:L3 h ((AH.mk h8.H (h8.nx+10)).set (h8.nx+4) (.cells z4)) (rdC ⟨s,ei s t⟩) (zA lv):=hA8.l3.low hb0 (by simp) aiT;have agO:OL 4 hb ((AH.mk h8.H (h8.nx+10)).set (h8.nx+4) (.cells z4)) lv acc.length (cZ acc):=hA8.ol.du (by simp) λi _ hi=>by rw[au,amU (by omega)]
     have ai6:((AH.mk h8.H (h8.nx+10)).set (h8.nx+4) (.cells z4)).ab (h8.nx+4)=some z4:=an _ _ _ _ rfl;have N5:((AH.mk h8.H (h8.nx+10)).set (h8.nx+4) (.cells z4)).nx=h8.nx+10:=rfl;obtain⟨lv',h11,ai0,agB,acx,ajf⟩:=mw (bytes:=56) agO (by omega) ai6 rfl rfl (by have:=hlen hb2;omega) (by omega);have acq:L3 h h11 (rdC ⟨s,ei s t⟩) (zA lv):=aiK.low hb0 (by omega) ajf;have agf:dK ((AH.mk h8.H (h8.nx+10)).set (h8.nx+4) (.cells [I 0,I 0,.str [],.aa])) 4 56 lv (.rsl (h8.nx+4) 0 1 4)=some (lv',h11):=ai0;rw[N5]at acx;refine fR agf (show h8.nx+10<=h11.nx by omega) ?_;rcases agB with⟨_,h0,_⟩|⟨k,rfl,_,hk0,hk,hcs,abJ⟩
     ·omega
     have YS:(cZ acc).length=acc.length*4:=by
      rw[amX]at abJ;have:z4.length=4:=rfl;omega
     have hix:aF h11 4 (.rsl k 0 (acc.length+1) 4) (I acc.length)=some (.ptr k (acc.length*4),h11):=by
      have:=dY (h:=h11) (z:=4) (id:=k) (off:=0) (len:=acc.length+1) (i:=(acc.length:Int)) (by omega) (by omega);rw[this,aoe,aou]
     have hs1:∀hh:AH,hh.ab k=some (cZ acc++z4)->kSt hh 4 (.ptr k (acc.length*4)) (.agg (vC v))=some (.undef,hh.set k (.cells (cZ acc++vC v))):=λhh hc=>by
      have:=Ff (cZ acc) z4 (vC v) (by rw[hlv];rfl);rw[YS]at this;simp(disch:=first|go_size|fail)[hc,this];first|exact⟨hlv,iC⟩|exact iC|exact hlv
     have hs2:∀hh:AH,hh.ab (h.nx+2)=some (zA lv)->kSt hh 1 (.ptr (h.nx+2) 15) (.rsl k 0 (acc.length+1) 4)=some (.undef,hh.set (h.nx+2) (.cells (zA (.rsl k 0 (acc.length+1) 4)))):=λhh hc=>by
      have hl0:(zA lv).length=37:=rfl;simp(disch:=first|go_size|fail)[hc,cn,afm]
     have hr1:aU (.read (h.nx+2)) (.alloc (h8.nx+4) (.cells [I 0,I 0,.str [],.aa]))=true:=by
      rw[fw];simp;omega
     have hr2:aU (.read kv) (.alloc (h8.nx+4) (.cells [I 0,I 0,.str [],.aa]))=true:=by
      rw[fw];simp;omega
     have hfl:cZ (acc++[v])=cZ acc++vC v:=jL _ _;have pY:∀F:AH,F.nx=h11.nx->F.ab k=some (cZ acc++vC v)->L3 h F (rdC ⟨s,ei s t⟩) (zA (.rsl k 0 (acc.length+1) 4))->∃m',m'<m+1/\([AV.ptr h.nx 0,.ptr (h.nx+1) 0,.ptr (h.nx+2) 0]=[AV.ptr h.nx 0,.ptr (h.nx+1) 0,.ptr (h.nx+2) 0]/\∃acc t lv,RA h hb F s t lv acc/\t.pos<=s.length+1/\mz s t<=m'/\gw s m' acc t=R/\(t.bad=false->acc.length<=t.pos)):=λF hF hcF hlF=>by
      refine⟨m,by omega,rfl,acc++[v],ei s t,.rsl k 0 (acc.length+1) 4,⟨hlF,by omega,?_⟩,hkR.1.lt,?_,hq2,?_⟩
      ·rw[amX,am2,hfl];refine .inr ⟨k,rfl,by omega,hk0,by omega,hcF,?_⟩;rw[amX,YS,hlv];omega
      ·unfold mz at hm ⊢;rw[hb2]at hm;simp only[am7,ans]at hm;cases hu':(ei s t).bad
       ·have:=hkR.2 hu';have:=hkR.1.lt;simp only[am7,ans];omega
       ·simp
      ·intro hu';have:=hkR.2 hu';have:=hlen hb2;rw[amX];simp only[am2];omega
     rw[hix];have N0:=acq.b;have e1:(h11.set k (.cells (cZ acc++vC v))).ab (h.nx+2)=some (zA lv):=by rw[ak _ _ _ _ (by omega)];exact N0
     have e2:(h11.set (h.nx+2) (.cells (zA (.rsl k 0 (acc.length+1) 4)))).ab k=some (cZ acc++z4):=by rw[ak _ _ _ _ (by omega)];exact hcs
     have hL1:L3 h ((h11.set k (.cells (cZ acc++vC v))).set (h.nx+2) (.cells (zA (.rsl k 0 (acc.length+1) 4)))) (rdC ⟨s,ei s t⟩) (zA (.rsl k 0 (acc.length+1) 4)):=
      (acq.low hb0 (h2:=h11.set k (.cells (cZ acc++vC v))) (by simp) (λi hi=>by rw[au,amU (by omega)])).sZ _ rfl rfl
     have hL2:L3 h ((h11.set (h.nx+2) (.cells (zA (.rsl k 0 (acc.length+1) 4)))).set k (.cells (cZ acc++vC v))) (rdC ⟨s,ei s t⟩) (zA (.rsl k 0 (acc.length+1) 4)):=
      (acq.sZ _ rfl rfl).low hb0 (by simp) (λi hi=>by rw[au,amU (by omega)])
     have f1:=pY ((h11.set k (.cells (cZ acc++vC v))).set (h.nx+2) (.cells (zA (.rsl k 0 (acc.length+1) 4)))) rfl (by rw[ak _ _ _ _ (by omega)];exact an _ _ _ _ rfl) hL1;have f2:=pY ((h11.set (h.nx+2) (.cells (zA (.rsl k 0 (acc.length+1) 4)))).set k (.cells (cZ acc++vC v))) rfl (an _ _ _ _ rfl) hL2;have hw1:=hs1 _ hcs;have hw2:=hs2 _ e1;have hw3:=hs2 _ N0;have hw4:=hs1 _ e2;simp(disch:=first|go_size|fail)[];unfold K7;refine⟨fR hw1 (by simp) (fR hw2 (by simp) ⟨hr1,hr2,?_⟩),fR hw3 (by simp) (fR hw4 (by simp) ⟨hr1,hr2,?_⟩)⟩
     ·obtain⟨m',hm',hvs,ab9,t',abK,hRA,S1⟩:=f1;exact Exists.intro m' ⟨hm',hvs,ab9,t',⟨abK,hRA⟩,S1⟩
     ·obtain⟨m',hm',hvs,ab9,t',abK,hRA,S1⟩:=f2;exact Exists.intro m' ⟨hm',hvs,ab9,t',⟨abK,hRA⟩,S1⟩
def qQ(s:Str):Nat->List Int->PS->List Int×PS
 |0,acc,t=>(acc,t)
 |n+1,acc,t=>if bB s t=true then qQ s n (acc++[cQ s t]) (bc s t)else(acc,t)
def tv(s:Str)(t:PS):List Int×PS:=qQ s (s.length+2) [] t
theorem jK(s:Str):∀(n:Nat) (acc:List Int) (t:PS),t.pos<=s.length->cD s t (qQ s n acc t).2
 |0,acc,t,ht=>cD.refl ht
 |n+1,acc,t,ht=>by
  unfold qQ;split
  ·exact(bD s t ht).trans (jK s n _ _ (bD s t ht).lt)
  ·exact cD.refl ht
theorem fX(s:Str):∀(n:Nat) (acc:List Int) (t:RS),t.pos<=s.length+1->bX s t (lS s n acc t).2
 |0,acc,t,ht=>bX.refl ht
 |n+1,acc,t,ht=>by
  unfold lS;split
  ·exact bX.refl ht
  ·split
   ·exact bX.refl ht
   ·exact(dD s t ht).1.trans (fX s n _ _ (dD s t ht).1.lt)
theorem Mc{s:Str}{t:PS}(ht:t.pos<=s.length)(h:(bc s t).ok=true):t.pos<(bc s t).pos:=by
 have h1:=dM s t ht;have h2:=qA s false _ h1.lt;unfold bc at h;simp only[amZ]at h;exact aom h1.le (h2.2 h.1)
theorem En(s:Str):∀(n m:Nat) (acc:List Int) (t:PS) (u:RS),At s t u->s.length-u.pos+1<=n->s.length-u.pos+2<=m->
  (At s (qQ s n acc t).2 (lS s m acc u).2/\(qQ s n acc t).1=(lS s m acc u).1)\/((qQ s n acc t).2.ok=false/\(lS s m acc u).2.bad=true)
 |n,m,acc,t,u,h,hn,hm=>by
  obtain⟨n,rfl⟩:∃x,n=x+1:=⟨n-1,by omega⟩;obtain⟨m,rfl⟩:∃x,m=x+1:=⟨m-1,by omega⟩;have hpm:bB s t=decide (u.pos<s.length):=by unfold bB;rw[h.ok,h.pos];simp
  have htl:t.pos<=s.length:=by rw[h.pos];exact h.le
  have hul:u.pos<=s.length+1:=by have:=h.le;omega
  unfold qQ lS;rw[hpm,h.bad];simp only[am7,ans];by_cases hlt:u.pos<s.length
  ·rw[am1 (by simp[hlt]),amU (by omega)];have kP:=bD s t htl;have kR:=dD s u hul;rcases(dT s).go t u h with⟨h1,h2⟩|h1
   ·have:=Mc htl h1.ok;have e1:=h.pos;have e2:=h1.pos;have e3:=h1.le;rw[h2];exact En s n m _ _ _ h1 (by omega) (by omega)
   ·right;refine⟨(jK s n _ _ kP.lt).nok h1.ok,?_⟩;by_cases hb:(a_ s u).bad=true
    ·exact(fX s m _ _ kR.1.lt).bb hb
    ·have hd:=h1.off.resolve_left hb;obtain⟨m,rfl⟩:∃x,m=x+1:=⟨m-1,by omega⟩;have ot:¬s.length<=(a_ s u).pos:=by
      obtain⟨c,q1,_⟩:=hd;have:=(amV.1 q1).1;omega
     have hg:(aN s (a_ s u)).bad=true:=ld (.inr hd);unfold lS;rw[amU hb,amU ot];refine(fX s m _ _ (dD s _ kR.1.lt).1.lt).bb ?_;unfold a_ dU at hg ⊢;simp only at hg ⊢;rw[hg];rfl
  ·rw[amU (by simp[hlt]),am1 (by omega)];exact .inl ⟨h,rfl⟩
 termination_by n=>n
def ng(n:Int):Int:=if n = -9223372036854775808 then -9223372036854775808 else -n
def clP(n:Int):LA:=[I (max n (ng n)),.bool (decide (n<0))]
def oh(l:List Int):List (LA):=l.map clP
theorem WZ{l:List Int}(h:∀n∈l, -eM<=n/\n<=eM):oh l=nL l:=by
 unfold oh nL;refine List.map_congr_left λn hn=>?_
 have:=h n hn;unfold eM at this;unfold clP clC ng;rw[amU (by omega)]
theorem J5(s:Str):∀(m:Nat) (acc:List Int) (u:RS),u.pos<=s.length+1->(∀n∈acc, -eM<=n/\n<=eM)->(lS s m acc u).2.bad=false->∀n∈(lS s m acc u).1, -eM<=n/\n<=eM
 |0,acc,u,_,h,_=>h
 |m+1,acc,u,hu,h,hb=>by
  unfold lS at hb ⊢;split
  ·exact h
  ·rename_i hub;rw[amU hub]at hb;split
   ·exact h
   ·rename_i hue;rw[amU hue]at hb;have hk:=dD s u hu;refine J5 s m _ _ hk.1.lt ?_ hb;intro n hn;rcases anP.1 hn with hn|hn
    ·exact h n hn
    ·rw[anQ.1 hn];have hnb:=(fX s m (acc++[cG s u]) _ hk.1.lt).ok hb;unfold a_ dU at hnb;simp only[anC,aoF]at hnb;have:=L7 hnb.2;exact⟨this.1,this.2.1⟩
theorem RU(s:Str):kF s false (λt=>oh (tv s t).1) (λt=>(tv s t).2) (λu=>nL (wY s u).1) (λu=>(wY s u).2):=by
 refine⟨λt u h=>?_,λt u h=>?_⟩
 ·have k1:=jK s (s.length+2) [] t (by rw[h.pos];exact h.le);have k2:=fX s (s.length+3) [] u (by have:=h.le;omega);rcases En s (s.length+2) (s.length+3) [] t u h (by omega) (by omega)with⟨h1,h2⟩|⟨h1,h2⟩
  ·refine .inl ⟨h1,?_⟩;have hbd:=J5 s (s.length+3) [] u (by have:=h.le;omega) (by simp) h1.bad;show oh (qQ s (s.length+2) [] t).1=nL (lS s (s.length+3) [] u).1
   rw[h2];exact WZ hbd
  ·exact .inr (.of h1 k1.lt k2.lt h2)
 ·have k1:=jK s (s.length+2) [] t h.lt;have k2:=fX s (s.length+3) [] u h.ru;refine .of (k1.nok h.ok) k1.lt k2.lt ?_;by_cases hb:u.bad=true
  ·exact k2.bb hb
  ·have hd:=h.off.resolve_left hb;have ot:¬s.length<=u.pos:=by
    obtain⟨c,q1,_⟩:=hd;have:=(amV.1 q1).1;omega
   have hg:(aN s u).bad=true:=ld (.inr hd);show(lS s (s.length+3) [] u).2.bad=true
   unfold lS;rw[amU hb,amU ot];refine(fX s _ _ _ (dD s _ h.ru).1.lt).bb ?_;unfold a_ dU;simp only;rw[hg];rfl
def gC(s:Str)(t:PS):(Int×AV×Int×AV)×PS:=
 let k:=bf s h_ t
 let t1:=aL s h_ t
 if k=2 then((16,.psl (nM (iJ s t1)),0,.aa),dW s t1)
 else if k=1 then
  ((15,.psl (nM (iJ s t1)),cQ s (dW s t1),.psl (oh (tv s (bc s (dW s t1))).1)),(tv s (bc s (dW s t1))).2)
 else((14+k,.aa,0,.aa),t1)
theorem eY(s:Str)(l:List Str)(t:PS)(ht:t.pos<=s.length):cD s t (aL s l t):=by
 have h:=fW s t ht;refine⟨h.le,h.lt,λe=>h.ok ?_⟩;unfold aL at e;simp only[amZ]at e;exact e.1
theorem vm(s:Str)(t:PS)(ht:t.pos<=s.length):cD s t (gC s t).2:=by
 have h1:=eY s h_ t ht;have h2:=h1.trans (iQ s _ h1.lt);unfold gC;simp only;split
 ·exact h2
 ·split
  ·exact(h2.trans (bD s _ h2.lt)).trans (jK s _ _ _ (bD s _ h2.lt).lt)
  ·exact h1
theorem qu(s:Str)(t:RS)(ht:(aN s t).pos<=s.length+1):bX s (aN s t) (iv s t).2:=by
 have h1:=nr s _ ht;have h2:=h1.trans (iP s _ h1.lt);unfold iv;simp only;split
 ·exact h1
 split
 ·exact h1
 split
 ·exact h2
 split
 ·exact(h2.trans (dD s _ h2.lt).1).trans (fX s _ _ _ (dD s _ h2.lt).1.lt)
 ·exact⟨h1.le,h1.lt,λe=>by cases e⟩
theorem TE(s:Str):kF s false (λt=>lb (gC s t).1) (λt=>(gC s t).2) (λu=>lb (iv s u).1) (λu=>(iv s u).2):=by
 have c4:∀w:Str,w≠jV->w≠ga->w≠ix->w≠iw->idx h_ w = -1:=λw h1 h2 h3 h4=>oS λj hj x hx=>by
  have hm:=am9 hx;simp only[h_,anT,aoc,aoT]at hm;rcases hm with rfl|rfl|rfl|rfl
  ·exact aoL h1
  ·exact aoL h4
  ·exact aoL h3
  ·exact aoL h2
 refine⟨λt u h=>?_,λt u h=>?_⟩
 ·have hp:=vm s t (by rw[h.pos];exact h.le);have hg:=cg s u (by have:=h.le;omega);have hr:=qu s u hg.lt;have hw:=nr s _ hg.lt;rcases sK h with⟨w1,w2,w3⟩|⟨w1,w2⟩
  ·by_cases hw0:aP s (aN s u)=[]
   ·right;have e1:bf s h_ t = -1:=by unfold bf;rw[w1,hw0];decide
    refine .of ?_ hp.lt hr.lt ?_
    ·unfold gC;simp only[e1];unfold aL;simp[w3 hw0]
    ·unfold iv;simp only[hw0];simp[jV,ga,ix,iw]
   ·have hA:=w2 hw0;have hV:bf s h_ t=idx h_ (aP s (aN s u)):=by unfold bf;rw[w1]
    have hT:0<=idx h_ (aP s (aN s u))->aL s h_ t=bq s t:=λh0=>by
     unfold aL;rw[w1];simp[h0]
    by_cases q1:aP s (aN s u)=jV
    ·have e1:idx h_ jV=0:=by decide
     rw[q1]at hV hT;left;unfold gC iv;simp only[hV,e1,hT (by rw[e1];decide),q1];simp;exact hA
    ·by_cases q2:aP s (aN s u)=ga
     ·have e1:idx h_ ga=3:=by decide
      have e2:¬ga=jV:=by decide
      rw[q2]at hV hT;left;unfold gC iv;simp only[hV,e1,hT (by rw[e1];decide),q2,e2];simp;exact hA
     ·by_cases q3:aP s (aN s u)=ix
      ·have e1:idx h_ ix=2:=by decide
       have e2:¬ix=jV:=by decide
       have e3:¬ix=ga:=by decide
       rw[q3]at hV hT;unfold gC iv;simp only[hV,e1,hT (by rw[e1];decide),q3,e2,e3,anH,ans];exact((sI s false).map (λx=>lb (16,.psl (nM x),0,.aa))).go _ _ hA
      ·by_cases q4:aP s (aN s u)=iw
       ·have e1:idx h_ iw=1:=by decide
        have e2:¬iw=jV:=by decide
        have e3:¬iw=ga:=by decide
        have e4:¬iw=ix:=by decide
        have e5:¬(1:Int)=2:=by decide
        rw[q4]at hV hT;unfold gC iv;simp only[hV,e1,hT (by rw[e1];decide),q4,e2,e3,e4,e5,anH,ans];exact(((sI s false).seq ((dT s).seq (RU s))).map (λx=>lb (15,.psl (nM x.1),x.2.1,.psl x.2.2))).go _ _ hA
       ·right;have e1:=c4 _ q1 q2 q3 q4;refine .of ?_ hp.lt hr.lt ?_
        ·unfold gC;simp only[hV,e1];unfold aL;rw[w1,e1];simp
        ·unfold iv;simp[q1,q2,q3,q4]
  ·right;refine .of ?_ hp.lt hr.lt ?_
   ·have hc:(aL s h_ t).ok=false:=by unfold aL;simp[w1]
    have hck:=eY s h_ t (by rw[h.pos];exact h.le);have htk:=iQ s _ hck.lt;unfold gC;simp only;split
    ·exact htk.nok hc
    ·split
     ·exact(jK s _ _ _ (bD s _ htk.lt).lt).nok ((bD s _ htk.lt).nok (htk.nok hc))
     ·exact hc
   ·unfold iv;have htk:=iP s _ hw.lt;simp only;split
    ·exact w2
    split
    ·exact w2
    split
    ·exact htk.bb w2
    split
    ·exact(fX s _ _ _ (dD s _ htk.lt).1.lt).bb ((dD s _ htk.lt).1.bb (htk.bb w2))
    ·rfl
 ·have hp:=vm s t h.lt;have hg:=cg s u h.ru;have hr:=qu s u hg.lt;exact .of (hp.nok h.ok) hp.lt hr.lt (hr.bb (ld h.off))
open Go.Lib (decodeL decodeL_width decodeL_le encodeRune encode_decode decodeL_ascii)
def pkN:List Str:=ij.drop 1
def wE(i:Nat)(x:Str×Nat):Str×Nat:=
 if x.1.take ((dB.getD i [])++[43]).length=(dB.getD i [])++[43]then(x.1.drop ((dB.getD i [])++[43]).length,x.2+2^i)else x
def fu(w:Str):Nat->Str×Nat
 |0=>(w,0)
 |i+1=>wE i (fu w i)
def ph(c:Int):Bool:=decide (32<=c/\c<=1114111/\(c<55296\/57343<c)/\(c<65\/90<c))
def iT(r:Str):Nat×Nat:=if r=[]then(65533,0)else decodeL r
def l9(r:Str):Bool:=decide ((iT r).2=r.length/\(iT r).2≠0/\¬((iT r).1=65533/\(iT r).2=1)/\(iT r).1≠32)&&ph (iT r).1
def cz(w:Str):Int×Int×Bool:=
 if 0<=idx pkN (fu w 4).1 then(1+idx pkN (fu w 4).1,((fu w 4).2:Int),true)
 else if(fu w 4).1=iI then(32,((fu w 4).2:Int),true)
 else if l9 (fu w 4).1=true then(((iT (fu w 4).1).1:Int),((fu w 4).2:Int),true)else(0,0,false)
theorem NA(r:Str):(∃k:Nat,1<=k/\k<=23/\mo r 23=(k:Int)/\idx pkN r=(k:Int)-1/\ij.getD k []=r/\r≠iI)\/(mo r 23=0/\idx pkN r = -1):=by
 by_cases h:r∈pkN
 ·left;simp only[pkN,ij,aox,aow,anT,aoc,aoT]at h;rcases h with rfl|rfl|rfl|rfl|rfl|rfl|rfl|rfl|rfl|rfl|rfl|rfl|rfl|rfl|rfl|rfl|rfl|rfl|rfl|rfl|rfl|rfl|rfl
  ·exact⟨1,by decide⟩
  ·exact⟨2,by decide⟩
  ·exact⟨3,by decide⟩
  ·exact⟨4,by decide⟩
  ·exact⟨5,by decide⟩
  ·exact⟨6,by decide⟩
  ·exact⟨7,by decide⟩
  ·exact⟨8,by decide⟩
  ·exact⟨9,by decide⟩
  ·exact⟨10,by decide⟩
  ·exact⟨11,by decide⟩
  ·exact⟨12,by decide⟩
  ·exact⟨13,by decide⟩
  ·exact⟨14,by decide⟩
  ·exact⟨15,by decide⟩
  ·exact⟨16,by decide⟩
  ·exact⟨17,by decide⟩
  ·exact⟨18,by decide⟩
  ·exact⟨19,by decide⟩
  ·exact⟨20,by decide⟩
  ·exact⟨21,by decide⟩
  ·exact⟨22,by decide⟩
  ·exact⟨23,by decide⟩
 ·right;constructor
  ·have key:∀k,k<=23->mo r k=0:=by
    intro k;induction k with
    |zero=>intro _;rfl
    |succ k ih=>
     intro hk;unfold mo;rw[amU,ih (by omega)];intro e;apply h;rw[<-e];unfold pkN;have hl:k+1<ij.length:=by show k+1<24;omega
     rw[anh,am0 hl];simp only[Option.getD_some];have:ij[k+1]=(ij.drop 1)[k]'(by rw[am3];show k<24-1;omega):=by
      rw[List.getElem_drop];congr 1;omega
     rw[this];exact anL _
   exact key 23 (amY _)
  ·exact oS λj hj x hx e=>h (by rw[<-e];exact am9 hx)
theorem Ep(w:Str):∀i,(dQ w i).2<2^i
 |0=>by simp[dQ]
 |i+1=>by
  have:=Ep w i;have e:2^(i+1)=2^i*2:=aoR 2 i;unfold dQ tB;split
  ·simp only;omega
  ·omega
theorem y7(w:Str):∀i,i<=4->fu w i=dQ w i\/((fu w i).1=[]/\∃j,j<i/\(dQ w i).1=(dB.getD j [])++[43])
 |0,_=>.inl rfl
 |i+1,hi=>by
  have hm:∀i,i<4->∀j,j<i->¬(((dB.getD i [])++[43]).length<((dB.getD j [])++[43]).length/\((dB.getD j [])++[43]).take ((dB.getD i [])++[43]).length=(dB.getD i [])++[43]):=by decide
  rcases y7 w i (by omega)with h|⟨h1,j,hj,h2⟩
  ·unfold fu dQ wE tB;rw[h];generalize dQ w i=x at*;by_cases ht:x.1.take ((dB.getD i [])++[43]).length=(dB.getD i [])++[43]
   ·rw[am1 ht];by_cases hl:((dB.getD i [])++[43]).length<x.1.length
    ·rw[am1 ⟨hl,ht⟩];exact .inl rfl
    ·rw[amU λe=>hl e.1];right;rw[anc (by omega)]at ht;refine⟨?_,i,by omega,ht⟩;simp only;exact anf (by omega)
   ·rw[amU ht,amU λe=>ht e.2];exact .inl rfl
  ·right;unfold fu dQ wE tB;rw[h1,h2,amU (by simp),amU (hm i (by omega) j hj)];exact⟨h1,j,by omega,h2⟩
theorem vf(r:Str)(hr:r≠[]):(aD r).length=1↔(decodeL r).2=r.length:=by
 have hw:=decodeL_width r;have hle:=decodeL_le r hr;rw[fG r hr];simp only[am6];constructor
 ·intro h;have h0:aD (r.drop (decodeL r).2)=[]:=am8 (by omega);by_cases hd:r.drop (decodeL r).2=[]
  ·have:=congrArg List.length hd;rw[am3,anr]at this;omega
  ·rw[fG _ hd]at h0;cases h0
 ·intro h;rw[h,aoM,mb];rfl
theorem tp(w:Str):(cz w).2.2=(bL w).2.2/\((cz w).2.2=true->cz w=bL w):=by
 have hlt:=Ep w 4;rcases y7 w 4 (amY _)with h|⟨h1,j,hj,h2⟩
 ·unfold cz bL;rw[h];generalize dQ w 4=x at*;obtain⟨r,m⟩:=x;simp only at hlt ⊢;rcases NA r with⟨k,k1,k2,k3,k4,k5,k6⟩|⟨k1,k2⟩
  ·have e1:qw r=(k:Int):=by
    unfold qw;simp only;rw[amU k6,k3,amU (by omega)]
   have e2:fa (k:Int) m=true:=by
    rw[jJ];simp;omega
   have e3:gU (k:Int)=r:=by
    unfold gU;rw[am1 (by omega)];simpa using k5
   have e4:decide ((0:Int)<k)=true:=by simp;omega
   rw[e1,e2,e3,e4,k4,am1 (by omega)];simp;omega
  ·rw[k2,amU (by omega)];by_cases hs:r=iI
   ·have e1:qw r=32:=by
     unfold qw;simp only;rw[am1 hs];rfl
    have e2:fa 32 m=true:=by
     rw[jJ];simp;omega
    have e3:gU 32=r:=by rw[hs];rfl
    rw[am1 hs,e1,e2,e3];simp
   ·rw[amU hs];have e1:qw r=if(aD r).length=1/\32<(aD r).headD 0 then(aD r).headD 0 else 0:=by
     unfold qw;simp only;rw[amU hs,k1];simp
    by_cases hr:r=[]
    ·subst hr;have e2:l9 []=false:=by decide
     rw[e2,e1];simp[mb]
    ·have hw:=decodeL_width r;have hd:iT r=decodeL r:=by unfold iT;rw[amU hr]
     have hh:(aD r).headD 0=((decodeL r).1:Int):=by rw[fG r hr];rfl
     rw[e1,hh];by_cases hl:(decodeL r).2=r.length
     ·by_cases h32:(32:Int)<((decodeL r).1:Int)
      ·rw[am1 (show(aD r).length=1/\(32:Int)<((decodeL r).1:Int)from⟨(vf r hr).2 hl,h32⟩)];have e5:gU ((decodeL r).1:Int)=oe ((decodeL r).1:Int):=by
        unfold gU;rw[amU (by omega),amU (by omega)]
       by_cases ui:(decodeL r).1=65533/\(decodeL r).2=1
       ·have e2:l9 r=false:=by unfold l9;rw[hd];simp[ui]
        have e3:(oe ((decodeL r).1:Int)==r)=false:=by
         have e0:oe ((65533:Nat):Int)=[239,191,189]:=by rw[pQ];rfl
         rw[ui.1,e0];have:r.length=1:=by omega
         cases hq:([239,191,189]:Str)==r
         ·rfl
         ·have:([239,191,189]:Str)=r:=by simpa using hq
          have hl2:=hl;rw[ui.2,<-this]at hl2;simp at hl2
        rw[e2,e5,e3];simp
       ·have e3:oe ((decodeL r).1:Int)=r:=by
         rw[pQ,encode_decode r hr ui,hl,List.take_length]
        have e2:l9 r=fa ((decodeL r).1:Int) m:=by
         rw[jJ];unfold l9 ph;rw[hd];have c1:(decodeL r).1≠32:=by omega
         have c2:(decodeL r).2≠0:=by
          have:=anI.2 hr;omega
         rw[<-aoP];apply aoh.2;constructor
         ·rintro⟨_,q⟩;omega
         ·intro q;exact⟨⟨hl,c2,ui,c1⟩,by omega⟩
        rw[e5,e3,e2,hd];have e6:decide ((0:Int)<((decodeL r).1:Int))=true:=by simp;omega
        rw[e6];cases hv:fa ((decodeL r).1:Int) m
        ·simp
        ·simp
      ·rw[amU (show ¬((aD r).length=1/\(32:Int)<((decodeL r).1:Int))from λe=>h32 e.2)];have e2:l9 r=false:=by
        unfold l9 ph;rw[hd];by_cases h33:(decodeL r).1=32
        ·simp[h33]
        ·have:¬(32:Int)<=((decodeL r).1:Int):=by omega
         simp[this]
       rw[e2];simp
     ·rw[amU (show ¬((aD r).length=1/\(32:Int)<((decodeL r).1:Int))from λe=>hl ((vf r hr).1 e.1))];have e2:l9 r=false:=by unfold l9;rw[hd];simp[hl]
      rw[e2];simp
 ·have eP:cz w=(0,0,false):=by
   unfold cz;rw[h1];have a1:¬0<=idx pkN []:=by decide
   have a2:¬([]:Str)=iI:=by decide
   have a3:¬l9 []=true:=by decide
   rw[amU a1,amU a2,amU a3]
  have eR:(bL w).2.2=false:=by
   unfold bL;rw[h2];generalize(dQ w 4).2=m;have hk:qw (dB.getD j []++[43])=0:=by
    have two:∀(a b:UInt8) (l:Str),a.toNat<128->¬(aD (a::b::l)).length=1:=λa b l ha e=>by
     rw[fG _ (by simp),decodeL_ascii a (b::l) ha]at e;simp only[am6,aox,aow]at e;rw[fG _ (by simp)]at e;simp at e
    have nm:∀j,j<4->mo (dB.getD j []++[43]) 23=0/\¬dB.getD j []++[43]=iI/\∃a b l,dB.getD j []++[43]=a::b::l/\a.toNat<128:=by
     intro j hj;have:j=0\/j=1\/j=2\/j=3:=by omega
     rcases this with rfl|rfl|rfl|rfl
     ·exact⟨by decide,by decide,_,_,_,rfl,by decide⟩
     ·exact⟨by decide,by decide,_,_,_,rfl,by decide⟩
     ·exact⟨by decide,by decide,_,_,_,rfl,by decide⟩
     ·exact⟨by decide,by decide,_,_,_,rfl,by decide⟩
    obtain⟨n1,n2,a,b,l,n3,n4⟩:=nm j hj;unfold qw;simp only;rw[amU n2,n1,n3];rw[amU λe=>two a b l n4 e.2.1]
   rw[hk];simp
  rw[eP,eR];simp
def iY(w:Str):Bool:=decide (w.length<=100)&&(cz w).2.2
def tV(s:Str)(t:PS):LA:=if iY (bT s t)=true then [I (cz (bT s t)).1,I (cz (bT s t)).2.1]else [I 0,I 0]
def od(s:Str)(t:PS):PS:=⟨(bq s t).pos,(bq s t).first,(bq s t).ok&&iY (bT s t)⟩
def rKT(s:Str)(u:RS):RS:=bu (aX s (aN s u)) (mV (aP s (aN s u)))
def rKV(s:Str)(u:RS):LA:=if(rKT s u).bad=true then [I 0,I 0]else my (aP s (aN s u))
theorem EB(w:Str):mV w = !(iY w):=by
 have h:=(tp w).1;unfold mV iY iX fQ;rw[h];by_cases hl:w.length<=100
 ·have hl':¬100<w.length:=by omega
  cases hs:(bL w).2.2
  ·simp[hl,hl']
  ·simp[hl,hl']
 ·have hl':100<w.length:=by omega
  simp[hl,hl']
theorem Fi(s:Str):kF s false (tV s) (od s) (rKV s) (rKT s):=by
 refine⟨λt u h=>?_,λt u h=>?_⟩
 ·have hk:=fW s t (by rw[h.pos];exact h.le);have hg:=cg s u (by have:=h.le;omega);have hr:=nr s _ hg.lt;rcases sK h with⟨w1,w2,w3⟩|⟨w1,w2⟩
  ·by_cases hc:iY (bT s t)=true/\aP s (aN s u)≠[]
   ·left;obtain⟨hc,hw⟩:=hc;have hA:=w2 hw;have hcb:mV (aP s (aN s u))=false:=by rw[EB,<-w1,hc];rfl
    have hb:(rKT s u).bad=false:=by unfold rKT bu;simp only;rw[hA.bad,hcb];rfl
    refine⟨⟨?_,hb,hA.pos,hA.le,hA.first⟩,?_⟩
    ·unfold od;simp only;rw[hA.ok,hc];rfl
    ·unfold tV rKV;rw[am1 hc,hb];simp only[am7,ans];have hs:(cz (bT s t)).2.2=true:=by
      unfold iY at hc;simp only[amZ]at hc;exact hc.2
     rw[(tp _).2 hs,w1];rfl
   ·right;refine .of ?_ hk.lt hr.lt ?_
    ·unfold od;by_cases hw:aP s (aN s u)=[]
     ·simp[w3 hw]
     ·have:iY (bT s t)=false:=by
       cases hh:iY (bT s t)
       ·rfl
       ·exact absurd ⟨hh,hw⟩ hc
      simp[this]
    ·unfold rKT bu;rw[EB,<-w1];by_cases hw:aP s (aN s u)=[]
     ·have:iY (bT s t)=false:=by rw[w1,hw];decide
      simp[this]
     ·have:iY (bT s t)=false:=by
       cases hh:iY (bT s t)
       ·rfl
       ·exact absurd ⟨hh,hw⟩ hc
      simp[this]
  ·right;refine .of ?_ hk.lt hr.lt ?_
   ·unfold od;simp[w1]
   ·unfold rKT bu;simp[w2]
 ·obtain⟨h1,h2,h3,h4⟩:=wM h;refine .of ?_ h3 h4 ?_
  ·unfold od;simp[h1]
  ·unfold rKT bu;simp[h2]
def FK(s:Str)(t:PS):List AV×PS:=(stN (stN (stN zIn 0 [I 2]) 7 (tV s t)) 9 [I (cQ s (od s t))],bc s (od s t))
theorem TL(s:Str):kF s false (λt=>(FK s t).1) (λt=>(FK s t).2) (λu=>(MD s u).1) (λu=>(MD s u).2):=
 ((Fi s).seq (dT s)).map (λx=>stN (stN (stN zIn 0 [I 2]) 7 x.1) 9 [I x.2]) |>.same (λt=>rfl) (λt=>rfl) (λu=>by
  show stN (if(rKT s u).bad=true then stN zIn 0 [I 2]else stN (stN zIn 0 [I 2]) 7 (my (aP s (aN s u)))) 9 [I (cG s (rKT s u))]=stN (stN (stN zIn 0 [I 2]) 7 (rKV s u)) 9 [I (cG s (rKT s u))]
  unfold rKV;split
  ·rfl
  ·rfl) (λu=>rfl)
def iM(s:Str):List AV×PS:=
 let k:=bf s cF ⟨0,true,true⟩
 let t:=aL s cF ⟨0,true,true⟩
 if k=0 then Na s t else if k=1 then FK s t else if k=2 then yp s t else if k=3 then yA s t else if k=4 then zz s t
 else if k=5 then wT s t else if k=6 then Dr s t else if k=7 then(lb (gC s t).1,(gC s t).2)else(zIn,t)
def fg(s:Str):List AV×RS:=
 let w:=aP s ⟨0,false⟩
 let t:=aX s ⟨0,false⟩
 if w=de then MI s t else if w=kh then MD s t else if w=gQ then yB s t else if w=gK then zl s t else if w=gH then yU s t
 else if w=gS then xk s t else if w=dN then DQ s t else if w=db then(lb (iv s t).1,(iv s t).2)else(zIn,⟨t.pos,true⟩)
def nj(s:Str):Bool:=(iM s).2.ok&&decide ((iM s).2.pos=s.length)
def pj(s:Str):Bool:= !(fg s).2.bad&&decide (s.length<=(fg s).2.pos)
theorem Qc{s:Str}{a b:LA}{t:PS}{u:RS}(h:(At s t u/\a=b)\/pT s false t u):(t.ok&&decide (t.pos=s.length))=(!u.bad&&decide (s.length<=u.pos))/\((t.ok&&decide (t.pos=s.length))=true->a=b):=by
 rcases h with⟨h1,h2⟩|h
 ·refine⟨?_,λ_=>h2⟩;rw[h1.ok,h1.bad,h1.pos];have:=h1.le;simp only[aoD,Bool.not_false,aoh];omega
 ·rw[h.ok];refine⟨?_,λe=>by simp at e⟩;rcases h.off with h1|⟨c,h1,_⟩
  ·rw[h1];rfl
  ·have:=(amV.1 h1).1;have:¬s.length<=u.pos:=by omega
   simp[this]
theorem Ni(s:Str):nj s=pj s/\(nj s=true->(iM s).1=(fg s).1):=by
 unfold nj pj;have eW:bT s ⟨0,true,true⟩=aP s ⟨0,false⟩:=rfl;have eT:bq s ⟨0,true,true⟩=⟨(aP s ⟨0,false⟩).length,false, !(aP s ⟨0,false⟩).isEmpty⟩:=by
  show PS.mk (0+(bZ s false ⟨0,false,true⟩).length) false (true && !(bZ s false ⟨0,false,true⟩).isEmpty)=_
  rw[aoe,aoD];rfl
 have hl:(aP s ⟨0,false⟩).length<=s.length:=by
  have:=mD (bl false) (s.drop 0);rw[aow]at this;exact this
 have eR:aX s ⟨0,false⟩=⟨(aP s ⟨0,false⟩).length,false⟩:=by unfold aX;simp
 have eV:bf s cF ⟨0,true,true⟩=idx cF (aP s ⟨0,false⟩):=by unfold bf;rw[eW]
 have eC:aL s cF ⟨0,true,true⟩=⟨(aP s ⟨0,false⟩).length,false, !(aP s ⟨0,false⟩).isEmpty&&decide (0<=idx cF (aP s ⟨0,false⟩))⟩:=by unfold aL;rw[eW,eT]
 have hA:∀w,aP s ⟨0,false⟩=w->w.isEmpty=false->0<=idx cF w->At s (aL s cF ⟨0,true,true⟩) (aX s ⟨0,false⟩):=λw e h1 h2=>by
  rw[eC,eR,e,h1];exact⟨by simp[h2],rfl,rfl,by rw[<-e];exact hl,rfl⟩
 have nx:∀w:Str,w≠de->w≠kh->w≠gQ->w≠gK->w≠gH->w≠gS->w≠dN->w≠db->idx cF w = -1:=λw h1 h2 h3 h4 h5 h6 h7 h8=>oS λj hj x hx=>by
  have hm:=am9 hx;simp only[cF,anT,aoc,aoT]at hm;rcases hm with rfl|rfl|rfl|rfl|rfl|rfl|rfl|rfl<;>apply aoL<;>assumption
 apply Qc;unfold iM fg;simp only;rw[eV];generalize hw:aP s ⟨0,false⟩=w at*;by_cases h1:w=de
 ·subst h1;have e:idx cF de=0:=by decide
  simp only[e,anH];exact(O5 s).go _ _ (hA _ rfl (by decide) (by decide))
 by_cases h2:w=kh
 ·subst h2;have e:idx cF kh=1:=by decide
  have n1:¬kh=de:=by decide
  simp only[e,n1,anH,ans,show ¬(1:Int)=0 by decide];exact(TL s).go _ _ (hA _ rfl (by decide) (by decide))
 by_cases h3:w=gQ
 ·subst h3;have e:idx cF gQ=2:=by decide
  have n1:¬gQ=de:=by decide
  have n2:¬gQ=kh:=by decide
  simp only[e,n1,n2,anH,ans,show ¬(2:Int)=0 by decide,show ¬(2:Int)=1 by decide];exact(Nz s).go _ _ (hA _ rfl (by decide) (by decide))
 by_cases h4:w=gK
 ·subst h4;have e:idx cF gK=3:=by decide
  have n1:¬gK=de:=by decide
  have n2:¬gK=kh:=by decide
  have n3:¬gK=gQ:=by decide
  simp only[e,n1,n2,n3,anH,ans,show ¬(3:Int)=0 by decide,show ¬(3:Int)=1 by decide,show ¬(3:Int)=2 by decide];exact(NM s).go _ _ (hA _ rfl (by decide) (by decide))
 by_cases h5:w=gH
 ·subst h5;have e:idx cF gH=4:=by decide
  have n1:¬gH=de:=by decide
  have n2:¬gH=kh:=by decide
  have n3:¬gH=gQ:=by decide
  have n4:¬gH=gK:=by decide
  simp only[e,n1,n2,n3,n4,anH,ans,show ¬(4:Int)=0 by decide,show ¬(4:Int)=1 by decide,show ¬(4:Int)=2 by decide,show ¬(4:Int)=3 by decide];exact(MN s).go _ _ (hA _ rfl (by decide) (by decide))
 by_cases h6:w=gS
 ·subst h6;have e:idx cF gS=5:=by decide
  have n1:¬gS=de:=by decide
  have n2:¬gS=kh:=by decide
  have n3:¬gS=gQ:=by decide
  have n4:¬gS=gK:=by decide
  have n5:¬gS=gH:=by decide
  simp only[e,n1,n2,n3,n4,n5,anH,ans,show ¬(5:Int)=0 by decide,show ¬(5:Int)=1 by decide,show ¬(5:Int)=2 by decide,show ¬(5:Int)=3 by decide,show ¬(5:Int)=4 by decide];exact(ND s).go _ _ (hA _ rfl (by decide) (by decide))
 by_cases h7:w=dN
 ·subst h7;have e:idx cF dN=6:=by decide
  have n1:¬dN=de:=by decide
  have n2:¬dN=kh:=by decide
  have n3:¬dN=gQ:=by decide
  have n4:¬dN=gK:=by decide
  have n5:¬dN=gH:=by decide
  have n6:¬dN=gS:=by decide
  simp only[e,n1,n2,n3,n4,n5,n6,anH,ans,show ¬(6:Int)=0 by decide,show ¬(6:Int)=1 by decide,show ¬(6:Int)=2 by decide,show ¬(6:Int)=3 by decide,show ¬(6:Int)=4 by decide,show ¬(6:Int)=5 by decide];exact(R1 s).go _ _ (hA _ rfl (by decide) (by decide))
 by_cases h8:w=db
 ·subst h8;have e:idx cF db=7:=by decide
  have n1:¬db=de:=by decide
  have n2:¬db=kh:=by decide
  have n3:¬db=gQ:=by decide
  have n4:¬db=gK:=by decide
  have n5:¬db=gH:=by decide
  have n6:¬db=gS:=by decide
  have n7:¬db=dN:=by decide
  simp only[e,n1,n2,n3,n4,n5,n6,n7,anH,ans,show ¬(7:Int)=0 by decide,show ¬(7:Int)=1 by decide,show ¬(7:Int)=2 by decide,show ¬(7:Int)=3 by decide,show ¬(7:Int)=4 by decide,show ¬(7:Int)=5 by decide,show ¬(7:Int)=6 by decide];exact(TE s).go _ _ (hA _ rfl (by decide) (by decide))
 ·right;have e:=nx w h1 h2 h3 h4 h5 h6 h7 h8;simp only[h1,h2,h3,h4,h5,h6,h7,h8,e,ans,show ¬(-1:Int)=0 by decide,show ¬(-1:Int)=1 by decide,show ¬(-1:Int)=2 by decide,show ¬(-1:Int)=3 by decide,show ¬(-1:Int)=4 by decide,show ¬(-1:Int)=5 by decide,show ¬(-1:Int)=6 by decide,show ¬(-1:Int)=7 by decide];rw[eC,eR,e];exact .of (by simp) (by simp only;exact hl) (by simp only;omega) rfl
def prs(ln:Str->LA)(ok:Str->Bool):Nat->Str->List (LA)->Option (List (LA))×Nat×Int
 |0,_,out=>(some out,out.length,0)
 |n+1,s,out=>
  if s=[]then(some out,out.length,0)
  else if 200<=out.length then(none,out.length,2)
  else if ok (s.takeWhile (· != 10))=true/\(s.takeWhile (· != 10)).length<s.length then prs ln ok n (s.drop ((s.takeWhile (· != 10)).length+1)) (out++[ln (s.takeWhile (· != 10))])
  else(none,out.length,3)
def qG(s:Str):Option (List (LA))×Nat×Int:=prs (λl=>(iM l).1) nj s.length s []
def ig(s:Str):Option (List (LA))×Nat×Int:=prs (λl=>(fg l).1) pj s.length s []
theorem Ev:∀(n:Nat) (s:Str) (out:List (LA)),prs (λl=>(iM l).1) nj n s out=prs (λl=>(fg l).1) pj n s out
 |0,s,out=>rfl
 |n+1,s,out=>by
  have h:=Ni (s.takeWhile (· != 10));unfold prs;rw[<-h.1];by_cases hs:s=[]
  ·rw[am1 hs,am1 hs]
  rw[amU hs,amU hs];by_cases h2:200<=out.length
  ·rw[am1 h2,am1 h2]
  rw[amU h2,amU h2];by_cases h3:nj (s.takeWhile (· != 10))=true/\(s.takeWhile (· != 10)).length<s.length
  ·rw[am1 h3,am1 h3,h.2 h3.1];exact Ev n _ _
  ·rw[amU h3,amU h3]
theorem wO(s:Str):qG s=ig s:=Ev _ _ _
open Tryz
theorem ae0{h h1:AH}{s:Str}(hs:s.length<=1000000)(hL:L3 h h1 (rdC ⟨s,aX s ⟨0,false⟩⟩) zIn):
  dL (tb lE) (.ptr h.nx 0) (.ptr (h.nx+1) 0) (.ptr (h.nx+2) 0) (.str (aP s ⟨0,false⟩)) h1 (LM h s (fg s)):=by
 have hp:(aX s ⟨0,false⟩).pos<=s.length:=(gL s ⟨0,false⟩ (by simp)).2;unfold fg;simp only;generalize aX s ⟨0,false⟩=t at*;generalize aP s ⟨0,false⟩=w at*;by_cases h1:w=de
 ·rw[am1 h1,h1];exact af9 hs hp hL
 rw[amU h1];by_cases h2:w=kh
 ·rw[am1 h2,h2];exact aeD hs hp hL
 rw[amU h2];by_cases h3:w=gQ
 ·rw[am1 h3,h3];exact aam hs hp hL
 rw[amU h3];by_cases h4:w=gK
 ·rw[am1 h4,h4];exact aa0 hs hp hL
 rw[amU h4];by_cases h5:w=gH
 ·rw[am1 h5,h5];exact Zj hs hp hL
 rw[amU h5];by_cases h6:w=gS
 ·rw[am1 h6,h6];exact abm hs hp hL
 rw[amU h6];by_cases h7:w=dN
 ·rw[am1 h7,h7];exact aeS hs hp hL
 rw[amU h7];by_cases h8:w=db
 ·rw[am1 h8,h8];exact M9 hs hp hL
 rw[amU h8];exact Zl hL h1 h2 h3 h4 h5 h6 h7 h8
theorem NR(s:Str):(fg s).2.pos<=s.length+1:=by
 have hN:∀t:RS,t.pos<=s.length+1->(a_ s t).pos<=s.length+1:=λt ht=>(dD s t ht).1.lt
 have hG:∀t:RS,t.pos<=s.length+1->(aN s t).pos<=s.length+1:=λt ht=>uS ht
 have hW:∀t:RS,t.pos<=s.length+1->(aX s t).pos<=s.length+1:=λt ht=>(nr s t ht).lt
 have hT:∀t:RS,t.pos<=s.length+1->(ft s t).pos<=s.length+1:=λt ht=>(iP s t ht).lt
 have hO:∀(t:RS) (b:Bool),t.pos<=s.length+1->(bu t b).pos<=s.length+1:=λt b ht=>ht
 have h0:(aX s ⟨0,false⟩).pos<=s.length+1:=hW _ (by simp);unfold fg;simp only;generalize aX s ⟨0,false⟩=t at*;split
 ·exact hN _ (hN _ (hN _ (hN _ (hN _ (hO _ _ (hW _ (hG _ h0)))))))
 split
 ·exact hN _ (hO _ _ (hW _ (hG _ h0)))
 split
 ·exact hN _ h0
 split
 ·exact hN _ (hN _ h0)
 split
 ·exact hN _ (hO _ _ (hW _ (hG _ (hW _ (hG _ h0)))))
 split
 ·exact(gO s _ _ _ h0).lt
 split
 ·exact hT _ (hN _ (hN _ (hO _ _ (hW _ (hG _ (hN _ (hN _ h0)))))))
 split
 ·exact(qu s t (hG _ h0)).lt
 ·exact h0
theorem vj{H:AH}{b:Bool}{c d:LA}(h:ea H b c d):Frz H b (.agg c) (.agg d):=by
 have:=(bK _ _ _ _).1 h;exact .agg _ _ this.1 this.2
theorem Vx(h:AH)(s:Str)(hs:s.length<=1000000):aK prog 25 [.str s] h (.tup [.agg (fg s).1,.bool (pj s)]) h:=by
 refine aZ (R:=λv h'=>Frz (fresh h' h.nx) false v (.tup [.agg (fg s).1,.bool (pj s)])/\h.nx<=h'.nx/\∀i,i<h.nx->h'.H.get i=h.H.get i) (C25 (aW lE) ?_) λv' h' h1=>h1
 simp[g25];have hL0:L3 h (((h.add (.cells zIn)).add (.cells (rdC ⟨s,⟨0,false⟩⟩))).add (.cells zIn)) (rdC ⟨s,⟨0,false⟩⟩) zIn:=by
  refine⟨?_,?_,aj _ _ _ (by simp),by simp,λi hi=>?_,rfl,rfl⟩
  ·rw[aC _ _ _ (by simp;omega),aC _ _ _ (by simp)];exact aj _ _ _ rfl
  ·rw[aC _ _ _ (by simp)];exact aj _ _ _ (by simp)
  ·rw[az,amU (by simp;omega),az,amU (by simp;omega),az,amU (by omega)]
 change tb lE 46 [.ptr (h.nx+1) 0] (((h.add (.cells zIn)).add (.cells (rdC ⟨s,⟨0,false⟩⟩))).add (.cells zIn)) (λv h_1=>aI (dL (tb lE) (.ptr h.nx 0) (.ptr (h.nx+1) 0) (.ptr (h.nx+2) 0) v h_1) λvs h_2=>uC (tb lE) (ai vs 0) (ai vs 1) (ai vs 2) h_2 _)
 generalize((h.add (.cells zIn)).add (.cells (rdC ⟨s,⟨0,false⟩⟩))).add (.cells zIn)=h1 at*;refine vP (x:=⟨s,⟨0,false⟩⟩) hL0.a (by have:=hL0.nx;omega) ⟨⟨hs,by simp⟩,by simp⟩ ?_;have hL1:=hL0.cE (rdC ⟨s,aX s ⟨0,false⟩⟩);simp only at hL1 ⊢;generalize h1.set (h.nx+1) (.cells (rdC ⟨s,aX s ⟨0,false⟩⟩))=h2 at*;refine⟨LM h s (fg s),ae0 hs hL1,?_⟩;unfold pj;have ot:=NR s;generalize fg s=LL at*;obtain⟨cs,t⟩:=LL;rintro vs h3 ⟨rfl,c2,hL,hF⟩;simp only at hL hF ot ⊢;have hn:=hL.nx;have ha:h3.ab (h.nx+1)=some [.str s,I t.pos,.bool t.bad]:=hL.a;have hb:=hL.b;have hr:=hL.r;have fk:cut c2 0 37=some c2:=by
  have:=aM (α:=c2) (b:=[]) (n:=37) hL.len;rwa [am5]at this
 have iC:=hL.one;have hlen:=hL.len;have xY:a7 zIn 0 c2=some c2:=by
  rw[bz (by rw[hlen];decide)];unfold stN;rw[List.take_zero,anx,anf (by rw[hlen];decide),am5]
 have hst:∀hh:AH,hh.ab h.nx=some zIn->kSt hh 37 (.ptr h.nx 0) (.agg c2)=some (.undef,hh.set h.nx (.cells c2)):=λhh hc=>by
  simp[hc,xY];exact⟨hlen,iC⟩
 have pY:∀(b:Bool),b=(!t.bad&&decide (s.length<=t.pos))->Frz (fresh ((AH.mk h3.H (h3.nx+12)).set h.nx (.cells c2)) h.nx) false (.tup [.agg c2,.bool b]) (.tup [.agg cs,.bool (!t.bad&&decide (s.length<=t.pos))])/\h.nx<=((AH.mk h3.H (h3.nx+12)).set h.nx (.cells c2)).nx/\∀i,i<h.nx->((AH.mk h3.H (h3.nx+12)).set h.nx (.cells c2)).H.get i=h.H.get i:=λb hb=>by
  subst hb;refine⟨gP (vj (hF _ (by simp) λi h1 h2=>by rw[au,amU (by omega)])) (.bool _),by simp;omega,λi hi=>?_⟩;rw[au,amU (by omega)];exact hL.get i hi
 have hc3:∀c:List AV,((AH.mk h3.H (h3.nx+12)).set h.nx (.cells c)).ab h.nx=some c:=λc=>an _ _ _ _ rfl
 cases ui:t.bad
 ·rw[ui]at ha pY;have hz:=pY (decide (s.length<=t.pos)) (by simp);simp[uC,hb,ha,fk];simp[B_];unfold lE;simp[];refine PV (x:=⟨s,t⟩) (by rw[show rdC ⟨s,t⟩=[.str s,I t.pos,.bool false]by rw[<-ui];rfl];exact ha) (by show h.nx+1<h3.nx+12;omega) ⟨hs,ot⟩ ?_;simp[hlen,iC,hr,xY,fk];simpa using hz
 ·rw[ui]at ha pY;have hz:=pY false (by simp);simp[uC,hb,ha,fk];simp[B_,hlen,iC,hr,xY,fk];simpa using hz
def e25:QE prog:=QE.fn 25 (λ_=>True) (fun(s:Str)=>[.str s]) (fun(s:Str)(h:AH)=>s.length<=1000000) (fun(s:Str)=>.tup [.agg (fg s).1,.bool (pj s)]) (λh s hj hx=>Vx h s hx)
theorem Yj{tl h}(s:Str){Q:QT}(hx:s.length<=1000000)(hq:Q (.tup [.agg (fg s).1,.bool (pj s)]) h):tb (e25::tl) 25 [.str s] h Q:=aV s trivial hx hq
@[simp ↓] theorem akD:TbT e25 25:=aH e25
structure Cel(cs:LA):Prop where
 len:cs.length=37
 one:dj cs=true
 frz:∀H:AH,ea H false cs cs
theorem Cel.st{cs:LA}(c:Cel cs)(off:Nat)(vs:LA)(h:off+vs.length<=37)(ho:dj vs=true)(hf:∀H:AH,ea H false vs vs):Cel (stN cs off vs):=
 ⟨by rw[Jq (by rw[c.len];exact h)];exact c.len,wH c.one ho,λH=>cA (c.frz H) (hf H)⟩
theorem gq:Cel zIn:=⟨rfl,rfl,ja⟩
theorem Ah{H:AH}{a:AV}(h:Frz H false a a):ea H false [a] [a]:=⟨h,trivial⟩
theorem bO{cs:LA}(c:Cel cs)(off:Nat)(n:Int)(h:off<37):Cel (stN cs off [I n]):=c.st off _ (by simp;omega) rfl λH=>Ah (.int _ _)
theorem rz(l:List Val)(H:AH):Frz H false (.psl (vCs l)) (.psl (vCs l)):=
 .psl rfl _ _ rfl (λi x y hx hy=>by rw[hx]at hy;cases hy;rfl) λi x y j c d hx hy hc hd=>by
  rw[hx]at hy;cases hy;rw[hc]at hd;cases hd;exact rZ l H i x hx j c hc
theorem zk(s:Str):Cel (fg s).1:=by
 unfold fg;simp only;generalize aX s ⟨0,false⟩=t at*;split
 ·exact bO (bO (bO (bO ((bO gq 0 _ (by decide)).st 1 [I _,I _,I 0,I 0,I 0,I 0] (by simp) rfl λH=>⟨.int _ _,.int _ _,.int _ _,.int _ _,.int _ _,.int _ _,trivial⟩) 3 _ (by decide)) 4 _ (by decide)) 5 _ (by decide)) 6 _ (by decide)
 split
 ·refine bO ?_ 9 _ (by decide);split
  ·exact bO gq 0 _ (by decide)
  ·exact(bO gq 0 _ (by decide)).st 7 [I _,I _] (by simp) rfl λH=>⟨.int _ _,.int _ _,trivial⟩
 split
 ·exact bO (bO gq 0 _ (by decide)) 9 _ (by decide)
 split
 ·exact bO (bO (bO gq 0 _ (by decide)) 10 _ (by decide)) 11 _ (by decide)
 split
 ·exact bO ((bO gq 0 _ (by decide)).st 12 [.bool _,.bool _,I 0] (by simp) rfl λH=>⟨.bool _,.bool _,.int _ _,trivial⟩) 14 _ (by decide)
 split
 ·exact(bO gq 0 _ (by decide)).st 15 _ (by simp) rfl λH=>Ah (rz _ H)
 split
 ·exact(bO (bO (bO (bO (bO (bO gq 0 _ (by decide)) 16 _ (by decide)) 17 _ (by decide)) 18 _ (by decide)) 19 _ (by decide)) 20 _ (by decide)).st 21 _ (by simp) rfl λH=>Ah (.str _)
 split
 ·exact⟨rfl,yI _ _,DA _ _⟩
 ·exact gq
def yk(r:Option (List (LA))×Nat×Int):AV:=.tup [.psl (r.1.getD []),I r.2.1,I r.2.2]
theorem y4{n:Nat}{hb h':AH}{lv:AV}{ys:List (LA)}(hy:∀y∈ys,Cel y)(o:OL 37 hb h' lv ys.length ys.flatten)(hn:n<=hb.nx):Frz (fresh h' n) false lv (.psl ys):=
 nA (λy h=>(hy y h).len) (λy h H j c hc=>((bK _ _ _ _).1 ((hy y h).frz H)).2 j c c hc hc) o hn
theorem ahH{s:Str}{a i:Nat}(ha:a<=i)(hn:∀j,a<=j->j<i->s[j]?≠some 10)(hi:s[i]?=some 10):(s.drop a).takeWhile (· != 10)=(s.drop a).take (i-a)/\((s.drop a).takeWhile (· != 10)).length=i-a:=by
 have hlt:=(amV.1 hi).1;have e:s.drop a=(s.drop a).take (i-a)++(10::s.drop (i+1)):=by
  have h1:(s.drop a).drop (i-a)=10::s.drop (i+1):=by
   rw[an4,show a+(i-a)=i by omega,ang hlt];have:=(amV.1 hi).2;rw[this]
  rw[<-h1,an9]
 have eQ:∀c∈(s.drop a).take (i-a),(c != 10)=true:=by
  intro c hc;obtain⟨j,hj,rfl⟩:=List.getElem_of_mem hc;rw[anN,am3]at hj;have h2:=hn (a+j) (by omega) (by omega);rw[List.getElem_take,List.getElem_drop];have:s[a+j]?=some s[a+j]:=am0 (by omega);rw[this]at h2;simpa using h2
 have h3:(s.drop a).takeWhile (· != 10)=(s.drop a).take (i-a):=by
  conv=>lhs;rw[e]
  exact xw _ _ eQ λc t h=>by cases h;rfl
 refine⟨h3,?_⟩;rw[h3,anN,am3];omega
theorem Sq{s:Str}{a:Nat}(hn:∀j,a<=j->j<s.length->s[j]?≠some 10):(s.drop a).takeWhile (· != 10)=s.drop a:=by
 have eQ:∀c∈s.drop a,(c != 10)=true:=by
  intro c hc;obtain⟨j,hj,rfl⟩:=List.getElem_of_mem hc;rw[am3]at hj;have h2:=hn (a+j) (by omega) (by omega);rw[List.getElem_drop];have:s[a+j]?=some s[a+j]:=am0 (by omega);rw[this]at h2;simpa using h2
 have:=xw (s.drop a) [] eQ (by simp);rwa [am5]at this
structure RP(h h':AH)(lv:AV)(out:List (LA)):Prop where
 ol:OL 37 h h' lv out.length out.flatten
 nx:h.nx<=h'.nx
 get:∀i,i<h.nx->h'.H.get i=h.H.get i
 cel:∀y∈out,Cel y
theorem dG{zero cs:LA}(h:zero.length=cs.length):a7 zero 0 cs=some cs:=by
 rw[bz (by omega)];unfold stN;rw[List.take_zero,anx,anf (by omega),am5]
theorem aeI{cs zero:LA}(hl:cs.length=37)(h1:dj cs=true)(hz:zero.length=37):bW zero [(0,37,.agg cs)]=some cs:=by
 have:=dG (zero:=zero) (cs:=cs) (by omega);simp[bW,iU,AV.cells,hl,h1,this]
theorem xn{z:Nat}{h0 h:AH}{lv:AV}{n:Nat}{cs:LA}(o:OL z h0 h lv n cs)(hh:AH):bh hh lv=some (I n,hh):=by
 rcases o with⟨rfl,rfl,_⟩|⟨k,rfl,_⟩
 ·simp[]
 ·simp[]
inductive PI(h:AH)(s:Str)(R:Option (List (List AV))×Nat×Int):Nat->List AV->AH->Prop
 |mk {h':AH} (a i n:Nat) (lv:AV) (out:List (LA)) (hP:RP h h' lv out) (hai:a<=i) (his:i<=s.length) (hno:∀j,a<=j->j<i->s[j]?≠some 10) (hn:s.length-a<=n) (hq:prs (λl=>(fg l).1) pj n (s.drop a) out=R) (hol:out.length<=a):PI h s R (s.length-i) [.str s,lv,I a,I i] h'
inductive PMx(h:AH)(s:Str)(R:Option (List (List AV))×Nat×Int)(i:Nat):AX->List AV->AH->Prop
 |nrm {h':AH} (a n:Nat) (lv:AV) (out:List (LA)) (hP:RP h h' lv out) (hai:a<=i+1) (hno:∀j,a<=j->j<i+1->s[j]?≠some 10) (hn:s.length-a<=n) (hq:prs (λl=>(fg l).1) pj n (s.drop a) out=R) (hol:out.length<=a):PMx h s R i .nrm [.str s,.undef,.undef,.undef,lv,I a,I i] h'
 |ret {h':AH} (e:Int) (m a:Nat) (lv:AV) (hR:R=(none,m,e)) (hn:h.nx<=h'.nx) (hg:∀i,i<h.nx->h'.H.get i=h.H.get i):PMx h s R i .ret [.str s,.aa,I m,I e,lv,I a,I i] h'
theorem QC(h:AH)(s:Str)(hs:s.length<=1000000):aK prog 13 [.str s] h (yk (ig s)) h:=by
 refine aZ (R:=λv h'=>Frz (fresh h' h.nx) false v (yk (ig s))/\h.nx<=h'.nx/\∀i,i<h.nx->h'.H.get i=h.H.get i) (C13 (aW [e25]) ?_) λv' h' h1=>h1
 unfold ig;generalize hR:prs (λl=>(fg l).1) pj s.length s []=R;simp[g13];refine⟨PI h s R,s.length,?_,?_⟩
 ·exact .mk 0 0 s.length .aa [] ⟨OL.start _ _ _,amY _,λ_ _=>rfl,by simp⟩ (by omega) (by omega) (λj h1 h2=>by omega) (by omega) (by simpa using hR) (by simp)
 ·rintro m vs h' hI;cases hI with
  |mk a i n lv out hP hai his hno hn hq hol=>
  have hlen:=xn hP.ol;by_cases hlt:i<s.length
  ·have cw:(i:Int)<s.length:=by omega
   obtain⟨c,hc⟩:∃c,s[i]?=some c:=⟨s[i],am0 hlt⟩;have hne:s.drop a≠[]:=by
    intro e;have:=congrArg List.length e;rw[am3,anr]at this;omega
   obtain⟨n,rfl⟩:∃k,n=k+1:=⟨n-1,by omega⟩;simp[FM,cw];refine⟨PMx h s R i,?_,?_⟩
   ·by_cases h10:c=10
    ·subst h10;obtain⟨t1,t2⟩:=ahH hai hno hc;unfold prs at hq;rw[amU hne]at hq;by_cases h2:200<=out.length
     ·rw[am1 h2]at hq;have h2':(200:Int)<=out.length:=by omega
      simp[zW,bC hc,hlen,h2'];exact .ret _ _ _ _ hq.symm hP.nx hP.get
     ·rw[amU h2,t2,t1]at hq;have h2':¬(200:Int)<=out.length:=by omega
      simp[zW,bC hc,hlen,h2',nG hai his];have hll:((s.drop a).take (i-a)).length<=1000000:=by
       rw[anN,am3];omega
      have ajc:i-a<(s.drop a).length:=by rw[am3];omega
      generalize(s.drop a).take (i-a)=w at*;refine Yj w hll ?_;have lr:=zk w;generalize(fg w).1=cells at*;have hn0:=hP.nx;have xY:a7 [I 0,I 0,I 0,I 0,I 0,I 0,I 0,I 0,I 0,I 0,I 0,I 0,.bool false,.bool false,I 0,.aa,I 0,I 0,I 0,I 0,I 0,.str [],I 0,.aa,.aa,.aa,I 0,I 0,.bool false,I 0,I 0,I 0,I 0,I 0,I 0,.aa,I 0] 0 cells=some cells:=dG (by rw[lr.len];rfl);have haf:bW [I 0,I 0,I 0,I 0,I 0,I 0,I 0,I 0,I 0,I 0,I 0,I 0,.bool false,.bool false,I 0,.aa,I 0,I 0,I 0,I 0,I 0,.str [],I 0,.aa,.aa,.aa,I 0,I 0,.bool false,I 0,I 0,I 0,I 0,I 0,I 0,.aa,I 0] [(0,37,.agg cells)]=some cells:=aeI lr.len lr.one rfl;have abZ:cut cells 0 37=some cells:=by
       have:=aM (α:=cells) (b:=[]) (n:=37) lr.len;rwa [am5]at this
      have EW:=lr.len;have XG:=lr.one;have hg2:∀i,i<h'.nx->((h'.add (.cells zIn)).set h'.nx (.cells cells)).H.get i=h'.H.get i:=λi hi=>by rw[au,amU (by omega),az,amU (by omega)]
      have hP2:RP h ((h'.add (.cells zIn)).set h'.nx (.cells cells)) lv out:=⟨hP.ol.du (by simp) λi _ hi=>hg2 i hi,by simp;omega,λi hi=>by rw[hg2 i (by omega)];exact hP.get i hi,hP.cel⟩;cases hok:pj w
      ·rw[hok]at hq;simp only[am7,an3,ans]at hq;simp(disch:=first|go_size|fail)[E5,EW,XG,xY,hlen];exact .ret _ _ _ _ hq.symm hP2.nx hP2.get
      ·rw[hok]at hq;simp only[true_and,ajc,anH]at hq;simp(disch:=first|go_size|fail)[E5,EW,XG,xY,abZ,haf];obtain⟨lv',h3,hk3,ho3,hn3,hg3⟩:=mI (bytes:=376) (tc:=cells) hP2.ol hP2.nx lr.len lr.one (by omega) (by omega);have ab8:dK (((h'.add (.cells zIn)).set h'.nx (.cells cells)).add (.cells cells)) 37 376 lv (.rsl (h'.nx+1) 0 1 37)=some (lv',h3):=hk3;change wk (dK (((h'.add (.cells zIn)).set h'.nx (.cells cells)).add (.cells cells)) 37 376 lv (.rsl (h'.nx+1) 0 1 37)) _
       rw[ab8];have hn2:((h'.add (.cells zIn)).set h'.nx (.cells cells)).nx=h'.nx+1:=by simp
       rw[hn2]at hn3;have hP3:RP h h3 lv' (out++[cells]):=by
        refine⟨?_,by omega,λi hi=>by rw[hg3 i hi];exact hP2.get i hi,?_⟩
        ·rw[amX,am2,List.flatten_append];simpa using ho3
        ·intro y hy;rcases anP.1 hy with hy|hy
         ·exact hP.cel y hy
         ·rw[anQ.1 hy];exact lr
       simp(disch:=first|go_size|fail)[Qy];rw[show s.drop a=s.drop a from rfl]at hq;rw[an4,show a+(i-a+1)=i+1 by omega]at hq;exact .nrm (i+1) n lv' (out++[cells]) hP3 (amY _) (λj h1 h2=>by omega) (by omega) hq (by rw[amX,am2];omega)
    ·have h8:((c.toNat:Int) != 10)=true:=by
      have:=b8n c 10;rw[show((10:UInt8).toNat:Int)=10 from rfl]at this;rw[this];simpa using h10
     simp(disch:=first|go_size|fail)[zW,bC hc,h8];refine .nrm a (n+1) lv out hP (by omega) ?_ (by omega) hq hol;intro j h1 h2;by_cases hji:j=i
     ·subst hji;rw[hc];simpa using h10
     ·exact hno j h1 (by omega)
   ·rintro x vs h6 hM;cases hM with
    |nrm a' n' lv' ajd hP6 q1 q2 q3 q4 q5=>
     simp(disch:=first|go_size|fail)[Ha];exact⟨s.length-(i+1),by omega,.mk a' (i+1) n' lv' ajd hP6 q1 (by omega) q2 q3 q4 q5⟩
    |ret e m a' lv' hRe q1 q2=>
     simp(disch:=first|go_size|fail)[Ha];simp(disch:=first|go_size|fail)[HT];subst hRe;exact⟨gb .aa (.int _ _) (.int _ _),q1,q2⟩
  ·have cw:¬(i:Int)<s.length:=by omega
   obtain rfl:i=s.length:=by omega
   simp(disch:=first|go_size|fail)[FM,cw];simp[HT];have htw:=Sq hno;by_cases ha:a<s.length
   ·have hne:s.drop a≠[]:=by
     intro e;have:=congrArg List.length e;rw[am3,anr]at this;omega
    obtain⟨n,rfl⟩:∃k,n=k+1:=⟨n-1,by omega⟩;unfold prs at hq;rw[amU hne,htw]at hq;have xW:(a:Int)<s.length:=by omega
    by_cases h2:200<=out.length
    ·rw[am1 h2]at hq;subst hq;have h2':(200:Int)<=out.length:=by omega
     simp[uZ,xW,hlen,h2'];exact⟨gb .aa (.int _ _) (.int _ _),hP.nx,hP.get⟩
    ·rw[amU h2,amU (by simp)]at hq;subst hq;have h2':¬(200:Int)<=out.length:=by omega
     simp[uZ,xW,hlen,h2'];exact⟨gb .aa (.int _ _) (.int _ _),hP.nx,hP.get⟩
   ·have he:s.drop a=[]:=anf (by omega);rw[he]at hq;have hq2:R=(some out,out.length,0):=by
     rw[<-hq];cases n with
     |zero=>rfl
     |succ n=>unfold prs;rw[am1 rfl]
    subst hq2;have xW:¬(a:Int)<s.length:=by omega
    simp[uZ,xW,hlen];exact⟨gb (y4 hP.cel hP.ol (amY _)) (.int _ _) (.int _ _),hP.nx,hP.get⟩
def e13:QE prog:=QE.fn 13 (λ_=>True) (fun(s:Str)=>[.str s]) (fun(s:Str)(h:AH)=>s.length<=1000000) (fun(s:Str)=>yk (ig s)) (λh s hj hx=>QC h s hx)
theorem aeo{tl h}(s:Str){Q:QT}(hx:s.length<=1000000)(hq:Q (yk (ig s)) h):tb (e13::tl) 13 [.str s] h Q:=aV s trivial hx hq
@[simp ↓] theorem akv:TbT e13 13:=aH e13
