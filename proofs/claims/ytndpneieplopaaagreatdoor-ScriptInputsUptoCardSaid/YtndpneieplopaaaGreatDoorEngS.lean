/- A region that draws its order: the objects in parts. -/
import Derived.Test.YtndpneieplopaaaGreatDoorEngL
set_option linter.unusedSimpArgs false
set_option linter.unusedVariables false
noncomputable section
namespace Go.Eng
abbrev HF:=Nat->Option bg
def vc(β:Bl)(G:HF)(b:Nat):Prop:=∃id o base,G id=some o/\β id=some (b,base)
abbrev LF(own:Nat->Prop)(β:Bl)(G:HF):Nat->Prop:=λb=>own b\/vc β G b
structure qY(own:Nat->Prop)(β:Bl)(G:HF)(nx:Nat)(w:World):Prop where
 fresh:∀id,nx<=id->β id=none
 lt:∀id b base,β id=some (b,base)->b<w.heap.size
 iU:∀b,own b->b<w.heap.size
 obj:∀id o,G id=some o->∃b base,β id=some (b,base)/\¬own b/\OR w.heap (LF own β G) β b base o
 inj:∀id id' o o' b x y,G id=some o->G id'=some o'->β id=some (b,x)->β id'=some (b,y)->id=id'
structure lZ(β:Bl)(G:HF)(w:World)(β':Bl)(G':HF)(w':World):Prop where
 ext:∀id x,β id=some x->β' id=some x
 size:w.heap.size<=w'.heap.size
 aY:∀b,b<w.heap.size->¬vc β G b->w'.heap[b]?=w.heap[b]?
 live:∀b,vc β' G' b->vc β G b\/w.heap.size<=b
 shape:∀(b:Nat) (cur:Array Value) (e:TypeId) (fz:Nat×Nat),w.heap[b]?=some (.cells cur e fz)->∃cur' fz',w'.heap[b]?=some (.cells cur' e fz')/\cur'.size=cur.size/\(vc β' G' b->fz'=fz)
 os:w'.os=w.os
 tape:w'.tape=w.tape
 output:w'.output=w.output
theorem lZ.refl(β:Bl)(G:HF)(w:World):lZ β G w β G w:=
 ⟨λ_ _ h=>h,ay _,λ_ _ _=>rfl,λ_ h=>.inl h,λ_ cur _ c h=>⟨cur,c,h,rfl,λ_=>rfl⟩,rfl,rfl,rfl⟩
theorem lZ.trans{β₁ β₂ β₃:Bl}{h₁ h₂ h₃:HF}{w₁ w₂ w₃:World}(h:lZ β₁ h₁ w₁ β₂ h₂ w₂)(k:lZ β₂ h₂ w₂ β₃ h₃ w₃):lZ β₁ h₁ w₁ β₃ h₃ w₃:=by
 refine⟨λid x i=>k.ext _ _ (h.ext _ _ i),bf h.size k.size,λb d g=>?_,λb d=>?_,λb cur e t j=>?_,k.os.trans h.os,k.tape.trans h.tape,k.output.trans h.output⟩
 ·rw[k.aY b (gq d h.size) (λf=>?_)]
  ·exact h.aY b d g
  rcases h.live b f with c|c
  ·exact g c
  omega
 ·rcases k.live b d with c|c
  ·exact h.live b c
  exact .inr (bf h.size c)
 obtain⟨c1,f1,c,h2,l⟩:=h.shape _ _ _ _ j;obtain⟨c2,f2,p,q,r⟩:=k.shape _ _ _ _ c;refine⟨c2,f2,p,q.trans h2,λf=>(r f).trans (l ((k.live b f).elim id λhle=>?_))⟩;have:=gR c;omega
theorem lZ.later{own:Nat->Prop}{β β':Bl}{G k:HF}{w w':World}(g:lZ β G w β' k w'):sI w.heap (LF own β G) β w'.heap (LF own β' k) β':=
 ⟨g.ext,λb l i=>⟨λj=>j.elim (λd=>i (.inl d)) (λd=>(g.live b d).elim (λh2=>i (.inr h2)) (λh2=>by omega)),g.aY b l (λj=>i (.inr j))⟩,λb cur e p q=>let⟨c,f,d,h2,_⟩:=g.shape b cur e p q;⟨c,f,d,h2⟩⟩
def lS(own:Nat->Prop)(β:Bl)(G:HF)(V:Hp):Nat->Prop:=λb=>own b\/∃id o base,G id=some o/\V.get id=none/\β id=some (b,base)
section
variable {own:Nat->Prop} {β:Bl} {G:HF} {nx:Nat} {w w':World} {V V':Hp}
theorem p!(hV:∀id o,V.get id=some o->G id=some o)(b:Nat):LL (lS own β G V) β V b↔LF own β G b:=by
 constructor
 ·rintro((h|⟨id,o,base,c,_,e⟩)|⟨id,o,base,c,h2⟩)
  ·exact .inl h
  ·exact .inr ⟨id,o,base,c,e⟩
  exact .inr ⟨id,o,base,hV id o c,h2⟩
 rintro(h|⟨id,o,base,c,h2⟩)
 ·exact .inl (.inl h)
 cases d:V.get id with
 |none=>exact .inl (.inr ⟨id,o,base,c,d,h2⟩)
 |some f=>exact .inr ⟨id,f,base,d,h2⟩
theorem Z3(hV:∀id o,V.get id=some o->G id=some o):LL (lS own β G V) β V=LF own β G:=funext λb=>propext (p! hV b)
theorem qY.split(c:qY own β G nx w)(hV:∀id o,V.get id=some o->G id=some o):aB (lS own β G V) β V nx w:=by
 refine⟨c.fresh,c.lt,?_,λid o g=>?_,λid d o i b x y f h2=>c.inj id d o i b x y (hV _ _ f) (hV _ _ h2)⟩
 ·rintro b (h|⟨id,o,base,f,_,j⟩)
  ·exact c.iU b h
  exact c.lt id b base j
 obtain⟨b,base,f,h2,j⟩:=c.obj id o (hV id o g);refine⟨b,base,f,?_,?_⟩
 ·rintro(h|⟨d,i,e,k1,k2,k⟩)
  ·exact h2 h
  have:=c.inj id d o i b base e (hV id o g) k1 f k;subst this;rw[g]at k2;cases k2
 have:=Z3 (own:=own) (β:=β) hV;rw[show(λb=>lS own β G V b\/live β V b)=LF own β G from this];exact j
def glue(G:HF)(V V':Hp):HF:=λx=>match V'.get x with
 |some o=>some o
 |none=>match V.get x with
  |none=>G x
  |some _=>none
theorem qY.glue{β':Bl}{ad:Nat}{n n':Nat}(B:qY own β G nx w)(hV:∀id o,V.get id=some o->G id=some o)(h':aB (lS own β G V) β' V' ad w')(p:aX (lS own β G V) β ⟨V,n⟩ w β' ⟨V',n'⟩ w'):
  qY own β' (Eng.glue G V V') ad w'/\lZ β G w β' (Eng.glue G V V') w'/\LL (lS own β G V) β' V'=LF own β' (Eng.glue G V V')/\(∀id o l,G id=some o->V.get id=none->V'.get id=some l->False):=by
 have Q:∀id o l,G id=some o->V.get id=none->V'.get id=some l->False:=by
  intro id o l t hv S;obtain⟨b,base,q,_⟩:=B.obj id o t;obtain⟨b',i,g,v,_⟩:=h'.obj id l S;rw[p.ext _ _ q]at g;cases g;exact v (.inr ⟨id,o,base,t,hv,q⟩)
 have d:∀id o,Eng.glue G V V' id=some o->V'.get id=some o\/(V'.get id=none/\V.get id=none/\G id=some o):=by
  intro id o t;unfold Eng.glue at t;split at t
  ·rename_i l ho;cases t;exact .inl ho
  rename_i ho;split at t
  ·rename_i hv;exact .inr ⟨ho,hv,t⟩
  cases t
 have R:LL (lS own β G V) β' V'=LF own β' (Eng.glue G V V'):=by
  funext b
  apply propext;constructor
  ·rintro((h|⟨id,o,base,r,h2,C⟩)|⟨id,o,base,r,h2⟩)
   ·exact .inl h
   ·refine .inr ⟨id,o,base,?_,p.ext _ _ C⟩;unfold Eng.glue;cases S:V'.get id with
    |some l=>exact(Q id o l r h2 S).elim
    |none=>simp[h2,r]
   exact .inr ⟨id,o,base,by unfold Eng.glue;rw[r],h2⟩
  rintro(h|⟨id,o,base,r,h2⟩)
  ·exact .inl (.inl h)
  rcases d id o r with C|⟨_,K,u⟩
  ·exact .inr ⟨id,o,base,C,h2⟩
  obtain⟨b',i,g,_⟩:=B.obj id o u;have:=p.ext _ _ g;rw[h2]at this;cases this;exact .inl (.inr ⟨id,o,base,u,K,g⟩)
 have z:∀id o b base,G id=some o->V.get id=none->β id=some (b,base)->w'.heap[b]?=w.heap[b]?:=by
  intro id o b base t hv q;refine p.aY b (B.lt id b base q) ?_;rintro⟨j,l,i,r,h2⟩;have:=B.inj id j o l b base i t (hV _ _ r) q h2;subst this;rw[hv]at r;cases r
 have af:lZ β G w β' (Eng.glue G V V') w':=by
  refine⟨p.ext,p.size,λb q hn=>p.aY b q (fun⟨id,o,base,r,h2⟩=>hn ⟨id,o,base,hV _ _ r,h2⟩),?_,λb cur e fz hc=>?_,p.os,p.tape,p.output⟩;rintro b ⟨id,o,base,r,h2⟩;rcases d id o r with C|⟨_,K,u⟩
  ·rcases p.live b ⟨id,o,base,C,h2⟩with⟨j,l,i,k1,k2⟩|k
   ·exact .inl ⟨j,l,i,hV _ _ k1,k2⟩
   exact .inr k
  ·obtain⟨b',i,g,_⟩:=B.obj id o u;have:=p.ext _ _ g;rw[h2]at this;cases this;exact .inl ⟨id,o,base,u,g⟩
  obtain⟨c,f,r,h2,C⟩:=p.shape b cur e fz hc;refine⟨c,f,r,h2,fun⟨id,o,base,k1,k2⟩=>?_⟩;rcases d id o k1 with K|⟨_,K,u⟩
  ·exact C ⟨id,o,base,K,k2⟩
  obtain⟨b',i,g,_⟩:=B.obj id o u;have:=p.ext _ _ g;rw[k2]at this;cases this;have he:=z id o _ _ u K g;rw[hc]at he;rw[he]at r;cases r;rfl
 refine⟨⟨h'.fresh,h'.lt,λb q=>gq (B.iU b q) p.size,λid o t=>?_,λid j o l b x y t aj q g=>?_⟩,af,R,Q⟩
 ·rcases d id o t with C|⟨_,K,u⟩
  ·obtain⟨b,base,q,v,M⟩:=h'.obj id o C;refine⟨b,base,q,λal=>v (.inl al),?_⟩;rw[show(λb=>lS own β G V b\/live β' V' b)=LF own β' (Eng.glue G V V')from R]at M;exact M
  obtain⟨b,base,q,v,M⟩:=B.obj id o u;exact⟨b,base,p.ext _ _ q,v,M.later af.later (z id o b base u K q)⟩
 have X:∀N A o1 o2 x1 x2,V'.get N=some o1->V.get A=none->G A=some o2->β' N=some (b,x1)->β' A=some (b,x2)->False:=by
  intro N A o1 o2 x1 x2 k1 k2 k3 k4 k5;obtain⟨b1,U,H,v,_⟩:=h'.obj N o1 k1;rw[k4]at H;cases H;obtain⟨b2,W,J,_⟩:=B.obj A o2 k3;have:=p.ext _ _ J;rw[k5]at this;cases this;exact v (.inr ⟨A,o2,x2,k3,k2,J⟩)
 rcases d id o t with C|⟨_,K,u⟩
 ·rcases d j l aj with k3|⟨_,k4,k5⟩
  ·exact h'.inj id j o l b x y C k3 q g
  exact(X id j o l x y C k4 k5 q g).elim
 rcases d j l aj with k3|⟨_,k4,k5⟩
 ·exact(X j id l o y x k3 K u g q).elim
 obtain⟨b1,U,H,_⟩:=B.obj id o u;obtain⟨b2,W,J,_⟩:=B.obj j l k5;have e1:=p.ext _ _ H;have e2:=p.ext _ _ J;rw[q]at e1;rw[g]at e2;cases e1;cases e2;exact B.inj id j o l b x y u k5 H J
end
theorem KS{t:Nat}:∀ {l:List Nat},pI t l=true↔t∈l
 |[]=>by simp[pI]
 |x::r=>by simp[pI,KS (l:=r)]
section
variable {T T':Tm}
theorem jR{x:Opd}(h:∀t∈x.use,T'.get t=T.get t):x.ev T'=x.ev T:=by
 cases x with
 |tmp t=>simp only[Opd.ev];rw[h t (by simp[Opd.use])]
 |const v=>rfl
theorem wj{x:Option Opd}(h:∀t∈sT x,T'.get t=T.get t):x.map (·.ev T')=x.map (·.ev T):=by
 cases x with
 |none=>rfl
 |some x=>simp only[zR];rw[jR h]
theorem uk:∀ {xs:List Opd},(∀t∈qN xs,T'.get t=T.get t)->xs.map (·.ev T')=xs.map (·.ev T)
 |[],_=>rfl
 |x::xs,h=>by
  simp only[da];rw[jR (λt c=>h t (by simp[qN,c])),uk (λt c=>h t (by simp[qN,c]))]
theorem JD:∀ {c:List (Nat×Nat×Opd)} {cs:List AV},(∀t∈u_ c,T'.get t=T.get t)->iB T' cs c=iB T cs c
 |[],_,_=>rfl
 |(o,s,x)::c,cs,h=>by
  unfold iB;rw[jR (x:=x) (λt d=>h t (by simp[u_,d]))];split
  ·simp only;split
   ·split
    ·exact JD (λt d=>h t (by simp[u_,d]))
    rfl
   rfl
  rfl
theorem Ki{f:iM}{h:AH}{e:AOp}(d:∀t∈e.gL,T'.get t=T.get t):aop f T' h e=aop f T h e:=by
 cases e<;>simp only[AOp.gL]at d<;>simp only[aop,nq,mb,pJ,cL,l9,o8,jw,gh,kSt,k_,aG,oK,lx,nu,kUn,lg,tu,gZ,aC,gv,tJ,jl,kSl,iD,bn,mO,uF,sX,fy,od,jk,ml,tD,kz,sN,<-dw];all_goals first
  |(rw[jR (λt c=>d t c)];done)
  |(rw[jR (λt c=>d t (by simp[c])),jR (λt c=>d t (by simp[c]))];done)
  |(rw[jR (λt c=>d t (by simp[c])),jR (λt c=>d t (by simp[c])),jR (λt c=>d t (by simp[c]))];done)
  |(rw[JD (λt c=>d t c)];done)
  |(rw[uk (λt c=>d t c)];done)
  |(rw[uk (λt c=>d t (by simp[c])),uk (λt c=>d t (by simp[c]))];done)
  |(rw[jR (λt c=>d t (by simp[c])),uk (λt c=>d t (by simp[c]))];done)
  |(rw[jR (λt c=>d t (by simp[c])),wj (λt c=>d t (by simp[c])),wj (λt c=>d t (by simp[c])),wj (λt c=>d t (by simp[c]))];done)
  |(rw[jR (λt c=>d t (by simp[c])),wj (λt c=>d t (by simp[c])),wj (λt c=>d t (by simp[c]))];done)
  |skip
theorem o!{e:AOp}(d:∀t∈e.gL,T'.get t=T.get t):fZ T' e=fZ T e:=by
 cases e<;>simp only[AOp.gL]at d<;>simp only[fZ];all_goals first
  |(rw[jR (λt c=>d t c)];done)
  |(rw[jR (λt c=>d t (by simp[c])),jR (λt c=>d t (by simp[c]))];done)
  |(rw[JD (λt c=>d t c)];done)
  |(rw[uk (λt c=>d t c)];done)
  |skip
end
theorem ac1{h l:AH}{k:XK}{e:List AV}{v:AV}(p:xA k=false)(q:xE k=false)(d:xRd k e=none)(c:kX h k e=some (v,l)):l=h/\∀h2,kX h2 k e=some (v,h2):=by
 cases k<;>simp only[xE]at q<;>(try(cases q;done))<;>simp only[xA]at p<;>(try(cases p;done));case yH k ok zero=>
  match e,d,c with
  |[],_,c=>simp[kX]at c
  |[_],_,c=>simp[kX]at c
  |m::key::x::r,_,c=>simp[kX]at c
  |[m,key],d,c=>
   cases m<;>simp[kX,pM]at c;case fp=>
    simp only[kX,pM];obtain⟨q1,q2⟩:=c;simp only[q1,bt];simp only[u0]at q2 ⊢;cases q2;exact⟨rfl,λ_=>rfl⟩
   case fh id=>simp[xRd]at d
 case b2s=>
  match e,d,c with
  |[],_,c=>simp[kX]at c
  |m::x::r,_,c=>simp[kX]at c
  |[m],d,c=>
   have key:∀g:AH,cU g 1 m=cU h 1 m:=λg=>by cases m<;>first|rfl|(simp[xRd]at d)
   simp only[kX]at c ⊢;cases f:cU h 1 m with
   |none=>rw[f]at c;cases c
   |some cs=>
    cases j:cj m with
    |none=>rw[f,j]at c;cases c
    |some n=>
     rw[f,j]at c;cases i:mK cs with
     |none=>simp only[i]at c;cases c
     |some s=>simp only[i]at c;cases c;exact⟨rfl,λg=>by rw[key g,f];simp only[i]⟩
 case r2s=>
  match e,d,c with
  |[],_,c=>simp[kX]at c
  |m::x::r,_,c=>simp[kX]at c
  |[m],d,c=>
   have key:∀g:AH,cU g 1 m=cU h 1 m:=λg=>by cases m<;>first|rfl|(simp[xRd]at d)
   simp only[kX]at c ⊢;cases f:cU h 1 m with
   |none=>rw[f]at c;cases c
   |some cs=>
    cases j:cj m with
    |none=>rw[f,j]at c;cases c
    |some n=>
     rw[f,j]at c;cases i:nd cs with
     |some s=>simp only[i]at c;cases c;exact⟨rfl,λg=>by rw[key g,f];simp only[i]⟩
     |none=>
      cases hi:mY cs with
      |none=>simp only[i,hi]at c;cases c
      |some y=>simp only[i,hi]at c;cases c;exact⟨rfl,λg=>by rw[key g,f];simp only[i,hi]⟩
 case i2s=>
  match e,c with
  |[],c=>simp[kX]at c
  |m::x::r,c=>cases m<;>simp[kX]at c
  |[m],c=>
   cases m<;>simp[kX]at c;obtain⟨rfl,rfl⟩:=c;exact⟨rfl,λ_=>by simp[kX]⟩
 case s2b=>
  match e,c with
  |[],c=>simp[kX]at c
  |m::x::r,c=>cases m<;>simp[kX]at c
  |[m],c=>
   cases m<;>simp[kX]at c;obtain⟨u,rfl,rfl⟩:=c;exact⟨rfl,λ_=>by simp[kX,u]⟩
 case ni t=>
  match e,c with
  |[],c=>simp[kX]at c
  |m::x::r,c=>simp[kX]at c
  |[m],c=>
   simp[kX]at c;obtain⟨rfl,rfl⟩:=c;exact⟨rfl,λ_=>by simp[kX]⟩
 case nz neg=>
  match e,c with
  |[],c=>simp[kX]at c
  |m::x::r,c=>cases m<;>simp[kX]at c
  |[m],c=>
   cases m<;>simp[kX]at c;all_goals (obtain⟨rfl,rfl⟩:=c;exact⟨rfl,λ_=>by simp[kX]⟩)
 case yI=>
  match e,d,c with
  |[],_,c=>simp[kX]at c
  |m::x::r,_,c=>simp[kX]at c
  |[m],d,c=>
   cases m<;>simp[kX,pM]at c;case fp=>
    obtain⟨rfl,rfl⟩:=c;exact⟨rfl,λ_=>by simp[kX,pM]⟩
   case fh id=>simp[xRd]at d
theorem acW{h C:AH}{k:XK}{A:List AV}{v:AV}{x:Nat}(t:xRd k A=some x)(c:kX h k A=some (v,C)):
  C=h/\(∃ob,h.H.get x=some ob)/\∀h2:AH,h2.H.get x=h.H.get x->kX h2 k A=some (v,h2):=by
 have hm:∀h2:AH,h2.H.get x=h.H.get x->h2.mV x=h.mV x:=λh2 he=>by unfold AH.mV;rw[he]
 have hs:∀p,h.mV x=some p->∃ob,h.H.get x=some ob:=λp u=>by
  unfold AH.mV at u;split at u
  ·rename_i i;exact⟨_,i⟩
  cases u
 unfold xRd at t;split at t
 ·rename_i k ok zero id r;cases t;match r,c with
  |[],c=>simp[kX]at c
  |key::y::r,c=>simp[kX]at c
  |[key],c=>
   simp only[kX,pM]at c ⊢;split at c
   ·rename_i u;cases j:h.mV x with
    |none=>simp[j]at c
    |some p=>
     simp only[j]at c;refine⟨?_,hs _ j,λh2 he=>?_⟩
     ·split at c<;>cases c<;>rfl
     rw[Z u,hm h2 he,j];simp only;split at c
     ·rename_i B;cases c;simp only[B]
     ·rename_i B;cases c;simp only[B]
     cases c
   cases c
 ·rename_i id r;cases t;match r,c with
  |y::r,c=>simp[kX]at c
  |[],c=>
   simp only[kX,pM]at c ⊢;cases j:h.mV x with
   |none=>simp[j]at c
   |some p=>
    simp only[j]at c;cases c;exact⟨rfl,hs _ j,λh2 he=>by rw[hm h2 he,j]⟩
 ·rename_i id off len z r;cases t;match r,c with
  |y::r,c=>simp[kX]at c
  |[],c=>
   have key:∀g:AH,g.H.get x=h.H.get x->cU g 1 (.rsl x off len z)=cU h 1 (.rsl x off len z):=λg he=>by
    have:g.E x=h.E x:=by unfold AH.E;rw[he]
    simp only[cU,this]
   have q:∀cs,cU h 1 (.rsl x off len z)=some cs->∃ob,h.H.get x=some ob:=λcs e=>by
    simp only[cU]at e;split at e
    ·split at e
     ·rename_i c2 d;unfold AH.E at d;split at d
      ·rename_i i;exact⟨_,i⟩
      all_goals first|(rename_i i;exact⟨_,i⟩)|(cases d)
     cases e
    cases e
   simp only[kX]at c ⊢;cases f:cU h 1 (.rsl x off len z)with
   |none=>rw[f]at c;cases c
   |some cs=>
    rw[f]at c;simp only[cj]at c ⊢;cases l:mK cs with
    |none=>simp only[l]at c;cases c
    |some s=>simp only[l]at c;cases c;exact⟨rfl,q _ f,λg he=>by rw[key g he,f];simp only[l]⟩
 ·rename_i id off len z r;cases t;match r,c with
  |y::r,c=>simp[kX]at c
  |[],c=>
   have key:∀g:AH,g.H.get x=h.H.get x->cU g 1 (.rsl x off len z)=cU h 1 (.rsl x off len z):=λg he=>by
    have:g.E x=h.E x:=by unfold AH.E;rw[he]
    simp only[cU,this]
   have q:∀cs,cU h 1 (.rsl x off len z)=some cs->∃ob,h.H.get x=some ob:=λcs e=>by
    simp only[cU]at e;split at e
    ·split at e
     ·rename_i c2 d;unfold AH.E at d;split at d
      ·rename_i i;exact⟨_,i⟩
      all_goals first|(rename_i i;exact⟨_,i⟩)|(cases d)
     cases e
    cases e
   simp only[kX]at c ⊢;cases f:cU h 1 (.rsl x off len z)with
   |none=>rw[f]at c;cases c
   |some cs=>
    rw[f]at c;simp only[cj]at c ⊢;cases l:nd cs with
    |some s=>simp only[l]at c;cases c;exact⟨rfl,q _ f,λg he=>by rw[key g he,f];simp only[l]⟩
    |none=>
     cases hi:mY cs with
     |none=>simp only[l,hi]at c;cases c
     |some J=>simp only[l,hi]at c;cases c;exact⟨rfl,q _ f,λg he=>by rw[key g he,f];simp only[l,hi]⟩
 cases t
theorem aaG{A:iM}{T:Tm}{h B:AH}{p:AOp}{v:AV}(r:aA p=false)(u:aE p=false)(g:aRd T p=none)(d:aop A T h p=some (v,B)):B=h/\∀h2,aop A T h2 p=some (v,h2):=by
 cases p<;>simp only[aA,aE]at r u<;>(try(cases r;done))<;>(try(cases u;done))<;>simp only[aop,nq,mb,pJ,cL,l9,o8,jw,gh,kSt,k_,aG,oK,lx,nu,kUn,lg,tu,gZ,aC,gv,tJ,jl,kSl,iD,bn,mO,uF,sX,fy,od,jk,ml,tD,kz,sN,<-dw]at d ⊢;case xo k as=>exact ac1 r u g d
 case ld1 x=>
  simp only[aRd]at g;cases f:x.ev T<;>rw[f]at d g<;>simp only[lh]at d ⊢ <;> (try(cases d;done))<;>(try(cases g;done));split at d
  ·rename_i e;cases d;exact⟨rfl,λh2=>by first|rfl|rw[e]⟩
  cases d
 case ldn n x=>
  simp only[aRd]at g;cases f:x.ev T<;>rw[f]at d g<;>simp only[iP]at d ⊢ <;> (try(cases d;done))<;>(try(cases g;done));split at d
  ·rename_i e;cases d;exact⟨rfl,λh2=>by first|rfl|rw[e]⟩
  cases d
 case pick c x y=>
  split at d
  ·rename_i t C;cases d;exact⟨rfl,λh2=>by first|rfl|simp only[C]⟩
  cases d
 case yJ x=>
  split at d<;>first|(cases d;done)|(rename_i f;cases d;exact⟨rfl,λh2=>by first|rfl|simp only[f]⟩)
 case eqs neg x y=>
  split at d
  ·rename_i f q;cases d;exact⟨rfl,λh2=>by first|rfl|simp only[f,q]⟩
  cases d
 case eqf neg H x y=>
  split at d
  ·rename_i xs ys f q;cases e:bo H xs ys with
   |none=>simp[e]at d
   |some b=>simp only[e]at d;cases d;exact⟨rfl,λh2=>by first|rfl|simp only[f,q,e]⟩
  cases d
 case zk k x=>
  split at d
  ·rename_i f;cases d;exact⟨rfl,λh2=>by first|rfl|simp only[f]⟩
  cases d
 case fld off n x=>
  split at d
  ·rename_i cs f;cases e:y3 n cs off with
   |none=>simp[e]at d
   |some b=>simp only[e]at d;cases d;exact⟨rfl,λh2=>by first|rfl|simp only[f,e]⟩
  cases d
 case BK len z x i=>
  split at d
  ·rename_i j l;cases e:kC (j*z) (x.ev T)with
   |none=>simp[e]at d
   |some b=>simp only[e]at d;cases d;exact⟨rfl,λh2=>by first|rfl|simp only[l,e]⟩
  cases d
 case idx len z n x i=>
  split at d
  ·rename_i j cs l f;cases e:y3 n cs (j*z)with
   |none=>simp[e]at d
   |some b=>simp only[e]at d;cases d;exact⟨rfl,λh2=>by first|rfl|simp only[l,f,e]⟩
  cases d
 case zH x i=>
  split at d
  ·rename_i s f;cases l:aix s.length (i.ev T)with
   |none=>simp[l]at d
   |some j=>
    simp only[l]at d;cases e:s[j]? with
    |none=>simp[e]at d
    |some c=>simp only[e]at d;cases d;exact⟨rfl,λh2=>by first|rfl|simp only[f,l,e]⟩
  cases d
 case slS x lo hi=>
  split at d
  ·rename_i s f;cases e:qh s (lo.map (·.ev T)) (hi.map (·.ev T))with
   |none=>simp[e]at d
   |some b=>simp only[e]at d;cases d;exact⟨rfl,λh2=>by first|rfl|simp only[f,e]⟩
  cases d
 case zF x=>
  split at d
  ·rename_i f;cases d;exact⟨rfl,λh2=>by first|rfl|simp only[f]⟩
  cases d
 case I1 x=>
  split at d
  ·rename_i f;cases d;exact⟨rfl,λh2=>by first|rfl|simp only[f]⟩
  cases d
 case vz N x y=>
  split at d
  ·rename_i f q;cases d;exact⟨rfl,λh2=>by first|rfl|simp only[f,q]⟩
  rename_i M;split at d
  ·rename_i J;cases d;exact⟨rfl,λh2=>by first|rfl|simp only[J]⟩
  cases d
 case ext x i=>
  split at d
  ·rename_i K f;cases e:K[i]? with
   |none=>simp[e]at d
   |some b=>simp only[e]at d;cases d;exact⟨rfl,λh2=>by first|rfl|simp only[f,e]⟩
  cases d
 all_goals first
  |(cases d;done)
  |(cases d;exact⟨rfl,λ_=>rfl⟩)
  |(split at d
    ·rename_i e;cases d;exact⟨rfl,λh2=>by first|rfl|simp only[e]⟩
    cases d)
theorem aaK{j:iM}{T:Tm}{h l:AH}{f:AOp}{v:AV}{x:Nat}(d:aRd T f=some x)(c:aop j T h f=some (v,l)):
  l=h/\(∃ob,h.H.get x=some ob)/\∀h2:AH,h2.H.get x=h.H.get x->aop j T h2 f=some (v,h2):=by
 cases f<;>simp only[aRd]at d<;>(try(cases d;done))<;>simp only[aop,nq,mb,pJ,cL,l9,o8,jw,gh,kSt,k_,aG,oK,lx,nu,kUn,lg,tu,gZ,aC,gv,tJ,jl,kSl,iD,bn,mO,uF,sX,fy,od,jk,ml,tD,kz,sN,<-dw]at c ⊢;case xo k as=>exact acW d c
 case ld1 a=>
  cases g:a.ev T<;>rw[g]at c d<;>simp only at d<;>(try(cases d;done));all_goals (
   rename_i id off;cases d;simp only[lh,AH.E,AH.n_]at c ⊢;cases e:h.H.get x with
   |none=>simp[e]at c
   |some ob=>
    refine⟨?_,⟨ob,rfl⟩,λh2 he=>?_⟩
    ·split at c
     ·cases c;rfl
     cases c
    rw[he];rw[e]at c;split at c
    ·rename_i i;cases c;first|rfl|rw[i]
    cases c)
 case ldn n a=>
  cases g:a.ev T<;>rw[g]at c d<;>simp only at d<;>(try(cases d;done));all_goals (
   rename_i id off;cases d;simp only[iP,AH.E,AH.n_]at c ⊢;cases e:h.H.get x with
   |none=>simp[e]at c
   |some ob=>
    refine⟨?_,⟨ob,rfl⟩,λh2 he=>?_⟩
    ·split at c
     ·cases c;rfl
     cases c
    rw[he];rw[e]at c;split at c
    ·rename_i i;cases c;first|rfl|rw[i]
    cases c)
def oj(T:Tm):List Nat->Tm
 |[]=>.leaf
 |t::l=>match T.get t with
  |some v=>(oj T l).put t v
  |none=>oj T l
theorem Ag(T:Tm):∀(l:List Nat) (t:Nat),(oj T l).get t=if t∈l then T.get t else none
 |[],t=>by simp[oj,Tm.K5]
 |x::l,t=>by
  unfold oj;split
  ·rename_i v c;rw[Tm.lT];by_cases h:t=x
   ·subst h;simp[c]
   simp[h,Ag T l t]
  rename_i c;rw[Ag T l t];by_cases h:t=x
  ·subst h;simp[c]
  simp[h]
inductive DSp(cl:iM)(o:aq)(r:Nat)(T:Tm)(h:AH):bZ->Prop where
 |skip (hg:gd T o.guard=some false):DSp cl o r T h ⟨T,h,la,.pure⟩
 |alloc (hg:gd T o.guard=some true) (cs:bg) (mk:Nat->AV) (ha:fZ T o.op=some (cs,mk)):DSp cl o r T h ⟨T,h,mk r,.alloc r cs⟩
 |eff (hg:gd T o.guard=some true) (v:AV) (h':AH) (ha:aop cl T h o.op=some (v,h')) (hup:h.nx<=h'.nx):DSp cl o r T h ⟨T,h,v,.eff h h'⟩
 |read (hg:gd T o.guard=some true) (v:AV) (h':AH) (x:Nat) (ha:aop cl T h o.op=some (v,h')) (hr:aRd T o.op=some x):DSp cl o r T h ⟨T,h,v,.read x⟩
 |pure (hg:gd T o.guard=some true) (v:AV) (h':AH) (ha:aop cl T h o.op=some (v,h')) (hA:aA o.op=false) (hE:aE o.op=false) (hr:aRd T o.op=none):DSp cl o r T h ⟨T,h,v,.pure⟩
theorem aaE{j:iM}{o:aq}{r:Nat}{T:Tm}{h:AH}{s:bZ}(c:oc j o r T h=some s):DSp j o r T h s:=by
 unfold oc at c;split at c
 ·rename_i d;cases c;exact .skip d
 ·rename_i d;split at c
  ·split at c
   ·rename_i cs mk e;cases c;exact .alloc d cs mk e
   cases c
  rename_i k;split at c
  ·rename_i v f e;split at c
   ·split at c
    ·rename_i i;cases c;exact .eff d v f e (zU i)
    cases c
   rename_i l;split at c
   ·rename_i x g;cases c;exact .read d v f x e g
   rename_i g;cases c;exact .pure d v f e (by simpa using k) (by simpa using l) g
  cases c
 cases c
structure fP(P:Program)(nt:Nat)(ops:Array Oper)(π:Nat->Nat)(n r0:Nat)(o:Nat->aq)(s:Nat->bZ)(b:Nat->Nat)(Ts:Nat->Tm)(Hs:Nat->AH):Prop where
 cop:∀i,i<n->∃oo,ops[π i]?=some oo/\pS P nt ops oo=some (o i)
 step:∀i,i<n->∃cl,HOk P cl/\DSp cl (o i) (r0+i) (Ts i) (Hs i) (s i)
 Tn:∀i,i<n->Ts (i+1)=jX (Ts i) (o i).dst (s i).v
 Hn:∀i,i<n->Hs (i+1)=(s i).h'
 pair:∀i j,i<j->j<n->Nat.testBit (b j) i=true\/(mQ (o i) (o j)=true/\bT (s i).k (s j).k=true)
 nx0:r0+n<=(Hs 0).nx
 ag_:∀id,r0<=id->(Hs 0).H.get id=none
structure DL(P:Program)(nt:Nat)(ops:Array Oper)(L:List (aq×Nat))(π:Nat->Nat):Prop where
 len:L.length=ops.size
 lt:∀i,i<ops.size->π i<ops.size
 out:∀i,ops.size<=i->π i=i
 inj:∀i j,i<ops.size->j<ops.size->π i=π j->i=j
 sur:∀j,j<ops.size->∃i,i<ops.size/\π i=j
 cop:∀i x,L[i]?=some x->∃oo,ops[π i]?=some oo/\pS P nt ops oo=some x.1
 bef:∀i x,L[i]?=some x->∀oo,ops[π i]?=some oo->∀j,Nat.testBit x.2 j=true->∃e∈oo.after,Region.binds .any e=true/\(e.on=π j\/∃k y,L[k]?=some y/\π k=e.on/\Nat.testBit y.2 j=true)
 Jg:∀i oo,ops[π i]?=some oo->∀e∈oo.after,Region.binds .any e=true->∃k,k<i/\e.on=π k
mutual
theorem AV.beq_eq:∀(a b:AV),AV.beq a b=true->a=b
 |.undef,b,h=>by cases b<;>simp[AV.beq]at h<;>rfl
 |.bool a,b,h=>by cases b<;>simp[AV.beq]at h;subst h;rfl
 |.int k a,b,h=>by cases b<;>simp[AV.beq]at h;obtain⟨rfl,rfl⟩:=h;rfl
 |.str a,b,h=>by cases b<;>simp[AV.beq]at h;subst h;rfl
 |.agg a,b,h=>by cases b<;>simp[AV.beq]at h;rw[AV.nY _ _ h]
 |.tup a,b,h=>by cases b<;>simp[AV.beq]at h;rw[AV.nY _ _ h]
 |.ptr x y,b,h=>by cases b<;>simp[AV.beq]at h;obtain⟨rfl,rfl⟩:=h;rfl
 |.dh,b,h=>by cases b<;>simp[AV.beq]at h<;>rfl
 |.ai a,b,h=>by cases b<;>simp[AV.beq]at h;rw[AV.nY _ _ h]
 |.c_ a c,b,h=>by cases b<;>simp[AV.beq]at h;rw[h.1,h.2]
 |.D,b,h=>by cases b<;>simp[AV.beq]at h<;>rfl
 |.esl,b,h=>by cases b<;>simp[AV.beq]at h<;>rfl
 |.psl a,b,h=>by cases b<;>simp[AV.beq]at h;rw[AV.Oo _ _ h]
 |.rsl x y z u,b,h=>by cases b<;>simp[AV.beq]at h;obtain⟨⟨⟨rfl,rfl⟩,rfl⟩,rfl⟩:=h;rfl
 |.fh x,b,h=>by cases b<;>simp[AV.beq]at h;subst h;rfl
 |.fp,b,h=>by cases b<;>simp[AV.beq]at h<;>rfl
 |.func f x y,b,h=>by cases b<;>simp[AV.beq]at h;obtain⟨⟨rfl,h1⟩,h2⟩:=h;rw[AV.nY _ _ h1,AV.nY _ _ h2]
 |.fX,b,h=>by cases b<;>simp[AV.beq]at h<;>rfl
 |.bR,b,h=>by cases b<;>simp[AV.beq]at h<;>rfl
 |.iface t a,b,h=>by cases b<;>simp[AV.beq]at h;obtain⟨rfl,h1⟩:=h;rw[AV.beq_eq _ _ h1]
 |.ly k m r i j l lo hi,b,h=>by cases b<;>simp[AV.beq]at h;obtain⟨⟨⟨⟨⟨⟨⟨rfl,rfl⟩,rfl⟩,rfl⟩,rfl⟩,rfl⟩,rfl⟩,rfl⟩:=h;rfl
 |.jZ k rs,b,h=>by cases b<;>simp[AV.beq]at h;obtain⟨rfl,rfl⟩:=h;rfl
 |.sint k m i c lo hi,b,h=>by cases b<;>simp[AV.beq]at h;obtain⟨⟨⟨⟨⟨rfl,rfl⟩,rfl⟩,rfl⟩,rfl⟩,rfl⟩:=h;rfl
theorem AV.nY:∀(a b:List AV),AV.jM a b=true->a=b
 |[],b,h=>by cases b<;>simp[AV.jM]at h;rfl
 |x::a,b,h=>by cases b<;>simp[AV.jM]at h;rw[AV.beq_eq _ _ h.1,AV.nY _ _ h.2]
theorem AV.Oo:∀(a b:List (List AV)),AV.qM a b=true->a=b
 |[],b,h=>by cases b<;>simp[AV.qM]at h;rfl
 |x::a,b,h=>by cases b<;>simp[AV.qM]at h;rw[AV.nY _ _ h.1,AV.Oo _ _ h.2]
end
theorem NW:∀(a b:List (AV×AV)),pC a b=true->a=b
 |[],b,h=>by cases b<;>simp[pC]at h;rfl
 |(x,y)::a,b,h=>by
  cases b with
  |nil=>simp[pC]at h
  |cons p b=>
   obtain⟨u,v⟩:=p;simp[pC]at h;rw[AV.beq_eq _ _ h.1.1,AV.beq_eq _ _ h.1.2,NW _ _ h.2]
theorem Pj{a b:Option bg}(h:pP a b=true):a=b:=by
 unfold pP at h;split at h
 ·rfl
 ·rw[AV.nY _ _ h]
 ·rw[NW _ _ h]
 ·rename_i s p t q;simp at h;obtain⟨c,rfl⟩:=h;have:s=t:=ByteArray.ext c;rw[this]
 ·simp at h;obtain⟨rfl,h2⟩:=h;rw[AV.nY _ _ h2]
 ·simp at h;obtain⟨rfl,h2⟩:=h;rw[AV.nY _ _ h2]
 cases h
section
variable {P:Program} {nt:Nat} {ds:List Deferred} {ops:Array Oper} {π:Nat->Nat} {n r0:Nat} {o:Nat->aq} {s:Nat->bZ} {b:Nat->Nat} {Ts:Nat->Tm} {Hs:Nat->AH}
def gJ(s:Nat->bZ)(i:Nat):Prop:=∃V C,(s i).k =.eff V C
def dt(s:Nat->bZ)(i:Nat):Prop:=∃r cs,(s i).k =.alloc r cs
theorem fP.ah_(c:fP P nt ops π n r0 o s b Ts Hs){i:Nat}(d:i<n){V C:AH}(e:(s i).k =.eff V C):V=Hs i/\C=Hs (i+1):=by
 have f:=c.Hn i d;obtain⟨cl,_,h2⟩:=c.step i d;generalize s i=t at*;cases h2<;>simp only at e<;>cases e;exact⟨rfl,by rw[f];rfl⟩
theorem fP.als(c:fP P nt ops π n r0 o s b Ts Hs){i:Nat}(d:i<n){r:Nat}{e:bg}(f:(s i).k =.alloc r e):r=r0+i/\Hs (i+1)=⟨(Hs i).H.put (r0+i) e,(Hs i).nx⟩:=by
 have g:=c.Hn i d;obtain⟨cl,_,h2⟩:=c.step i d;generalize s i=t at*;cases h2<;>simp only at f<;>cases f;exact⟨rfl,by rw[g];rfl⟩
theorem fP.stays(c:fP P nt ops π n r0 o s b Ts Hs){i:Nat}(e:i<n)(f:¬gJ s i)(h2:¬dt s i):Hs (i+1)=Hs i:=by
 have d:=c.Hn i e;obtain⟨cl,_,g⟩:=c.step i e;unfold gJ at f;unfold dt at h2;generalize s i=t at*;cases g
 ·rw[d];rfl
 ·exact absurd ⟨_,_,rfl⟩ h2
 ·exact absurd ⟨_,_,rfl⟩ f
 ·rw[d];rfl
 rw[d];rfl
def TSp(o:Nat->aq)(s:Nat->bZ)(c:Tm)(n:Nat)(L:Nat->Prop)(t:Nat)(u:AV):Prop:=
 (∃i,i<n/\L i/\(o i).dst=some t/\u=(s i).v/\∀i',i'<n->L i'->(o i').dst=some t->i'<=i)\/((∀i,i<n->L i->(o i).dst≠some t)/\c.get t=some u)
theorem fP.text(c:fP P nt ops π n r0 o s b Ts Hs):∀(i:Nat),i<=n->∀t u,(Ts i).get t=some u->TSp o s (Ts 0) n (· < i) t u:=by
 intro i;induction i with
 |zero=>intro _ t u h;exact .inr ⟨λi _ h=>by simp at h,h⟩
 |succ i v=>
  intro hi t u h;rw[c.Tn i (by omega)]at h;cases g:(o i).dst with
  |none=>
   rw[g]at h;simp only[jX]at h;rcases v (by omega) t u h with⟨k,j,h2,p,q,r⟩|⟨j,h2⟩
   ·refine .inl ⟨k,j,by simp only at h2 ⊢; omega,p,q,λe f a2 a3=>?_⟩;by_cases he:e=i
    ·subst he;rw[g]at a3;cases a3
    exact r e f (by simp only at a2 ⊢; omega) a3
   refine .inr ⟨λe f a2 a3=>?_,h2⟩;by_cases he:e=i
   ·subst he;rw[g]at a3;cases a3
   exact j e f (by simp only at a2 ⊢; omega) a3
  |some d=>
   rw[g]at h;simp only[jX]at h;by_cases l:t=d
   ·subst l;rw[Tm.kN]at h;cases h;exact .inl ⟨i,by omega,by simp only;omega,g,rfl,λe f a2 a3=>by simp only at a2;omega⟩
   rw[Tm.jb _ _ l]at h;rcases v (by omega) t u h with⟨k,j,h2,p,q,r⟩|⟨j,h2⟩
   ·refine .inl ⟨k,j,by simp only at h2 ⊢; omega,p,q,λe f a2 a3=>?_⟩;by_cases he:e=i
    ·subst he;rw[g]at a3;cases a3;exact absurd rfl l
    exact r e f (by simp only at a2 ⊢; omega) a3
   refine .inr ⟨λe f a2 a3=>?_,h2⟩;by_cases he:e=i
   ·subst he;rw[g]at a3;cases a3;exact absurd rfl l
   exact j e f (by simp only at a2 ⊢; omega) a3
structure Inv(own:Nat->Prop)(β0:Bl)(w0:World)(nt:Nat)(ds:List Deferred)(n r0:Nat)(o:Nat->aq)(s:Nat->bZ)(b:Nat->Nat)(Ts:Nat->Tm)(Hs:Nat->AH)(L:Nat->Prop)(β:Bl)(G:HF)(m:Nat)(a:Act)(w:World):Prop where
 sim:qY own β G (Hs m).nx w
 sz:a.tmps.size=nt
 df:a.defers=ds
 closed:∀i,i<n->L i->∀j,Nat.testBit (b i) j=true->L j
 mle:m<=n
 cut:m=0\/∃e,m=e+1/\L e/\gJ s e
 rj:∀e,e<n->gJ s e->L e->e<m
 g1:∀x,(x<r0+m\/r0+n<=x)->G x=(Hs m).H.get x
 g2:∀j,m<=j->j<n->L j->∀r cs,(s j).k =.alloc r cs->G (r0+j)=some cs
 g3:∀j,m<=j->j<n->(¬L j\/¬dt s j)->G (r0+j)=none
 m0:∀j,m<=j->j<n->(Hs m).H.get (r0+j)=none
 pT:∀j,j<n->(¬L j\/¬dt s j)->β (r0+j)=none
 low:∀id,id<r0->β id=β0 id
 tm:∀t u,TSp o s (Ts 0) n L t u->VR w.heap (LF own β G) β u (a.tmps.getD t Go.undef)
 trans:lZ β0 (λx=>(Hs 0).H.get x) w0 β G w
section
variable {own:Nat->Prop} {β0:Bl} {w0:World} {L:Nat->Prop} {β:Bl} {G:HF} {m:Nat} {a:Act} {w:World}
theorem fP.nxm(c:fP P nt ops π n r0 o s b Ts Hs)(d:∀i,i<n->(Hs i).nx<=(Hs (i+1)).nx):∀i,i<=n->r0+n<=(Hs i).nx
 |0,_=>c.nx0
 |i+1,h=>bf (c.nxm d i (by omega)) (d i (by omega))
theorem Inv.ahead(c:fP P nt ops π n r0 o s b Ts Hs)(v:Inv own β0 w0 nt ds n r0 o s b Ts Hs L β G m a w){k:Nat}(q:k<m)(h:gJ s k\/dt s k):L k:=by
 rcases v.cut with rfl|⟨e,rfl,he,l⟩
 ·omega
 by_cases g:k=e
 ·subst g;exact he
 have d:e<n:=by have:=v.mle;omega
 rcases c.pair k e (by omega) d with p|⟨_,f⟩
 ·exact v.closed e d he k p
 obtain⟨V,C,hV⟩:=l;rcases h with⟨V',C',i⟩|⟨r,cs,j⟩
 ·rw[hV,i]at f;simp[bT]at f
 rw[hV,j]at f;simp[bT]at f
theorem Inv.ab1(c:fP P nt ops π n r0 o s b Ts Hs)(v:Inv own β0 w0 nt ds n r0 o s b Ts Hs L β G m a w){i x:Nat}(hi:i<n)(hL:¬L i)(hP:∀j,Nat.testBit (b i) j=true->L j)(M:(s i).k =.read x){U:bg}(B:(Hs i).H.get x=some U):G x=some U:=by
 have W:¬gJ s i:=by rintro⟨V,C,h⟩;rw[M]at h;cases h
 have ad:¬dt s i:=by rintro⟨V,C,h⟩;rw[M]at h;cases h
 have e:∀k,k<n->(k<i->m<=k)->(i<=k->k<m)->x≠r0+k\/¬dt s k->(Hs (k+1)).H.get x=(Hs k).H.get x:=by
  intro k g h1 h2 N;by_cases hE:gJ s k
  ·obtain⟨V,C,hV⟩:=hE;obtain⟨rfl,rfl⟩:=c.ah_ g hV;rcases Nat.lt_trichotomy k i with R|heq|af
   ·have aj:¬L k:=λh=>by have:=v.rj k g ⟨_,_,hV⟩ h;have:=h1 R;omega
    rcases c.pair k i R hi with z|⟨_,d⟩
    ·exact absurd (hP k z) aj
    rw[hV,M]at d;simp only[bT]at d;exact(Pj d).symm
   ·subst heq;exact absurd ⟨_,_,hV⟩ W
   rcases c.pair i k af g with z|⟨_,d⟩
   ·exact absurd (v.closed k g (v.ahead c (h2 (by omega)) (.inl ⟨_,_,hV⟩)) i z) hL
   rw[hV,M]at d;simp only[bT]at d;exact(Pj d).symm
  by_cases l:dt s k
  ·obtain⟨r,cs,d⟩:=l;rw[(c.als g d).2,PM.jb];exact N.resolve_right (λh=>h ⟨r,cs,d⟩)
  rw[c.stays g hE l]
 rcases nF i m with aS|al
 ·have f:∀k,i<=k->k<=m->(Hs k).H.get x=some U:=by
   intro k p;induction p with
   |refl=>intro _;exact B
   | @step k p Q=>
    intro an;have u:k<m:=an;rw[e k (by have:=v.mle;omega) (λh=>by have:i<=k:=p;omega) (λ_=>u) ?_]
    ·exact Q (by omega)
    by_cases l:dt s k
    ·left;have aw:i<=k:=p;have aT:i≠k:=λh=>by subst h;exact ad l
     rcases c.pair i k (by omega) (by have:=v.mle;omega)with z|⟨_,d⟩
     ·exact absurd (v.closed k (by have:=v.mle;omega) (v.ahead c u (.inr l)) i z) hL
     obtain⟨r,cs,S⟩:=l;rw[M,S]at d;simp only[bT]at d;rw[(c.als (by have:=v.mle;omega) S).1]at d;intro he;subst he;simp at d
    exact .inr l
  have hm:=f m (by omega) (ay _);rw[v.g1 x ?_,hm];by_cases N:r0+m<=x/\x<r0+n
  ·have:=v.m0 (x-r0) (by omega) (by omega);rw[show r0+(x-r0)=x by omega,hm]at this;cases this
  omega
 by_cases N:∃k,m<=k/\k<i/\x=r0+k/\dt s k
 ·obtain⟨k,ao,ar,rfl,l⟩:=N;obtain⟨r,cs,d⟩:=l;have av:L k:=by
   rcases c.pair k i ar hi with z|⟨_,t⟩
   ·exact hP k z
   rw[d,M]at t;simp only[bT]at t;rw[(c.als (by omega) d).1]at t;simp at t
  have f:∀q,k+1<=q->q<=i->(Hs q).H.get (r0+k)=some cs:=by
   intro q A;induction A with
   |refl=>intro _;rw[(c.als (by omega) d).2,PM.kN]
   | @step q A Q=>
    intro J;have K:k+1<=q:=A;have y:q<i:=J;rw[e q (by omega) (λ_=>by omega) (λh=>by omega) (.inl (by omega))];exact Q (by omega)
  have:=f i (by omega) (ay _);rw[B]at this;rw[this];exact v.g2 k ao (by omega) av r cs d
 have f:∀q,m<=q->q<=i->(Hs q).H.get x=(Hs m).H.get x:=by
  intro q A;induction A with
  |refl=>intro _;rfl
  | @step q A Q=>
   intro J;have K:m<=q:=A;have y:q<i:=J;rw[e q (by omega) (λ_=>K) (λh=>by omega) ?_,Q (by omega)];by_cases l:dt s q
   ·left;intro he;exact N ⟨q,K,y,he,l⟩
   exact .inr l
 have hm:=f i al (ay _);rw[B]at hm;rw[v.g1 x ?_,<-hm];by_cases a1:r0+m<=x/\x<r0+n
 ·have:=v.m0 (x-r0) (by omega) (by omega);rw[show r0+(x-r0)=x by omega,<-hm]at this;cases this
 omega
theorem Inv.af7(c:fP P nt ops π n r0 o s b Ts Hs)(v:Inv own β0 w0 nt ds n r0 o s b Ts Hs L β G m a w){i:Nat}(hi:i<n)(hL:¬L i)(hP:∀j,Nat.testBit (b i) j=true->L j)(Q:gJ s i):
  m<=i/\(Hs i).nx=(Hs m).nx/\(∀x ob,(Hs i).H.get x=some ob->G x=some ob)/\(∀x,(x<r0+(i+1)\/r0+n<=x)->(Hs i).H.get x=none->G x=none)/\(∀j,i<j->j<n->(Hs i).H.get (r0+j)=none):=by
 have B:m<=i:=by
  rcases nF i m with h|h
  ·exact absurd (v.ahead c h (.inl Q)) hL
  exact h
 have ad:∀k,m<=k->k<i->¬gJ s k:=by
  intro k e h2 A;rcases c.pair k i h2 hi with U|⟨_,f⟩
  ·have:=v.rj k (by omega) A (hP k U);omega
  obtain⟨V,C,hV⟩:=Q;obtain⟨V',C',af⟩:=A;rw[hV,af]at f;simp[bT]at f
 have aj:∀k,m<=k->k<i->dt s k->L k:=by
  intro k e h2 A;rcases c.pair k i h2 hi with U|⟨_,f⟩
  ·exact hP k U
  obtain⟨V,C,hV⟩:=Q;obtain⟨r,cs,d⟩:=A;rw[hV,d]at f;simp[bT]at f
 have M:∀q,m<=q->q<=i->(Hs q).nx=(Hs m).nx/\(∀x,(∀k,m<=k->k<q->dt s k->x≠r0+k)->(Hs q).H.get x=(Hs m).H.get x)/\(∀k,m<=k->k<q->∀r cs,(s k).k =.alloc r cs->(Hs q).H.get (r0+k)=some cs):=by
  intro q W;induction W with
  |refl=>intro _;exact⟨rfl,λ_ _=>rfl,λk e h2=>by omega⟩
  | @step q W ih=>
   intro al;have J:m<=q:=W;have N:q<i:=al;obtain⟨R,a2,a3⟩:=ih (by omega);by_cases g:dt s q
   ·obtain⟨r,cs,f⟩:=g;have z:=(c.als (by omega) f).2;refine⟨by rw[z];exact R,λx t=>?_,λk e h2 S u d=>?_⟩
    ·rw[z,PM.jb _ _ (t q J (by omega) ⟨r,cs,f⟩)];exact a2 x (λk e h2=>t k e (by omega))
    by_cases y:k=q
    ·subst y;rw[f]at d;cases d;rw[z,PM.kN]
    rw[z,PM.jb _ _ (by omega)];exact a3 k e (by omega) S u d
   have z:=c.stays (i:=q) (by omega) (ad q J N) g;rw[z];refine⟨R,λx t=>a2 x (λk e h2=>t k e (by omega)),λk e h2 S u d=>?_⟩;by_cases y:k=q
   ·subst y;exact absurd ⟨S,u,d⟩ g
   exact a3 k e (by omega) S u d
 obtain⟨R,a2,a3⟩:=M i B (ay _);have res:∀x,(∀k,m<=k->k<i->dt s k->x≠r0+k)->r0+m<=x->x<r0+n->(Hs i).H.get x=none:=by
  intro x t e h2;rw[a2 x t];have:=v.m0 (x-r0) (by omega) (by omega);rwa [show r0+(x-r0)=x by omega]at this
 refine⟨B,R,λx ob l=>?_,λx t hn=>?_,λj e h2=>res _ (λk _ A _=>by omega) (by omega) (by omega)⟩
 ·by_cases t:∃k,m<=k/\k<i/\dt s k/\x=r0+k
  ·obtain⟨k,e,h2,g,rfl⟩:=t;obtain⟨r,cs,f⟩:=g;rw[a3 k e h2 r cs f]at l;rw[v.g2 k e (by omega) (aj k e h2 ⟨r,cs,f⟩) r cs f,l]
  have p:∀k,m<=k->k<i->dt s k->x≠r0+k:=λk e h2 h3 he=>t ⟨k,e,h2,h3,he⟩
  by_cases f:r0+m<=x/\x<r0+n
  ·rw[res x p f.1 f.2]at l;cases l
  rw[v.g1 x (by omega),<-a2 x p,l]
 by_cases K:∃k,m<=k/\k<i/\dt s k/\x=r0+k
 ·obtain⟨k,e,h2,g,rfl⟩:=K;obtain⟨r,cs,f⟩:=g;rw[a3 k e h2 r cs f]at hn;cases hn
 have p:∀k,m<=k->k<i->dt s k->x≠r0+k:=λk e h2 h3 he=>K ⟨k,e,h2,h3,he⟩
 by_cases f:r0+m<=x/\x<r0+n
 ·have:=v.g3 (x-r0) (by omega) (by omega) (.inr (λg=>by
   by_cases an:x-r0=i
   ·rw[an]at g;obtain⟨V,C,hV⟩:=Q;obtain⟨r,cs,d⟩:=g;rw[hV]at d;cases d
   exact p (x-r0) (by omega) (by omega) g (by omega)))
  rwa [show r0+(x-r0)=x by omega]at this
 rw[v.g1 x (by omega),<-a2 x p,hn]
theorem Inv.look(c:fP P nt ops π n r0 o s b Ts Hs)(v:Inv own β0 w0 nt ds n r0 o s b Ts Hs L β G m a w){i:Nat}(y:i<n)(q:¬L i)(z:∀j,Nat.testBit (b i) j=true->L j){t:Nat}(r:t∈(o i).gL){u:AV}(A:(Ts i).get t=some u):VR w.heap (LF own β G) β u (a.tmps.getD t Go.undef):=by
 refine v.tm t u ?_;have later:∀d,d<n->L d->(o d).dst=some t->d<i:=by
  intro d f a2 a3;rcases Nat.lt_trichotomy d i with h|h|h
  ·exact h
  ·subst h;exact absurd a2 q
  rcases c.pair i d h f with g|⟨e,_⟩
  ·exact absurd (v.closed d f a2 i g) q
  simp only[mQ,x9,a3,aI,j7]at e;have:=e.1.2;rw[KS.2 r]at this;cases this
 rcases c.text i (by omega) t u A with⟨k,l,h2,x,B,C⟩|⟨l,h2⟩
 ·have h2:k<i:=h2;have p:L k:=by
   rcases c.pair k i h2 y with g|⟨e,_⟩
   ·exact z k g
   simp only[mQ,x9,x,aI,j7]at e;have:=e.1.1;rw[KS.2 r]at this;cases this
  exact .inl ⟨k,l,p,x,B,λd f a2 a3=>C d f (later d f a2 a3) a3⟩
 exact .inr ⟨λd f a2 a3=>l d f (later d f a2 a3) a3,h2⟩
theorem Ny(c:fP P nt ops π n r0 o s b Ts Hs)(v:Inv own β0 w0 nt ds n r0 o s b Ts Hs L β G m a w){i:Nat}(A:i<n)(B:¬L i){t:Nat}{u:AV}(h:TSp o s (Ts 0) n (λj=>j=i\/L j) t u):
  ((o i).dst=some t/\u=(s i).v)\/((o i).dst≠some t/\TSp o s (Ts 0) n L t u):=by
 by_cases g:(o i).dst=some t
 ·left;refine⟨g,?_⟩;rcases h with⟨k,f,h2,p,q,r⟩|⟨f,h2⟩
  ·have H:=r i A (.inl rfl) g;by_cases d:k=i
   ·subst d;exact q
   have z:=h2.resolve_left d;rcases c.pair i k (by omega) f with C|⟨l,_⟩
   ·exact absurd (v.closed k f z i C) B
   simp only[mQ,g,p,aI,j7]at l;have:=l.2;simp at this
  exact absurd g (f i A (.inl rfl))
 right;refine⟨g,?_⟩;rcases h with⟨k,f,h2,p,q,r⟩|⟨f,h2⟩
 ·have d:k≠i:=λe=>by subst e;exact g p
  exact .inl ⟨k,f,h2.resolve_left d,p,q,λx y a2 a3=>r x y (.inr a2) a3⟩
 exact .inr ⟨λx y a2 a3=>f x y (.inr a2) a3,h2⟩
end
end
theorem aaW{T T':Tm}{o:aq}(h:∀t∈o.gL,T'.get t=T.get t):gd T' o.guard=gd T o.guard:=by
 unfold aq.gL at h;cases c:o.guard with
 |none=>rfl
 |some p=>
  obtain⟨t,b⟩:=p;rw[c]at h;simp only[gd];rw[h t (by simp)]
theorem BC{o:aq}{t:Nat}(h:t∈o.op.gL):t∈o.gL:=by
 unfold aq.gL;split
 ·exact List.mem_cons_of_mem _ h
 exact h
section
variable {P:Program} {nt:Nat} {ds:List Deferred} {ops:Array Oper} {π:Nat->Nat} {n r0:Nat} {o:Nat->aq} {s:Nat->bZ} {b:Nat->Nat} {Ts:Nat->Tm} {Hs:Nat->AH}
variable {own:Nat->Prop} {β0:Bl} {w0:World} {L:Nat->Prop} {β:Bl} {G:HF} {m:Nat} {a:Act} {w:World}
theorem Inv.next(c:fP P nt ops π n r0 o s b Ts Hs)(v:Inv own β0 w0 nt ds n r0 o s b Ts Hs L β G m a w){i:Nat}(hi:i<n)(hL:¬L i)(hP:∀j,Nat.testBit (b i) j=true->L j)(hE:¬gJ s i)
  {β':Bl} {q:HF} {w':World} {W:Value} (hd:pQ nt (o i).dst=true) (hs:qY own β' q (Hs m).nx w') (ht:lZ β G w β' q w') (hv:VR w'.heap (LF own β' q) β' (s i).v W)
  (y:∀id,id<(Hs m).nx->id≠r0+i->β' id=β id) (Q:¬dt s i->β' (r0+i)=none) (ad:r0+n<=(Hs m).nx)
  (M:∀x,x≠r0+i->q x=G x) (B:¬dt s i->q (r0+i)=G (r0+i)) (C:∀r cs,(s i).k =.alloc r cs->m<=i/\q (r0+i)=some cs):
  Inv own β0 w0 nt ds n r0 o s b Ts Hs (λj=>j=i\/L j) β' q m (a.put (o i).dst W) w':=by
 have R:∀t u,TSp o s (Ts 0) n L t u->VR w'.heap (LF own β' q) β' u (a.tmps.getD t Go.undef):=λt u hu=>(v.tm t u hu).later ht.later
 refine⟨hs,?_,?_,?_,v.mle,?_,?_,?_,?_,?_,v.m0,?_,?_,?_,v.trans.trans ht⟩
 ·cases z:(o i).dst<;>simp[Act.put,v.sz]
 ·cases z:(o i).dst<;>simp[Act.put,v.df]
 ·intro j f p k hk;rcases p with rfl|p
  ·exact .inr (hP k hk)
  exact .inr (v.closed j f p k hk)
 ·rcases v.cut with h|⟨e,g,h2,h3⟩
  ·exact .inl h
  exact .inr ⟨e,g,.inr h2,h3⟩
 ·intro e he H A;rcases A with rfl|A
  ·exact absurd H hE
  exact v.rj e he H A
 ·intro x hx;by_cases J:x=r0+i
  ·subst J;by_cases hA:dt s i
   ·obtain⟨r,cs,K⟩:=hA;obtain⟨g,_⟩:=C r cs K;omega
   rw[B hA];exact v.g1 _ hx
  rw[M x J];exact v.g1 x hx
 ·intro j g h2 p r cs K;by_cases l:j=i
  ·subst l;exact(C r cs K).2
  rw[M _ (by omega)];exact v.g2 j g h2 (p.resolve_left l) r cs K
 ·intro j g h2 f;by_cases l:j=i
  ·subst l;rcases f with f|f
   ·exact absurd (.inl rfl) f
   rw[B f];exact v.g3 j g h2 (.inr f)
  rw[M _ (by omega)];exact v.g3 j g h2 (f.imp (λh N=>h (.inr N)) id)
 ·intro j g f;by_cases l:j=i
  ·subst l;rcases f with f|f
   ·exact absurd (.inl rfl) f
   exact Q f
  rw[y _ (by omega) (by omega)];exact v.pT j g (f.imp (λh N=>h (.inr N)) id)
 ·intro id hid;rw[y id (by omega) (by omega)];exact v.low id hid
 intro t u hu;rcases Ny c v hi hL hu with⟨g,rfl⟩|⟨g,h2⟩
 ·have S:t<a.tmps.size:=by
   rw[v.sz];rw[g]at hd;simpa[pQ]using hd
  rw[g];simpa[Act.put,S]using hv
 have:=R t u h2;cases z:(o i).dst with
 |none=>exact this
 |some d=>
  have U:d≠t:=λe=>by subst e;exact g z
  simpa[Act.put,vE U]using this
theorem Inv.step(c:fP P nt ops π n r0 o s b Ts Hs)(U:∀i,i<=n->r0+n<=(Hs i).nx)(v:Inv own β0 w0 nt ds n r0 o s b Ts Hs L β G m a w){i:Nat}(A:i<n)(hL:¬L i)(hP:∀j,Nat.testBit (b i) j=true->L j)
  {K:Act->World->Prop} {Q:Exit->Act->World->Prop} (hK:∀β' G' m' a' w',Inv own β0 w0 nt ds n r0 o s b Ts Hs (λj=>j=i\/L j) β' G' m' a' w'->K a' w'):wpOp P ops Q (π i) K a w:=by
 obtain⟨oo,bx,M⟩:=c.cop i A;obtain⟨q1,q2,q3⟩:=Mf M;unfold wpOp;simp only[bx];have W:∀t∈(o i).gL,(oj (Ts i) (o i).gL).get t=(Ts i).get t:=λt S=>by rw[Ag,Z S]
 have g:∀V:Hp,(∀id ob,V.get id=some ob->G id=some ob)->Sim nt ds (lS own β G V) β (oj (Ts i) (o i).gL) ⟨V,(Hs m).nx⟩ a w:=by
  intro V hV;refine⟨v.sim.split hV,v.sz,λt u hu=>?_,v.df⟩;rw[Ag]at hu;split at hu
  ·rename_i S;have:=v.look c A hL hP S hu;rw[show LL (lS own β G V) β (⟨V,(Hs m).nx⟩:AH).H=LF own β G from Z3 hV];exact this
  cases hu
 have l:∀id ob,(PM.leaf:Hp).get id=some ob->G id=some ob:=λid ob h=>by simp[PM.get]at h
 have ad:=aaW W;have af:pQ nt (o i).dst=true:=by rw[q3];exact q2
 obtain⟨cl,a7,a8⟩:=c.step i A;have quiet:∀(V:Hp),(∀id ob,V.get id=some ob->G id=some ob)->(¬gJ s i)->(¬dt s i)->∀u,(s i).v=u->aop cl (oj (Ts i) (o i).gL) ⟨V,(Hs m).nx⟩ (o i).op=some (u,⟨V,(Hs m).nx⟩)->oo.wp P a w K Q:=by
  intro V hV N hA u hu ha;refine y9 a7 (g V hV) q1 ha λcv w' β' g1 g2 g3=>?_
  obtain⟨k1,k2,k3,_⟩:=v.sim.glue hV g1 g3;have bY:Eng.glue G V V=G:=by
   funext x
   unfold Eng.glue;cases hx:V.get x with
   |some ob=>exact(hV x ob hx).symm
   |none=>rfl
  rw[bY]at k1 k2 k3;rw[<-q3];refine hK β' G m _ w' (v.next c A hL hP N af k1 k2 ?_ (λid hid _=>g3.low id hid) (λh=>?_) (U m v.mle) (λx _=>rfl) (λ_=>rfl) (λr cs B=>absurd ⟨r,cs,B⟩ hA))
  ·rw[hu];rw[show LL (lS own β G V) β' (⟨V,(Hs m).nx⟩:AH).H=LF own β' G from k3]at g2;exact g2
  rw[g3.low _ (by have:=U m v.mle;simp only;omega)];exact v.pT i A (.inr h)
 generalize f:s i=si at a8;cases a8 with
 |skip hg=>
  have hw:=rH (g .leaf l) M (ad.trans hg);rw[hw,O (by simp)];have N:¬gJ s i:=by rintro⟨V,C,h⟩;rw[f]at h;cases h
  have hA:¬dt s i:=by rintro⟨V,C,h⟩;rw[f]at h;cases h
  rw[<-q3];refine hK β G m _ w (v.next c A hL hP N af v.sim (.refl _ _ _) ?_ (λ_ _ _=>rfl) (λh=>v.pT i A (.inr h)) (U m v.mle) (λ_ _=>rfl) (λ_=>rfl) (λr cs B=>absurd ⟨r,cs,B⟩ hA));rw[f];exact .tup [] #[] rfl (λi c v hc=>by simp at hc)
 |alloc hg cs mk ha=>
  have hw:=rH (g .leaf l) M (ad.trans hg);rw[hw,Z rfl];refine .inl ?_;have N:¬gJ s i:=by rintro⟨V,C,h⟩;rw[f]at h;cases h
  have an:dt s i:=⟨_,_,by rw[f]⟩;have b0:m<=i:=by
   rcases nF i m with h|h
   ·exact absurd (v.ahead c h (.inr an)) hL
   exact h
  have ao:fZ (oj (Ts i) (o i).gL) (o i).op=some (cs,mk):=by
   rw[o! (λt S=>W t (BC S))];exact ha
  have q:=g .leaf l;obtain⟨cv,w',bk,g1,g2,_,g3⟩:=P! (P:=P) (a:=a) q.hp (λx y b2=>bJ q b2) q1 ao (r0+i) (v.pT i A (.inl hL));obtain⟨k1,k2,k3,_⟩:=v.sim.glue l g1 g3;have bp:=U m v.mle;have bs:max (Hs m).nx (r0+i+1)=(Hs m).nx:=by omega
  rw[bs]at k1;unfold Oper.wp;rw[bk];show K _ _
  rw[<-q3];have ar:∀x,x≠r0+i->Eng.glue G .leaf ((PM.leaf:Hp).put (r0+i) cs) x=G x:=by
   intro x hx;unfold Eng.glue;rw[PM.jb _ _ hx];simp[PM.get]
  have b3:Eng.glue G .leaf ((PM.leaf:Hp).put (r0+i) cs) (r0+i)=some cs:=by
   unfold Eng.glue;rw[PM.kN]
  refine hK _ _ m _ w' (v.next c A hL hP N af k1 k2 ?_ (λid _ av=>gW _ _ _ av) (λh=>absurd an h) bp ar (λh=>absurd an h) (λr cr B=>?_))
  ·rw[f];rw[k3]at g2;exact g2
  rw[f]at B;cases B;exact⟨b0,b3⟩
 |eff hg u R ha ct=>
  have N:gJ s i:=⟨_,_,by rw[f]⟩;obtain⟨e1,e2,e3,e4,e5⟩:=v.af7 c A hL hP N;have aw:Hs (i+1)=R:=by rw[c.Hn i A,f];rfl
  have q:=g (Hs i).H e3;have hw:=rH q M (ad.trans hg);rw[hw,Z rfl];refine .inl ?_;have b4:(⟨(Hs i).H,(Hs m).nx⟩:AH)=Hs i:=by rw[<-e2]
  have ao:aop cl (oj (Ts i) (o i).gL) ⟨(Hs i).H,(Hs m).nx⟩ (o i).op=some (u,R):=by
   rw[Ki (λt S=>W t (BC S)),b4];exact ha
  refine y9 a7 q q1 ao λcv w' β' g1 g2 g3=>?_
  obtain⟨k1,k2,k3,k4⟩:=v.sim.glue e3 g1 g3;have cn:=U m v.mle;have aj:∀id,id<(Hs m).nx->β' id=β id:=g3.low;have ba:∀j,i<j->j<n->R.H.get (r0+j)=none:=by
   intro j z h2;cases hq:R.H.get (r0+j)with
   |none=>rfl
   |some ob=>
    exfalso;by_cases hc:L j/\dt s j
    ·obtain⟨r,cs,B⟩:=hc.2;exact k4 (r0+j) _ ob (v.g2 j (by omega) h2 hc.1 r cs B) (e5 j z h2) hq
    obtain⟨b1,cf,bb,_⟩:=g1.obj _ _ hq;rw[aj _ (by omega),v.pT j h2 (by
     by_cases p:L j
     ·exact .inr (λhA=>hc ⟨p,hA⟩)
     exact .inl p)]at bb
    cases bb
  have a6:∀x,(x<r0+(i+1)\/r0+n<=x)->Eng.glue G (Hs i).H R.H x=R.H.get x:=by
   intro x hx;unfold Eng.glue;cases hq:R.H.get x with
   |some ob=>rfl
   |none=>
    cases b5:(Hs i).H.get x with
    |none=>exact e4 x hx b5
    |some ob=>rfl
  have J:∀j,i<j->j<n->Eng.glue G (Hs i).H R.H (r0+j)=G (r0+j):=by
   intro j z h2;unfold Eng.glue;rw[ba j z h2,e5 j z h2]
  rw[<-q3];refine hK β' (Eng.glue G (Hs i).H R.H) (i+1) _ w' ?_;have b6:∀t u,TSp o s (Ts 0) n L t u->VR w'.heap (LF own β' (Eng.glue G (Hs i).H R.H)) β' u (a.tmps.getD t Go.undef):=λt u hu=>(v.tm t u hu).later k2.later
  refine⟨by rw[aw];exact k1,?_,?_,?_,A,.inr ⟨i,rfl,.inl rfl,N⟩,?_,?_,?_,?_,?_,?_,?_,?_,v.trans.trans k2⟩
  ·cases aS:(o i).dst<;>simp[Act.put,v.sz]
  ·cases aS:(o i).dst<;>simp[Act.put,v.df]
  ·intro j hj p k hk;rcases p with rfl|p
   ·exact .inr (hP k hk)
   exact .inr (v.closed j hj p k hk)
  ·intro e he b7 aT;rcases aT with rfl|aT
   ·omega
   have:=v.rj e he b7 aT;omega
  ·intro x hx;rw[aw];exact a6 x hx
  ·intro j z h2 p r cs B;rw[J j (by omega) h2];exact v.g2 j (by omega) h2 (p.resolve_left (by omega)) r cs B
  ·intro j z h2 hj;rw[J j (by omega) h2];exact v.g3 j (by omega) h2 (hj.imp (λh hl=>h (.inr hl)) id)
  ·intro j z h2;rw[aw];exact ba j (by omega) h2
  ·intro j z hj;rw[aj _ (by omega)];by_cases ca:j=i
   ·subst ca;exact v.pT j z (.inl hL)
   exact v.pT j z (hj.imp (λh hl=>h (.inr hl)) id)
  ·intro id hid;rw[aj id (by omega)];exact v.low id hid
  intro t u' hu;rcases Ny c v A hL hu with⟨z,rfl⟩|⟨z,h2⟩
  ·have cb:t<a.tmps.size:=by
    rw[v.sz];rw[z]at af;simpa[pQ]using af
   rw[z,f];rw[k3]at g2;simpa[Act.put,cb]using g2
  have:=b6 t u' h2;cases aS:(o i).dst with
  |none=>exact this
  |some d=>
   have av:d≠t:=λe=>by subst e;exact z aS
   simpa[Act.put,vE av]using this
 |read hg u R x ha B=>
  have N:¬gJ s i:=by rintro⟨V,C,h⟩;rw[f]at h;cases h
  have hA:¬dt s i:=by rintro⟨V,C,h⟩;rw[f]at h;cases h
  obtain⟨_,⟨ob,bd⟩,al⟩:=aaK B ha;have ar:=v.ab1 c A hL hP (by rw[f]) bd;have hV:∀id a1,((PM.leaf:Hp).put x ob).get id=some a1->G id=some a1:=by
   intro id a1 h;rw[PM.lT]at h;split at h
   ·rename_i he;cases h;rw[he];exact ar
   simp[PM.get]at h
  have hw:=rH (g _ hV) M (ad.trans hg);rw[hw,Z rfl];refine .inl (quiet _ hV N hA u (by rw[f]) ?_);rw[Ki (λt S=>W t (BC S))];exact al _ (by rw[PM.kN,bd])
 |pure hg u R ha cc cd B=>
  have N:¬gJ s i:=by rintro⟨V,C,h⟩;rw[f]at h;cases h
  have hA:¬dt s i:=by rintro⟨V,C,h⟩;rw[f]at h;cases h
  obtain⟨_,al⟩:=aaG cc cd B ha;have hw:=rH (g .leaf l) M (ad.trans hg);rw[hw,Z rfl];refine .inl (quiet .leaf l N hA u (by rw[f]) ?_);rw[Ki (λt S=>W t (BC S))];exact al _
end
inductive j3(P:Program):List aq->Nat->Tm->AH->List bZ->Tm->AH->Prop where
 |nil (r:Nat) (T:Tm) (h:AH):j3 P [] r T h [] T h
 |cons {o:aq} {l:List aq} {r:Nat} {T:Tm} {h:AH} {s:bZ} {ss:List bZ} {T':Tm} {h':AH} (cl:iM) (hcl:HOk P cl) (hs:oc cl o r T h=some s) (hr:j3 P l (r+1) (jX T o.dst s.v) s.h' ss T' h'):j3 P (o::l) r T h (s::ss) T' h'
theorem Ad{P:Program}:∀(l:List aq) (r:Nat) (T:Tm) (h:AH) (e:List bZ) (T':Tm) (g:AH),j3 P l r T h e T' g->
  ∃(Ts:Nat->Tm) (Hs:Nat->AH),Ts 0=T/\Hs 0=h/\Ts l.length=T'/\Hs l.length=g/\e.length=l.length/\
   ∀i o s,l[i]?=some o->e[i]?=some s->(∃cl,HOk P cl/\DSp cl o (r+i) (Ts i) (Hs i) s)/\Ts (i+1)=jX (Ts i) o.dst s.v/\Hs (i+1)=s.h'
 |[],r,T,h,e,T',g,j=>by
  cases j;exact⟨λ_=>T,λ_=>h,rfl,rfl,rfl,rfl,rfl,λi o s q=>by simp at q⟩
 |o::l,r,T,h,e,T',g,j=>by
  cases j;rename_i s J cl k hs f;obtain⟨Ts,Hs,t,u,x,y,z,A⟩:=Ad l (r+1) _ _ _ _ _ f;have p:=aaE hs;refine⟨λi=>match i with|0=>T|i+1=>Ts i,λi=>match i with|0=>h|i+1=>Hs i,rfl,rfl,x,y,by simp[z],λi B C c d=>?_⟩;cases i with
  |zero=>
   simp at c d;subst c;subst d;exact⟨⟨cl,k,p⟩,t,u⟩
  |succ i=>
   simp at c d;obtain⟨H,a2,a3⟩:=A i B C c d;exact⟨by rw[show r+(i+1)=r+1+i by omega];exact H,a2,a3⟩
def fj(c:Array Nat)(o:Oper):Array Nat:=c.push (o.after.foldl (λs e=>if Region.binds .any e then s ||| 2^e.on ||| c.getD e.on 0 else s) 0)
theorem Ab(ops:Array Oper):Region.before ops=ops.toList.foldl fj #[]:=by
 unfold Region.before;rw[<-Array.foldl_toList];rfl
theorem zW:∀(l:List Oper) (acc:Array Nat) (k:Nat),k<acc.size->(l.foldl fj acc).getD k 0=acc.getD k 0
 |[],acc,k,h=>rfl
 |o::l,acc,k,h=>by
  simp only[mq];rw[zW l _ k (by simp[fj];omega)];simp[fj,Array.getElem?_push,Nat.ne_of_lt h]
theorem Zp:∀(l:List Oper) (acc:Array Nat),(l.foldl fj acc).size=acc.size+l.length
 |[],acc=>by simp
 |o::l,acc=>by simp only[mq];rw[Zp l];simp[fj];omega
theorem Nn(d:Array Nat)(j:Nat):∀(l:List Edge) (f:Nat),Nat.testBit (l.foldl (λs e=>if Region.binds .any e then s ||| 2^e.on ||| d.getD e.on 0 else s) f) j=true->
  Nat.testBit f j=true\/∃e∈l,Region.binds .any e=true/\(e.on=j\/Nat.testBit (d.getD e.on 0) j=true)
 |[],f,h=>.inl h
 |e::l,f,h=>by
  simp only[mq]at h;rcases Nn d j l _ h with c|⟨i,c,h2⟩
  ·split at c
   ·rename_i g;simp only[tN,iY]at c;rcases c with(c|c)|c
    ·exact .inl c
    ·refine .inr ⟨e,by simp,g,.inl ?_⟩;rw[vM]at c;simpa using c
    exact .inr ⟨e,by simp,g,.inr c⟩
   exact .inl c
  exact .inr ⟨i,by simp[c],h2⟩
theorem Zy:∀(l:List Oper) (acc:Array Nat) (i:Nat) (o:Oper),l[i]?=some o->∀j,Nat.testBit ((l.foldl fj acc).getD (acc.size+i) 0) j=true->
  ∃e∈o.after,Region.binds .any e=true/\(e.on=j\/Nat.testBit ((l.foldl fj acc).getD e.on 0) j=true)
 |[],acc,i,o,c,j,h=>by simp at c
 |o0::l,acc,i,o,c,j,h=>by
  simp only[mq]at h ⊢;cases i with
  |zero=>
   simp at c;subst c;have k:acc.size<(fj acc o0).size:=by simp[fj]
   rw[p6,zW l _ _ k]at h;have q:(fj acc o0).getD acc.size 0=o0.after.foldl (λs e=>if Region.binds .any e then s ||| 2^e.on ||| acc.getD e.on 0 else s) 0:=by simp[fj]
   rw[q,<-Array.foldl_toList]at h;rcases Nn acc j o0.after.toList 0 h with d|⟨e,d,h2,r⟩
   ·simp at d
   refine⟨e,by simpa using d,h2,r.imp id λf=>?_⟩;have p:e.on<acc.size:=by
    rcases nF e.on acc.size with g|g
    ·exact g
    rw[show acc.getD e.on 0=0 by simp[Array.getElem?_eq_none g]]at f;simp at f
   rw[zW l _ _ (by simp[fj];omega)];simpa[fj,Array.getElem?_push,Nat.ne_of_lt p]using f
  |succ i=>
   simp at c;have:=Zy l (fj acc o0) i o c j (by
    rw[show(fj acc o0).size+i=acc.size+(i+1)by simp[fj];omega];exact h)
   exact this
theorem Zj:∀(l:List Oper) (k:Nat),Aj k l=true->∀i o,l[i]?=some o->∀e∈o.after,Region.binds .any e=true->e.on<k+i
 |[],k,h,i,o,c=>by simp at c
 |o0::l,k,h,i,o,c=>by
  simp only[Aj,aI]at h;cases i with
  |zero=>
   simp at c;subst c;intro e he d;have:=Array.all_eq_true_iff_forall_mem.1 h.1 e he;simpa[d]using this
  |succ i=>
   simp at c;intro e he d;have:=Zj l (k+1) h.2 i o c e he d;omega
theorem Z4{P:Program}{nt:Nat}{ops:Array Oper}:∀(l:List Oper) (al:List aq),oh P nt ops l=some al->al.length=l.length/\∀(i:Nat) o f,l[i]?=some o->al[i]?=some f->pS P nt ops o=some f
 |[],al,h=>by simp[oh]at h;subst h;simp
 |o::l,al,h=>by
  unfold oh at h;split at h
  ·rename_i x g j h2;cases h;obtain⟨k,p⟩:=Z4 l g h2;refine⟨by simp[k],λi q e d c=>?_⟩;cases i with
   |zero=>simp at d c;subst d;subst c;exact j
   |succ i=>simp at d c;exact p i q e d c
  cases h
instance:Inhabited bZ:=⟨⟨.leaf,⟨.leaf,0⟩,.undef,.pure⟩⟩
def unl(c:Array Bool):Nat:=(c.toList.filter (! ·)).length
section
variable {P:Program} {nt:Nat} {ds:List Deferred} {own:Nat->Prop} {β:Bl} {T:Tm} {h:AH} {a:Act} {w:World}
theorem Kn{ops:Array Oper}{π:Nat->Nat}{n:Nat}{o:Nat->aq}{s:Nat->bZ}{b:Nat->Nat}{Ts:Nat->Tm}{Hs:Nat->AH}(c:fP P nt ops π n h.nx o s b Ts Hs){T':Tm}{h':AH}(e2:Hs 0=⟨h.H,h.nx+n⟩)(e3:Ts n=T')(e4:Hs n=h')
  (aj:∀i,i<=n->h.nx+n<=(Hs i).nx) {Q:Exit->Act->World->Prop} (hQ:∀β' U w',Sim nt ds own β' T' h' U w'->aX own β h w β' h' w'->Q .normal U w')
  {l:Array Bool} {β':Bl} {G:HF} {m:Nat} {U:Act} {w':World} (v:Inv own β w nt ds n h.nx o s b Ts Hs (λi=>l.getD (π i) false=true) β' G m U w') (j:∀i,i<n->l.getD (π i) false=true):Q .normal U w':=by
 have al:∀x,G x=(Hs n).H.get x:=by
  have S:∀q,m<=q->q<=n->(Hs q).nx=(Hs m).nx/\(∀x,(∀k,m<=k->k<q->dt s k->x≠h.nx+k)->(Hs q).H.get x=(Hs m).H.get x)/\(∀k,m<=k->k<q->∀r cs,(s k).k =.alloc r cs->(Hs q).H.get (h.nx+k)=some cs):=by
   intro q C;induction C with
   |refl=>intro _;exact⟨rfl,λ_ _=>rfl,λk g h2=>by omega⟩
   | @step q C ih=>
    intro K;have ad:m<=q:=C;have d:q<n:=K;obtain⟨a1,a2,a3⟩:=ih (by omega);have M:¬gJ s q:=λhE=>by have:=v.rj q d hE (j q d);omega
    by_cases B:dt s q
    ·obtain⟨r,cs,z⟩:=B;have W:=(c.als d z).2;refine⟨by rw[W];exact a1,λx J=>?_,λk g h2 r' A p=>?_⟩
     ·rw[W,PM.jb _ _ (J q ad (by omega) ⟨r,cs,z⟩)];exact a2 x (λk g h2=>J k g (by omega))
     by_cases N:k=q
     ·subst N;rw[z]at p;cases p;rw[W,PM.kN]
     rw[W,PM.jb _ _ (by omega)];exact a3 k g (by omega) r' A p
    have W:=c.stays d M B;rw[W];refine⟨a1,λx J=>a2 x (λk g h2=>J k g (by omega)),λk g h2 r' A p=>?_⟩;by_cases N:k=q
    ·subst N;exact absurd ⟨r',A,p⟩ B
    exact a3 k g (by omega) r' A p
  obtain⟨_,a2,a3⟩:=S n v.mle (ay _);intro x;by_cases J:∃k,m<=k/\k<n/\dt s k/\x=h.nx+k
  ·obtain⟨k,g,h2,⟨r,cs,z⟩,rfl⟩:=J;rw[v.g2 k g h2 (j k h2) r cs z,a3 k g h2 r cs z]
  have af:∀k,m<=k->k<n->dt s k->x≠h.nx+k:=λk g h2 h3 he=>J ⟨k,g,h2,h3,he⟩
  rw[a2 x af];by_cases z:h.nx+m<=x/\x<h.nx+n
  ·have g3:=v.g3 (x-h.nx) (by omega) (by omega) (.inr (λB=>af (x-h.nx) (by omega) (by omega) B (by omega)));have m0:=v.m0 (x-h.nx) (by omega) (by omega);rw[show h.nx+(x-h.nx)=x by omega]at g3 m0;rw[g3,m0]
  exact v.g1 x (by omega)
 have y:(Hs n).nx=(Hs m).nx:=by
  have:∀q,m<=q->q<=n->(Hs q).nx=(Hs m).nx:=by
   intro q C;induction C with
   |refl=>intro _;rfl
   | @step q C ih=>
    intro K;have d:q<n:=K;have ad:m<=q:=C;have M:¬gJ s q:=λhE=>by have:=v.rj q d hE (j q d);omega
    by_cases B:dt s q
    ·obtain⟨r,cs,z⟩:=B;rw[(c.als d z).2];exact ih (by omega)
    rw[c.stays d M B];exact ih (by omega)
  exact this n v.mle (ay _)
 have an:G=λx=>(Hs n).H.get x:=funext al
 have e:=v.sim;have R:=v.tm;have f:=v.trans;rw[an]at e R f;rw[<-y]at e;rw[show Hs n=h' from e4]at e R f y;refine hQ β' U w' ⟨⟨e.fresh,e.lt,e.iU,e.obj,e.inj⟩,v.sz,λt u hu=>R t u ?_,v.df⟩ ?_
 ·have ao:(Ts n).get t=some u:=by rw[show Ts n=T' from e3];exact hu
  rcases c.text n (ay _) t u ao with⟨k,g,h2,h3,h4,h5⟩|⟨g,h2⟩
  ·exact .inl ⟨k,g,j k g,h3,h4,λi' b1 _ b3=>h5 i' b1 b1 b3⟩
  exact .inr ⟨λi b1 _=>g i b1 b1,h2⟩
 have ar:=aj m v.mle;have h0:(λx=>(Hs 0).H.get x)=λx=>h.H.get x:=by rw[e2]
 rw[h0]at f;refine⟨f.ext,v.low,by rw[y];omega,f.size,f.aY,f.live,f.shape,f.os,f.tape,f.output⟩
theorem uj{ops:Array Oper}{π:Nat->Nat}{o:Nat->aq}{s:Nat->bZ}{b:Nat->Nat}{Ts:Nat->Tm}{Hs:Nat->AH}(c:fP P nt ops π ops.size h.nx o s b Ts Hs)(B:∀i j,π i=π j->i=j)(R:∀j,j<ops.size->∃i,i<ops.size/\π i=j){X:Nat->Nat->Prop}
  (C:∀i,i<ops.size->∀M,ops[π i]?=some M->∀j,Nat.testBit (b i) j=true->(∃e∈M.after,Region.binds .any e=true/\(e.on=π j\/∃k,k<ops.size/\π k=e.on/\Nat.testBit (b k) j=true))\/X i j)
  (S:∀i,i<=ops.size->h.nx+ops.size<=(Hs i).nx) {Q:Exit->Act->World->Prop} {d:Array Bool} {β':Bl} {G:HF} {m:Nat} {a':Act} {w':World} (aj:d.size=ops.size)
  (v:Inv own β w nt ds ops.size h.nx o s b Ts Hs (λi=>d.getD (π i) false=true) β' G m a' w') {i:Nat} (hi:i∈Region.ready .any ops d) (H:∀p j,p<ops.size->π p=i->X p j->d.getD (π j) false=true) {K:Act->World->Prop}
  (hK:∀β'' q r g l,Inv own β w nt ds ops.size h.nx o s b Ts Hs (λj=>(d.setIfInBounds i true).getD (π j) false=true) β'' q r g l->K g l):wpOp P ops Q i K a' w':=by
 obtain⟨y,M,z,J⟩:=mem_ready.1 hi;have U:i<ops.size:=(oN.1 z).1;have A:i<d.size:=by omega
 obtain⟨p,t,f⟩:=R i U;have hL:¬(d.getD (π p) false=true):=by rw[f];simp[A]at y ⊢; exact y
 have hP:∀j,Nat.testBit (b p) j=true->d.getD (π j) false=true:=by
  intro j x;rcases C p t M (by rw[f];exact z) j x with⟨e,h1,h2,N⟩|hx
  ·have hle:=J e h1 h2;rcases N with N|⟨k,W,ad,af⟩
   ·rw[<-N];exact hle
   exact v.closed k W (show d.getD (π k) false=true by rw[ad];exact hle) j af
  exact H p j t f hx
 rw[<-f];refine v.step c S t hL hP λβ'' q r g l v'=>hK β'' q r g l ?_
 have heq:(λj=>j=p\/d.getD (π j) false=true)=(λj=>(d.setIfInBounds i true).getD (π j) false=true):=by
  funext j
  apply propext;by_cases x:π j=i
  ·have u:j=p:=B j p (x.trans f.symm);simp[A,x,u,f]
  have u:j≠p:=λhe=>x (by rw[he,f])
  simp[u,vE (lI x)]
 rw[heq]at v';exact v'
theorem ND{ops:Array Oper}{L:List (aq×Nat)}{π:Nat->Nat}(x:DL P nt ops L π){c:Array Bool}(C:c.size=ops.size)(y:Region.ready .any ops c=[]):∀i,i<ops.size->c.getD (π i) false=true:=by
 have least:(∃i,i<ops.size/\c.getD (π i) false=false)->∃i,i<ops.size/\c.getD (π i) false=false/\∀j,j<i->c.getD (π j) false=true:=by
  intro⟨i,hi,z⟩;induction i using Nat.strongRecOn with
  |_ i A=>
   by_cases hex:∃j,j<i/\c.getD (π j) false=false
   ·obtain⟨j,g,p⟩:=hex;exact A j g (by omega) p
   refine⟨i,hi,z,λj g=>?_⟩;cases l:c.getD (π j) false
   ·exact absurd ⟨j,g,l⟩ hex
   rfl
 intro i hi;cases l:c.getD (π i) false with
 |true=>rfl
 |false=>
  obtain⟨k,r,d,t⟩:=least ⟨i,hi,l⟩;have:π k∈Region.ready .any ops c:=by
   rw[mem_ready];have f:π k<ops.size:=x.lt k r;refine⟨by have:π k<c.size:=(by omega);simp[this]at d ⊢; exact d,ops[π k],by simp[f],λe he B=>?_⟩;obtain⟨q,u,v⟩:=x.Jg k _ (by simp[f]) e he B;rw[v];exact t q u
  rw[y]at this;cases this
theorem R3{ops:Array Oper}{L:List (aq×Nat)}{π:Nat->Nat}(d:DL P nt ops L π):∀i j,π i=π j->i=j:=by
 intro i j c;rcases nF i ops.size with hi|hi<;>rcases nF j ops.size with e|e
 ·exact d.inj i j hi e c
 ·have:=d.lt i hi;rw[c,d.out j e]at this;omega
 ·have:=d.lt j e;rw[<-c,d.out i hi]at this;omega
 rw[d.out i hi,d.out j e]at c;exact c
theorem Im{ops:Array Oper}{π:Nat->Nat}{n:Nat}{o:Nat->aq}{s:Nat->bZ}{b:Nat->Nat}{Ts:Nat->Tm}{Hs:Nat->AH}(c:fP P nt ops π n h.nx o s b Ts Hs):∀i,i<n->(Hs i).nx<=(Hs (i+1)).nx:=by
 intro i hi;obtain⟨cl,_,d⟩:=c.step i hi;rw[c.Hn i hi];generalize s i=t at d;cases d<;>simp only[bZ.h']<;>first|exact ay _|assumption
theorem Ql{ops:Array Oper}{Q:Exit->Act->World->Prop}{St:Array Bool->Act->World->Prop}(done:∀(listed:Array Bool) (d:Act) (w':World),listed.size=ops.size->St listed d w'->Region.ready .any ops listed=[]->Q .normal d w')
  (t:∀(listed:Array Bool) (d:Act) (w':World),listed.size=ops.size->St listed d w'->∀i∈Region.ready .any ops listed,∀K:Act->World->Prop,(∀e f,St (listed.setIfInBounds i true) e f->K e f)->wpOp P ops Q i K d w')
  (B:St (Array.replicate ops.size false) a w):wpAny P .any ops Q ops.size (Array.replicate ops.size false) a w:=by
 have key:∀(fuel:Nat) (listed:Array Bool) (d:Act) (w':World),listed.size=ops.size->unl listed<=fuel->St listed d w'->wpAny P .any ops Q fuel listed d w':=by
  intro fuel;induction fuel with
  |zero=>
   intro listed d w' c hu v;have A:Region.ready .any ops listed=[]:=by
    cases C:Region.ready .any ops listed with
    |nil=>rfl
    |cons i r=>
     exfalso;obtain⟨g,H,p,_⟩:=mem_ready.1 (show i∈Region.ready .any ops listed by rw[C];simp);have j:i<listed.size:=by rw[c];exact(oN.1 p).1
     have:false∈listed.toList.filter (! ·):=by
      rw[List.mem_filter];refine⟨?_,rfl⟩;simp[j]at g;rw[<-g];simp
     unfold unl at hu;have u:=fQ (by omega:(listed.toList.filter (! ·)).length=0);rw[u]at this;cases this
   exact⟨A,done listed d w' c v A⟩
  |succ fuel J=>
   intro listed d w' c hu v;refine⟨done listed d w' c v,λi hi=>?_⟩;refine t listed d w' c v i hi _ λe f M=>J _ e f (by simp[c]) ?_ M
   obtain⟨g,H,p,_⟩:=mem_ready.1 hi;have j:i<listed.size:=by rw[c];exact(oN.1 p).1
   have y:listed[i]=false:=by simpa[j]using g
   have N:unl (listed.setIfInBounds i true)<unl listed:=by
    unfold unl;rw[Array.toList_setIfInBounds];have:∀(l:List Bool) (k:Nat),l[k]?=some false->((l.set k true).filter (! ·)).length<(l.filter (! ·)).length:=by
     intro l;induction l with
     |nil=>intro k q;simp at q
     |cons x l z=>
      intro k q;cases k with
      |zero=>simp at q;subst q;simp
      |succ k=>simp at q;have:=z k q;cases x<;>simp<;>omega
    exact this _ i (by simp[j,y])
   omega
 refine key ops.size (Array.replicate ops.size false) a w (by simp) ?_ B;unfold unl;have:=List.length_filter_le (! ·) (Array.replicate ops.size false).toList;simp
theorem LC{ops:Array Oper}{π:Nat->Nat}{o:Nat->aq}{s:Nat->bZ}{b:Nat->Nat}{Ts:Nat->Tm}{Hs:Nat->AH}(p:fP P nt ops π ops.size h.nx o s b Ts Hs)(g:Sim nt ds own β T h a w)(q:Ts 0=T)(k:Hs 0=⟨h.H,h.nx+ops.size⟩):
  Inv own β w nt ds ops.size h.nx o s b Ts Hs (λi=>(Array.replicate ops.size false).getD (π i) false=true) β (λx=>h.H.get x) 0 a { w with drawn:=w.drawn+1 }:=by
 have l:∀i,(Array.replicate ops.size false).getD i false=false:=by
  intro i;by_cases hi:i<ops.size
  ·simp[hi]
  simp[hi]
 have d:∀i,¬((Array.replicate ops.size false).getD (π i) false=true):=λi f=>by rw[l]at f;cases f
 have c:=g.hp;refine⟨⟨λid hid=>c.fresh id (by rw[k]at hid;simp only at hid;omega),c.lt,c.iU,c.obj,c.inj⟩,g.sz,g.df,λi _ f=>absurd f (d i),fJ _,.inl rfl,λe _ _ f=>absurd f (d e),λx _=>by rw[k],λj _ _ f=>absurd f (d j),λj _ _ _=>c.dead (by omega),λj _ _=>p.ag_ _ (by omega),λj _ _=>c.fresh _ (by omega),λid _=>rfl,λt u hu=>?_,?_⟩
 ·rcases hu with⟨i,_,f,_⟩|⟨_,f⟩
  ·exact absurd f (d i)
  rw[q]at f;exact g.tm t u f
 rw[k];exact⟨λ_ _ h=>h,ay _,λ_ _ _=>rfl,λ_ h=>.inl h,λ_ cur _ r h=>⟨cur,r,h,rfl,λ_=>rfl⟩,rfl,rfl,rfl⟩
theorem aar{ops:Array Oper}{L:List (aq×Nat)}{π:Nat->Nat}{T':Tm}{S:AH}(ar:P.follows .mixedOrders=true)(u:DL P nt ops L π){z:List bZ}(l:j3 P (L.map (·.1)) h.nx T ⟨h.H,h.nx+L.length⟩ z T' S)(g:∀(i j:Nat) (p o:aq) (q s:bZ) (bits bp:Nat),i<j->L[i]?=some (p,bp)->z[i]?=some q->L[j]?=some (o,bits)->z[j]?=some s->Nat.testBit bits i=true\/(mQ p o=true/\bT q.k s.k=true))(hs:Sim nt ds own β T h a w)
  {Q:Exit->Act->World->Prop} (hQ:∀β' A w',Sim nt ds own β' T' S A w'->aX own β h w β' S w'->Q .normal A w'):wpAny P .any ops Q ops.size (Array.replicate ops.size false) a { w with drawn:=w.drawn+1 }:=by
 have C:L.length=ops.size:=u.len;rw[C]at l;obtain⟨Ts,Hs,e1,R,e3,e4,e5,U⟩:=Ad _ _ _ _ _ _ _ l;rw[kK,C]at e3 e4 e5;let n:=ops.size
 let o:Nat->aq:=λi=>(L.getD i default).1
 let s:Nat->bZ:=λi=>z.getD i default
 let b:Nat->Nat:=λi=>(L.getD i default).2
 have d:∀i,i<n->L[i]?=some (o i,b i):=λi hi=>by simp[o,b,show i<L.length by omega]
 have W:∀i,i<n->(L.map (·.1))[i]?=some (o i):=λi hi=>by rw[cA,d i hi];rfl
 have f:∀i,i<n->z[i]?=some (s i):=λi hi=>by simp[s,show i<z.length by omega]
 have ad:∀i x,L[i]?=some x->i<n:=λi x hx=>by have:=(aL.1 hx).1;omega
 have N:∀i,i<n->∀B,ops[π i]?=some B->∀j,Nat.testBit (b i) j=true->∃e∈B.after,Region.binds .any e=true/\(e.on=π j\/∃k,k<n/\π k=e.on/\Nat.testBit (b k) j=true):=by
  intro i hi B r j hb;obtain⟨e,h1,h2,h3⟩:=u.bef i _ (d i hi) B r j hb;refine⟨e,h1,h2,h3.imp id ?_⟩;rintro⟨k,y,hk,h4,h5⟩;have J:=ad k y hk;rw[d k J]at hk;cases hk;exact⟨k,J,h4,h5⟩
 have c:fP P nt ops π n h.nx o s b Ts Hs:=by
  refine⟨λi hi=>u.cop i _ (d i hi),λi hi=>(U i _ _ (W i hi) (f i hi)).1,λi hi=>(U i _ _ (W i hi) (f i hi)).2.1,λi hi=>(U i _ _ (W i hi) (f i hi)).2.2,?_,by rw[R];exact ay _,?_⟩
  ·intro i j af hj;exact g i j _ _ _ _ _ _ af (d i (by omega)) (f i (by omega)) (d j hj) (f j hj)
  intro id hid;rw[R];exact hs.hp.dead hid
 have M:=c.nxm (Im c);refine Ql (St:=λlisted A w'=>∃β' G m,Inv own β w nt ds n h.nx o s b Ts Hs (λi=>listed.getD (π i) false=true) β' G m A w') (λlisted A w' t ⟨β',G,m,v⟩ hr=>Kn c R e3 e4 M hQ v (ND u t hr)) (λlisted A w' t ⟨β',G,m,v⟩ i hi K hK=>?_) ⟨β,_,0,LC c hs e1 R⟩;exact uj c (R3 u) u.sur (X:=λ_ _=>False) (λi hi B r j hb=>.inl (N i hi B r j hb)) M t v hi (λ_ _ _ _ hx=>hx.elim) λβ'' aj al an ao v'=>hK an ao ⟨β'',aj,al,v'⟩
def zr(ops:Array Oper)(L:List (aq×Nat))(π:Nat->Nat):Prop:=∀i x,L[i]?=some x->∀oo,ops[π i]?=some oo->∀e∈oo.after,Region.binds .any e=true->∃k,e.on=π k/\Nat.testBit x.2 k=true
theorem Nf{o1 o2:Nat->aq}{g j:Nat->bZ}{c d:Nat->Tm}{e f:Nat->AH}{N:Nat}(k:c 0=d 0)(l:e 0=f 0)(p:∀i,i<N->o1 i=o2 i)(q:∀i,i<N->g i=j i)
  (r:∀i,i<N->c (i+1)=jX (c i) (o1 i).dst (g i).v/\e (i+1)=(g i).h') (h2:∀i,i<N->d (i+1)=jX (d i) (o2 i).dst (j i).v/\f (i+1)=(j i).h'):∀i,i<=N->c i=d i/\e i=f i
 |0,_=>⟨k,l⟩
 |i+1,hi=>by
  obtain⟨t,a2⟩:=r i (by omega);obtain⟨b1,b2⟩:=h2 i (by omega);have u:=Nf k l p q r h2 i (by omega);rw[t,a2,b1,b2,p i (by omega),q i (by omega),u.1];exact⟨rfl,rfl⟩
def sw(N:Nat)(π:Nat->Nat)(i:Nat):Nat:=if i=N then π (N+1)else if i=N+1 then π N else π i
theorem aaM{ops:Array Oper}{R:List (aq×Nat)}{x y:aq×Nat}{π:Nat->Nat}(hd:DL P nt ops (R++[x,y]) π)(hc:zr ops (R++[x,y]) π)(dk:∀z∈R++[x,y],∀j,Nat.testBit z.2 j=true->j<R.length)
  {sr t1 t2:List bZ} {T1 T2:Tm} {c h2:AH} (eC:t1.length=2) (eF:t2.length=2) (eL:sr.length=R.length)
  (cy:j3 P ((R++[x,y]).map (·.1)) h.nx T ⟨h.H,h.nx+ops.size⟩ (sr++t1) T1 c) (cN:j3 P ((R++[y,x]).map (·.1)) h.nx T ⟨h.H,h.nx+ops.size⟩ (sr++t2) T2 h2)
  (c6:∀(i j:Nat) (p o:aq) (q s:bZ) (bits bp:Nat),i<j->(R++[x,(y.1,y.2 ||| 2^R.length)])[i]?=some (p,bp)->(sr++t1)[i]?=some q->(R++[x,(y.1,y.2 ||| 2^R.length)])[j]?=some (o,bits)->(sr++t1)[j]?=some s->Nat.testBit bits i=true\/(mQ p o=true/\bT q.k s.k=true))
  (c7:∀(i j:Nat) (p o:aq) (q s:bZ) (bits bp:Nat),i<j->(R++[y,(x.1,x.2 ||| 2^R.length)])[i]?=some (p,bp)->(sr++t2)[i]?=some q->(R++[y,(x.1,x.2 ||| 2^R.length)])[j]?=some (o,bits)->(sr++t2)[j]?=some s->Nat.testBit bits i=true\/(mQ p o=true/\bT q.k s.k=true))
  (hs:Sim nt ds own β T h a w) {Q:Exit->Act->World->Prop} (ej:∀β' S w',Sim nt ds own β' T1 c S w'->aX own β h w β' c w'->Q .normal S w') (ek:∀β' S w',Sim nt ds own β' T2 h2 S w'->aX own β h w β' h2 w'->Q .normal S w'):
  wpAny P .any ops Q ops.size (Array.replicate ops.size false) a { w with drawn:=w.drawn+1 }:=by
 have eN:R.length+2=ops.size:=by have:=hd.len;simp at this;omega
 obtain⟨N,hN⟩:∃N,N=R.length:=⟨_,rfl⟩;have hn:ops.size=N+2:=by omega
 obtain⟨cc,bx,a1,a2,a3,a4,a5,a6⟩:=Ad _ _ _ _ _ _ _ cy;obtain⟨cu,cd,b1,b2,b3,b4,b5,b6⟩:=Ad _ _ _ _ _ _ _ cN;have cR:((R++[x,y]).map (·.1)).length=ops.size:=by simp;omega
 have cT:((R++[y,x]).map (·.1)).length=ops.size:=by simp;omega
 rw[cR]at a3 a4 a5;rw[cT]at b3 b4 b5;obtain⟨L1,a7⟩:∃L1,L1=R++[x,(y.1,y.2 ||| 2^R.length)]:=⟨_,rfl⟩;obtain⟨L2,a8⟩:∃L2,L2=R++[y,(x.1,x.2 ||| 2^R.length)]:=⟨_,rfl⟩;have c8:(R++[x,y]).map (·.1)=L1.map (·.1):=by rw[a7];simp
 have en:(R++[y,x]).map (·.1)=L2.map (·.1):=by rw[a8];simp
 rw[c8]at a6;rw[en]at b6;rw[<-a7]at c6;rw[<-a8]at c7;have ez:L1.length=ops.size:=by rw[a7];simp;omega
 have eB:L2.length=ops.size:=by rw[a8];simp;omega
 let o1:Nat->aq:=λi=>(L1.getD i default).1
 let s1:Nat->bZ:=λi=>(sr++t1).getD i default
 let A:Nat->Nat:=λi=>(L1.getD i default).2
 let o2:Nat->aq:=λi=>(L2.getD i default).1
 let s2:Nat->bZ:=λi=>(sr++t2).getD i default
 let M:Nat->Nat:=λi=>(L2.getD i default).2
 have g1:∀i,i<ops.size->L1[i]?=some (o1 i,A i):=λi hi=>by simp[o1,A,show i<L1.length by omega]
 have g2:∀i,i<ops.size->L2[i]?=some (o2 i,M i):=λi hi=>by simp[o2,M,show i<L2.length by omega]
 have q1:∀i,i<ops.size->(L1.map (·.1))[i]?=some (o1 i):=λi hi=>by rw[cA,g1 i hi];rfl
 have q2:∀i,i<ops.size->(L2.map (·.1))[i]?=some (o2 i):=λi hi=>by rw[cA,g2 i hi];rfl
 have r1:∀i,i<ops.size->(sr++t1)[i]?=some (s1 i):=λi hi=>by simp only[s1,gF];rw[bF (by omega)];rfl
 have r2:∀i,i<ops.size->(sr++t2)[i]?=some (s2 i):=λi hi=>by simp only[s2,gF];rw[bF (by omega)];rfl
 have i1:∀i,i<N->L1[i]?=R[i]?:=λi hi=>by rw[a7,lF (by omega)]
 have i2:∀i,i<N->L2[i]?=R[i]?:=λi hi=>by rw[a8,lF (by omega)]
 have j1:L1[N]?=some x:=by rw[a7,iZ (by omega),hN];simp
 have k1:L1[N+1]?=some (y.1,y.2 ||| 2^R.length):=by rw[a7,iZ (by omega),show N+1-R.length=1 by omega];rfl
 have j2:L2[N]?=some y:=by rw[a8,iZ (by omega),hN];simp
 have k2:L2[N+1]?=some (x.1,x.2 ||| 2^R.length):=by rw[a8,iZ (by omega),show N+1-R.length=1 by omega];rfl
 have i0:∀i,i<N->(R++[x,y])[i]?=R[i]?:=λi hi=>by rw[lF (by omega)]
 have j0:(R++[x,y])[N]?=some x:=by rw[iZ (by omega),hN];simp
 have k0:(R++[x,y])[N+1]?=some y:=by rw[iZ (by omega),show N+1-R.length=1 by omega];rfl
 have f:=R3 hd;have ba:sw N π N=π (N+1):=Z rfl;have ad:sw N π (N+1)=π N:=by unfold sw;rw[O (by omega),Z rfl]
 have ar:∀i,i≠N->i≠N+1->sw N π i=π i:=λi c h2=>by unfold sw;rw[O c,O h2]
 have ca:∀i j,sw N π i=sw N π j->i=j:=by
  intro i j U;have key:∀i,sw N π i=π (if i=N then N+1 else if i=N+1 then N else i):=λi=>by
   unfold sw;by_cases c:i=N
   ·simp[c]
   by_cases h2:i=N+1
   ·simp[h2]
   simp[c,h2]
  rw[key,key]at U;have:=f _ _ U;split at this<;>split at this<;>(try split at this)<;>(try split at this)<;>omega
 have cn:∀j,j<ops.size->∃i,i<ops.size/\sw N π i=j:=by
  intro j d;obtain⟨i,hi,U⟩:=hd.sur j d;by_cases c:i=N
  ·subst c;exact⟨i+1,by omega,by rw[ad];exact U⟩
  by_cases h2:i=N+1
  ·subst h2;exact⟨N,by omega,by rw[ba];exact U⟩
  exact⟨i,hi,by rw[ar i c h2];exact U⟩
 have cr:∀(i:Nat) (z:aq×Nat),(R++[x,y])[i]?=some z->∀j,Nat.testBit z.2 j=true->j<N:=λi z hz j d=>by rw[hN];exact dk z (cQ hz) j d
 have ct:∀(i:Nat) (z:aq×Nat),(R++[x,y])[i]?=some z->∀oo,ops[π i]?=some oo->∀j,Nat.testBit z.2 j=true->∃e∈oo.after,Region.binds .any e=true/\(e.on=π j\/∃k u,k<N/\R[k]?=some u/\π k=e.on/\Nat.testBit u.2 j=true):=by
  intro i z hz oo g j d;obtain⟨e,c,h2,h3⟩:=hd.bef i z hz oo g j d;refine⟨e,c,h2,h3.imp id ?_⟩;rintro⟨k,u,bb,bd,bY⟩;obtain⟨k',b0,ep⟩:=hc i z hz oo g e c h2;have er:k=k':=f _ _ (by rw[bd,b0]);subst er;have dc:=cr i z hz k ep;rw[i0 k dc]at bb;exact⟨k,u,dc,bb,bd,bY⟩
 have ec:∀k u,k<N->R[k]?=some u->A k=u.2:=λk u hk hu=>by
  have:=g1 k (by omega);rw[i1 k hk,hu]at this;exact(congrArg Prod.snd (j8 this)).symm
 have ee:∀k u,k<N->R[k]?=some u->M k=u.2:=λk u hk hu=>by
  have:=g2 k (by omega);rw[i2 k hk,hu]at this;exact(congrArg Prod.snd (j8 this)).symm
 have aS:∀i,i<ops.size->∀oo,ops[π i]?=some oo->∀j,Nat.testBit (A i) j=true->(∃e∈oo.after,Region.binds .any e=true/\(e.on=π j\/∃k,k<ops.size/\π k=e.on/\Nat.testBit (A k) j=true))\/(i=N+1/\j=N):=by
  intro i hi oo g j d;have fin:∀z,(R++[x,y])[i]?=some z->Nat.testBit z.2 j=true->(∃e∈oo.after,Region.binds .any e=true/\(e.on=π j\/∃k,k<ops.size/\π k=e.on/\Nat.testBit (A k) j=true)):=by
   intro z hz cf;obtain⟨e,c,h2,h3⟩:=ct i z hz oo g j cf;refine⟨e,c,h2,h3.imp id ?_⟩;rintro⟨k,u,bb,bd,bY,b0⟩;exact⟨k,by omega,bY,by rw[ec k u bb bd];exact b0⟩
  by_cases c1:i<N
  ·left;have J:=g1 i hi;rw[i1 i c1,<-i0 i c1]at J;exact fin _ J d
  by_cases c2:i=N
  ·subst c2;left;have J:=g1 i hi;rw[j1,<-j0]at J;exact fin _ J d
  have c3:i=N+1:=by omega
  subst c3;have J:=g1 (N+1) hi;rw[k1]at J;have hb:A (N+1)=y.2 ||| 2^R.length:=(congrArg Prod.snd (j8 J)).symm;rw[hb,tN,vM,iY,ck]at d;rcases d with d|d
  ·exact .inl (fin y k0 d)
  exact .inr ⟨rfl,by omega⟩
 have cb:∀i,i<ops.size->∀oo,ops[sw N π i]?=some oo->∀j,Nat.testBit (M i) j=true->(∃e∈oo.after,Region.binds .any e=true/\(e.on=sw N π j\/∃k,k<ops.size/\sw N π k=e.on/\Nat.testBit (M k) j=true))\/(i=N+1/\j=N):=by
  intro i hi oo g j d;have fin:∀q z,(R++[x,y])[q]?=some z->ops[π q]?=some oo->Nat.testBit z.2 j=true->(∃e∈oo.after,Region.binds .any e=true/\(e.on=sw N π j\/∃k,k<ops.size/\sw N π k=e.on/\Nat.testBit (M k) j=true)):=by
   intro q z hz g cf;have cl:=cr q z hz j cf;obtain⟨e,c,h2,h3⟩:=ct q z hz oo g j cf;refine⟨e,c,h2,?_⟩;rcases h3 with h3|⟨k,u,bb,bd,bY,b0⟩
   ·left;rw[ar j (by omega) (by omega)];exact h3
   right;exact⟨k,by omega,by rw[ar k (by omega) (by omega)];exact bY,by rw[ee k u bb bd];exact b0⟩
  by_cases c1:i<N
  ·left;have J:=g2 i hi;rw[i2 i c1,<-i0 i c1]at J;rw[ar i (by omega) (by omega)]at g;exact fin i _ J g d
  by_cases c2:i=N
  ·subst c2;left;have J:=g2 i hi;rw[j2,<-k0]at J;rw[ba]at g;exact fin (i+1) _ J g d
  have c3:i=N+1:=by omega
  subst c3;have J:=g2 (N+1) hi;rw[k2]at J;have hb:M (N+1)=x.2 ||| 2^R.length:=(congrArg Prod.snd (j8 J)).symm;rw[hb,tN,vM,iY,ck]at d;rw[ad]at g;rcases d with d|d
  ·exact .inl (fin N x j0 g d)
  exact .inr ⟨rfl,by omega⟩
 have c1:fP P nt ops π ops.size h.nx o1 s1 A cc bx:=by
  refine⟨λi hi=>?_,λi hi=>(a6 i _ _ (q1 i hi) (r1 i hi)).1,λi hi=>(a6 i _ _ (q1 i hi) (r1 i hi)).2.1,λi hi=>(a6 i _ _ (q1 i hi) (r1 i hi)).2.2,?_,by rw[a2];exact ay _,?_⟩
  ·have:∃z,(R++[x,y])[i]?=some z/\z.1=o1 i:=by
    have hq:=q1 i hi;rw[<-c8,cA]at hq;cases hz:(R++[x,y])[i]? with
    |none=>rw[hz]at hq;cases hq
    |some z=>rw[hz]at hq;exact⟨z,rfl,j8 hq⟩
   obtain⟨z,hz,et⟩:=this;rw[<-et];exact hd.cop i z hz
  ·intro i j U d;exact c6 i j _ _ _ _ _ _ U (g1 i (by omega)) (r1 i (by omega)) (g1 j d) (r1 j d)
  intro id hid;rw[a2];exact hs.hp.dead hid
 have c2:fP P nt ops (sw N π) ops.size h.nx o2 s2 M cu cd:=by
  refine⟨λi hi=>?_,λi hi=>(b6 i _ _ (q2 i hi) (r2 i hi)).1,λi hi=>(b6 i _ _ (q2 i hi) (r2 i hi)).2.1,λi hi=>(b6 i _ _ (q2 i hi) (r2 i hi)).2.2,?_,by rw[b2];exact ay _,?_⟩
  ·have J:=g2 i hi;by_cases d1:i<N
   ·rw[i2 i d1,<-i0 i d1]at J;rw[ar i (by omega) (by omega)];exact hd.cop i _ J
   by_cases d2:i=N
   ·subst d2;rw[j2,<-k0]at J;rw[ba];exact hd.cop (i+1) _ J
   have d3:i=N+1:=by omega
   subst d3;rw[k2]at J;rw[ad];have:o2 (N+1)=x.1:=(congrArg Prod.fst (j8 J)).symm;rw[this];exact hd.cop N x j0
  ·intro i j U d;exact c7 i j _ _ _ _ _ _ U (g2 i (by omega)) (r2 i (by omega)) (g2 j d) (r2 j d)
  intro id hid;rw[b2];exact hs.hp.dead hid
 have aT:=c1.nxm (Im c1);have b7:=c2.nxm (Im c2);have eo:∀i,i<N->o1 i=o2 i:=λi hi=>by
  have c:=g1 i (by omega);have h2:=g2 i (by omega);rw[i1 i hi]at c;rw[i2 i hi,c]at h2;exact congrArg Prod.fst (j8 h2)
 have eb:∀i,i<N->A i=M i:=λi hi=>by
  have c:=g1 i (by omega);have h2:=g2 i (by omega);rw[i1 i hi]at c;rw[i2 i hi,c]at h2;have:=congrArg Prod.snd (j8 h2);exact this
 have es:∀i,i<N->s1 i=s2 i:=λi hi=>by
  simp only[s1,s2,gF];rw[lF (by omega),lF (by omega)]
 have cv:=Nf (N:=N) (a1.trans b1.symm) (a2.trans b2.symm) eo es (λi hi=>⟨c1.Tn i (by omega),c1.Hn i (by omega)⟩) (λi hi=>⟨c2.Tn i (by omega),c2.Hn i (by omega)⟩);have conv:∀(listed:Array Bool) (β':Bl) (G:HF) (m:Nat) (S:Act) (w':World),listed.getD (π N) false=false->listed.getD (π (N+1)) false=false->Inv own β w nt ds ops.size h.nx o1 s1 A cc bx (λi=>listed.getD (π i) false=true) β' G m S w'->
   Inv own β w nt ds ops.size h.nx o2 s2 M cu cd (λi=>listed.getD (sw N π i) false=true) β' G m S w':=by
  intro listed β' G m S w' bk bs v;have hL:(λi=>listed.getD (sw N π i) false=true)=λi=>listed.getD (π i) false=true:=by
   funext i
   by_cases c:i=N
   ·subst c;rw[ba,bk,bs]
   by_cases h2:i=N+1
   ·subst h2;rw[ad,bk,bs]
   rw[ar i c h2]
  rw[hL];have aj:∀i,i<ops.size->listed.getD (π i) false=true->i<N:=by
   intro i hi hl;by_cases c:i=N
   ·subst c;rw[bk]at hl;cases hl
   by_cases h2:i=N+1
   ·subst h2;rw[bs]at hl;cases hl
   omega
  have ev:m<=N:=by
   rcases v.cut with rfl|⟨e,rfl,he,_⟩
   ·omega
   have:=aj e (by have:=v.mle;omega) he;omega
  have eH:bx m=cd m:=(cv m ev).2;have eE:∀i,i<N->(gJ s1 i↔gJ s2 i):=λi hi=>by unfold gJ;rw[es i hi]
  have eA:∀i,i<N->(dt s1 i↔dt s2 i):=λi hi=>by unfold dt;rw[es i hi]
  refine⟨by rw[<-eH];exact v.sim,v.sz,v.df,λi hi hl j d=>v.closed i hi hl j (by rw[eb i (aj i hi hl)];exact d),v.mle,?_,λe he hE hl=>v.rj e he ((eE e (aj e he hl)).2 hE) hl,λx hx=>by rw[<-eH];exact v.g1 x hx,
   λj c h2 hl r cs hr=>v.g2 j c h2 hl r cs (by rw[es j (aj j h2 hl)];exact hr),λj c h2 h3=>v.g3 j c h2 ?_,λj c h2=>by rw[<-eH];exact v.m0 j c h2,λj c h2=>v.pT j c ?_,v.low,λt u hu=>v.tm t u ?_,by rw[<-(cv 0 (fJ _)).2];exact v.trans⟩
  ·rcases v.cut with rfl|⟨e,rfl,he,hE⟩
   ·exact .inl rfl
   exact .inr ⟨e,rfl,he,(eE e (by omega)).1 hE⟩
  ·by_cases cl:j<N
   ·exact h3.imp id λh hA=>h ((eA j cl).1 hA)
   left;intro hl;have:=aj j h2 hl;omega
  ·by_cases cl:j<N
   ·exact h2.imp id λh hA=>h ((eA j cl).1 hA)
   left;intro hl;have:=aj j c hl;omega
  rcases hu with⟨i,d1,d2,d3,d4,d5⟩|⟨d1,d2⟩
  ·have hi:=aj i d1 d2;exact .inl ⟨i,d1,d2,by rw[eo i hi];exact d3,by rw[es i hi];exact d4,λi' f1 f2 f3=>d5 i' f1 f2 (by rw[<-eo i' (aj i' f1 f2)];exact f3)⟩
  exact .inr ⟨λi f1 f2 f3=>d1 i f1 f2 (by rw[<-eo i (aj i f1 f2)];exact f3),by rw[(cv 0 (fJ _)).1];exact d2⟩
 let St:Array Bool->Act->World->Prop:=λlisted S w'=>
  (listed.getD (π N) false=false/\listed.getD (π (N+1)) false=false/\∃β' G m,Inv own β w nt ds ops.size h.nx o1 s1 A cc bx (λi=>listed.getD (π i) false=true) β' G m S w')\/
  (listed.getD (π N) false=true/\∃β' G m,Inv own β w nt ds ops.size h.nx o1 s1 A cc bx (λi=>listed.getD (π i) false=true) β' G m S w')\/
  (listed.getD (π (N+1)) false=true/\∃β' G m,Inv own β w nt ds ops.size h.nx o2 s2 M cu cd (λi=>listed.getD (sw N π i) false=true) β' G m S w')
 have done:∀(listed:Array Bool) (S:Act) (w':World),listed.size=ops.size->St listed S w'->Region.ready .any ops listed=[]->Q .normal S w':=by
  intro listed S w' l cx hr;have ao:=ND hd l hr;rcases cx with⟨hf,_⟩|⟨_,β',G,m,v⟩|⟨_,β',G,m,v⟩
  ·rw[ao N (by omega)]at hf;cases hf
  ·exact Kn c1 a2 a3 a4 aT ej v ao
  refine Kn c2 b2 b3 b4 b7 ek v λi hi=>?_
  by_cases d1:i=N
  ·subst d1;rw[ba];exact ao _ (by omega)
  by_cases d2:i=N+1
  ·subst d2;rw[ad];exact ao _ (by omega)
  rw[ar i d1 d2];exact ao i hi
 have af:∀(listed:Array Bool) (i j:Nat),listed.size=ops.size->i<ops.size->(listed.setIfInBounds i true).getD j false=if j=i then true else listed.getD j false:=by
  intro listed i j l hi;by_cases d:j=i
  ·subst d;simp[show j<listed.size by omega]
  rw[O d];simp[vE (lI d)]
 have step:∀(listed:Array Bool) (S:Act) (w':World),listed.size=ops.size->St listed S w'->∀i∈Region.ready .any ops listed,∀K:Act->World->Prop,(∀B C,St (listed.setIfInBounds i true) B C->K B C)->wpOp P ops Q i K S w':=by
  intro listed S w' l cx i hi K hK;obtain⟨eP,oo,g,_⟩:=mem_ready.1 hi;have av:i<ops.size:=(oN.1 g).1;obtain⟨p,hp,aw⟩:=hd.sur i av;rcases cx with⟨bk,bs,β',G,m,v⟩|⟨ht,β',G,m,v⟩|⟨ht,β',G,m,v⟩
  ·by_cases d1:p=N+1
   ·subst d1;refine uj c2 ca cn cb b7 l (conv listed β' G m S w' bk bs v) hi (λp' j _ W hx=>?_) λβ'' al an B C v'=>hK B C (.inr (.inr ⟨?_,β'',al,an,v'⟩))
    ·obtain⟨rfl,_⟩:=hx;rw[ad,<-aw]at W;have:=f _ _ W;omega
    rw[af listed i _ l av,Z aw]
   by_cases d2:p=N
   ·subst d2;refine uj c1 f hd.sur aS aT l v hi (λp' j _ W hx=>?_) λβ'' al an B C v'=>hK B C (.inr (.inl ⟨?_,β'',al,an,v'⟩))
    ·obtain⟨rfl,_⟩:=hx;rw[<-aw]at W;have:=f _ _ W;omega
    rw[af listed i _ l av,Z aw]
   refine uj c1 f hd.sur aS aT l v hi (λp' j _ W hx=>?_) λβ'' al an B C v'=>hK B C (.inl ⟨?_,?_,β'',al,an,v'⟩)
   ·obtain⟨rfl,_⟩:=hx;rw[<-aw]at W;exact absurd (f _ _ W).symm d1
   ·rw[af listed i _ l av,O (λhe=>d2 (f _ _ (aw.trans he.symm)))];exact bk
   rw[af listed i _ l av,O (λhe=>d1 (f _ _ (aw.trans he.symm)))];exact bs
  ·refine uj c1 f hd.sur aS aT l v hi (λp' j _ W hx=>?_) λβ'' al an B C v'=>hK B C (.inr (.inl ⟨?_,β'',al,an,v'⟩))
   ·obtain⟨_,rfl⟩:=hx;exact ht
   rw[af listed i _ l av];split
   ·rfl
   exact ht
  refine uj c2 ca cn cb b7 l v hi (λp' j _ W hx=>?_) λβ'' al an B C v'=>hK B C (.inr (.inr ⟨?_,β'',al,an,v'⟩))
  ·obtain⟨_,rfl⟩:=hx;rw[ba];exact ht
  rw[af listed i _ l av];split
  ·rfl
  exact ht
 have dd:∀i,(Array.replicate ops.size false).getD i false=false:=by
  intro i;by_cases hi:i<ops.size
  ·simp[hi]
  simp[hi]
 exact Ql done step (.inl ⟨dd _,dd _,β,_,0,LC c1 hs a1 a2⟩)
end
section
variable {P:Program} {nt:Nat} {ds:List Deferred} {own:Nat->Prop} {β:Bl} {T:Tm} {h:AH} {a:Act} {w:World}
theorem agm{ops:Array Oper}{k:List aq}(t:CV ops=true)(H:oh P nt ops ops.toList=some k):DL P nt ops (k.zip (Region.before ops).toList) id:=by
 obtain⟨u,q⟩:=Z4 _ _ H;have r:k.length=ops.size:=by simpa using u
 have p:(Region.before ops).toList.length=ops.size:=by rw[tQ,Ab,Zp];simp
 have C:(Region.before ops).size=ops.size:=by simpa using p
 have v:(k.zip (Region.before ops).toList).length=ops.size:=by simp[r]at p ⊢; omega
 have d:∀i f,ops[i]?=some f->∀e∈f.after,Region.binds .any e=true->e.on<i:=by
  intro i f c e he l;have:=Zj ops.toList 0 t i f (by simpa using c) e he l;omega
 refine⟨v,λi hi=>hi,λ_ _=>rfl,λ_ _ _ _ h=>h,λj J=>⟨j,J,rfl⟩,λi x g=>?_,λi x g f c j l=>?_,λi f c e he l=>⟨e.on,d i f c e he l,rfl⟩⟩
 ·rw[zT]at g;have hi:i<ops.size:=by have:=(aL.1 g.1).1;omega
  exact⟨ops[i],by simp[hi],q i _ _ (by simp[hi]) g.1⟩
 rw[zT]at g;have hi:i<ops.size:=by have:=(aL.1 g.1).1;omega
 have y:(Region.before ops).getD i 0=x.2:=by
  have:=g.2;simp at this;simp[this]
 have z:Nat.testBit ((ops.toList.foldl fj #[]).getD ((#[]:Array Nat).size+i) 0) j=true:=by
  rw[<-Ab];simpa[y]using l
 obtain⟨e,A,h2,K⟩:=Zy ops.toList #[] i f (by simpa using c) j z;refine⟨e,A,h2,K.imp id λB=>?_⟩;rw[<-Ab]at B;have M:=d i f c e A h2;refine⟨e.on,(k[e.on]'(by omega),(Region.before ops)[e.on]'(by omega)),?_,rfl,?_⟩
 ·rw[zT];simp[show e.on<k.length by omega,show e.on<(Region.before ops).size by omega]
 simpa[show e.on<(Region.before ops).size by omega]using B
theorem Zo(c:Array Nat)(j:Nat):∀(l:List Edge) (d:Nat),Nat.testBit d j=true->Nat.testBit (l.foldl (λs e=>if Region.binds .any e then s ||| 2^e.on ||| c.getD e.on 0 else s) d) j=true
 |[],d,h=>h
 |e::l,d,h=>by
  simp only[mq];refine Zo c j l _ ?_;split
  ·simp[tN,h]
  exact h
theorem Zt(c:Array Nat):∀(l:List Edge) (d:Nat) (e:Edge),e∈l->Region.binds .any e=true->Nat.testBit (l.foldl (λs e=>if Region.binds .any e then s ||| 2^e.on ||| c.getD e.on 0 else s) d) e.on=true
 |[],d,e,h,f=>by cases h
 |g::l,d,e,h,f=>by
  simp only[mq];rcases cE.1 h with rfl|h
  ·refine Zo c _ l _ ?_;rw[Z f];simp[tN,vM]
  exact Zt c l _ e h f
theorem ZF:∀(l:List Oper) (acc:Array Nat) (i:Nat) (o:Oper),l[i]?=some o->∀e∈o.after,Region.binds .any e=true->Nat.testBit ((l.foldl fj acc).getD (acc.size+i) 0) e.on=true
 |[],acc,i,o,c=>by simp at c
 |o0::l,acc,i,o,c=>by
  intro e he f;simp only[mq];cases i with
  |zero=>
   simp at c;subst c;have d:acc.size<(fj acc o0).size:=by simp[fj]
   rw[p6,zW l _ _ d];have g:(fj acc o0).getD acc.size 0=o0.after.foldl (λs e=>if Region.binds .any e then s ||| 2^e.on ||| acc.getD e.on 0 else s) 0:=by simp[fj]
   rw[g,<-Array.foldl_toList];exact Zt acc _ 0 e (by simpa using he) f
  |succ i=>
   simp at c;have:=ZF l (fj acc o0) i o c e he f;rwa [show(fj acc o0).size+i=acc.size+(i+1)by simp[fj];omega]at this
theorem z8(p:List Nat)(c:Nat)(j:Nat):∀(l:List Nat) (s:Nat),Nat.testBit (sE p c l s) j=true↔(Nat.testBit s j=true\/(j∈l/\Nat.testBit c (p.getD j 0)=true))
 |[],s=>by simp[sE]
 |k::l,s=>by
  unfold sE;rw[z8 p c j l];cases d:Nat.testBit c (p.getD k 0)with
  |true=>
   simp only[nD,tN,vM,iY,ck,cE];constructor
   ·rintro((h|h)|h)
    ·exact .inl h
    ·subst h;exact .inr ⟨.inl rfl,d⟩
    exact .inr ⟨.inr h.1,h.2⟩
   rintro(h|⟨h|h,h2⟩)
   ·exact .inl (.inl h)
   ·exact .inl (.inr h.symm)
   exact .inr ⟨h,h2⟩
  |false=>
   simp only[cond_false,cE];constructor
   ·rintro(h|h)
    ·exact .inl h
    exact .inr ⟨.inr h.1,h.2⟩
   rintro(h|⟨h|h,h2⟩)
   ·exact .inl h
   ·subst h;rw[d]at h2;cases h2
   exact .inr ⟨h,h2⟩
theorem MD{ops:Array Oper}{M:List aq}(W:CV ops=true)(hc:oh P nt ops ops.toList=some M):∃π,DL P nt ops (zh (M.zip (Region.before ops).toList)) π/\zr ops (zh (M.zip (Region.before ops).toList)) π:=by
 have d:=agm W hc;have g:∀(i:Nat) (x:aq×Nat),(M.zip (Region.before ops).toList)[i]?=some x->∀v:Oper,ops[i]?=some v->∀e∈v.after,Region.binds .any e=true->Nat.testBit x.2 e.on=true:=by
  intro i x r v c e he t;rw[zT]at r;have ad:(Region.before ops).getD i 0=x.2:=by
   have:=r.2;simp at this;simp[this]
  have:=ZF ops.toList #[] i v (by simpa using c) e he t;rw[<-Ab]at this;simpa[ad]using this
 generalize M.zip (Region.before ops).toList=l at d g ⊢;have dc:zr ops l id:=λi x r v c e he t=>⟨e.on,rfl,g i x r v c e he t⟩
 unfold zh;cases XR l with
 |false=>exact⟨id,d,dc⟩
 |true=>
 cases R:D8 l (y7 l)with
 |false=>exact⟨id,d,dc⟩
 |true=>
 simp only[nD];generalize y7 l=p at R ⊢;have hn:l.length=ops.size:=d.len;unfold D8 at R;have z:∀i,i<l.length->p.getD i 0<l.length/\(∃j,j<l.length/\p.getD j 0=i)/\∀j,j<l.length->(i=j\/¬p.getD i 0=p.getD j 0)/\(Nat.testBit (l.getD (p.getD i 0) default).2 (p.getD j 0)=false\/j<i):=by
  intro i hi;have C:=fi.1 R i (vJ.2 hi);simp only[aI]at C;obtain⟨⟨h2,A⟩,h4⟩:=C;refine⟨by simpa using h2,?_,λj B=>?_⟩
  ·obtain⟨j,B,af⟩:=List.any_eq_true.1 A;exact⟨j,vJ.1 B,by simpa using af⟩
  have S:=fi.1 h4 j (vJ.2 B);simp only[aI,iY,Nat.beq_eq_true_eq,j7,Nat.blt_eq]at S;refine⟨S.1.imp vL λh=>?_,S.2⟩;intro he;rw[he]at h;simp at h
 have U:∀i x,(sY l p)[i]?=some x->i<l.length/\x=((l.getD (p.getD i 0) default).1,sE p (l.getD (p.getD i 0) default).2 (List.range l.length) 0):=by
  intro i x r;unfold sY at r;rw[cA]at r;cases u:(List.range l.length)[i]? with
  |none=>rw[u]at r;cases r
  |some q=>
   rw[u]at r;have hi:i<l.length:=by have:=(aL.1 u).1;simpa using this
   rw[List.getElem?_range hi]at u;cases u;cases r;exact⟨hi,rfl⟩
 have aj:∀i,i<l.length->(sY l p)[i]?=some ((l.getD (p.getD i 0) default).1,sE p (l.getD (p.getD i 0) default).2 (List.range l.length) 0):=by
  intro i hi;unfold sY;rw[cA,List.getElem?_range hi];rfl
 have N:∀i,i<l.length->l[i]?=some (l.getD i default):=λi hi=>by simp[hi]
 have hπ:∀i,i<l.length->(if i<ops.size then p.getD i 0 else i)=p.getD i 0:=λi hi=>Z (by omega)
 refine⟨λi=>if i<ops.size then p.getD i 0 else i,⟨by simp[sY,hn],λi hi=>?_,λi hi=>O (by omega),λi j hi B he=>?_,λj B=>?_,λi x r=>?_,λi x r v c j t=>?_,λi v c e he t=>?_⟩,λi x r v c e he t=>?_⟩
 ·simp only[Z hi];have:=(z i (by omega)).1;omega
 ·simp only[Z hi,Z B]at he;exact((z i (by omega)).2.2 j (by omega)).1.resolve_right (λh=>h he)
 ·obtain⟨q,u,f⟩:=(z j (by omega)).2.1;exact⟨q,by omega,by simp only[Z (show q<ops.size by omega)];exact f⟩
 ·obtain⟨hi,rfl⟩:=U i x r;simp only[hπ i hi];exact d.cop _ _ (N _ (z i hi).1)
 ·obtain⟨hi,rfl⟩:=U i x r;simp only[hπ i hi]at c;rw[z8]at t;rcases t with t|⟨B,t⟩
  ·simp at t
  have an:=vJ.1 B;obtain⟨e,C,h2,A⟩:=d.bef _ _ (N _ (z i hi).1) v c _ t;refine⟨e,C,h2,?_⟩;rcases A with A|⟨k,y,H,ao,ar⟩
  ·left;simp only[hπ j an];exact A
  right;have Q:k<l.length:=(aL.1 H).1;obtain⟨q,u,f⟩:=(z k Q).2.1;refine⟨q,_,aj q u,by simp only[hπ q u];rw[f];exact ao,?_⟩;rw[z8];refine .inr ⟨B,?_⟩;rw[f];rw[N k Q]at H;cases H;exact ar
 ·have hi:i<l.length:=by
   rcases nF i ops.size with h|h
   ·omega
   rw[O (by omega)]at c;have:=(oN.1 c).1;omega
  simp only[hπ i hi]at c;have C:=g _ _ (N _ (z i hi).1) v c e he t;obtain⟨q0,h2,A⟩:=d.Jg _ v c e he t;have J:e.on=q0:=A;have K:e.on<l.length:=by rw[J];exact Nat.lt_trans h2 (z i hi).1
  obtain⟨q,u,f⟩:=(z _ K).2.1;refine⟨q,?_,by simp only[hπ q u];exact f.symm⟩;refine(((z i hi).2.2 q u).2).resolve_left ?_;rw[f,C];simp
 obtain⟨hi,rfl⟩:=U i x r;simp only[hπ i hi]at c;have C:=g _ _ (N _ (z i hi).1) v c e he t;obtain⟨q0,h2,A⟩:=d.Jg _ v c e he t;have J:e.on=q0:=A;have K:e.on<l.length:=by rw[J];exact Nat.lt_trans h2 (z i hi).1
 obtain⟨q,u,f⟩:=(z _ K).2.1;refine⟨q,by simp only[hπ q u];exact f.symm,?_⟩;rw[z8];exact .inr ⟨vJ.2 u,by rw[f];exact C⟩
end
def AX.ah8:AX->Exit
 |.nrm=>.normal
 |.exit id=>.exit id
 |.ret=>.ret
section
variable {P:Program} {nt:Nat} {ds:List Deferred} {own:Nat->Prop}
theorem Ll:∀(args:List AV) (i:Nat) (T:Tm) (t:Nat),(th args i T).get t=if i<=t/\t<i+args.length then args[t-i]? else T.get t
 |[],i,T,t=>by simp[th];intro c h2;omega
 |v::args,i,T,t=>by
  simp only[th];rw[Ll args (i+1) (T.put i v) t];by_cases c:t=i
  ·subst c;rw[O (by omega),Tm.kN,Z (by simp)];simp
  by_cases h2:i+1<=t/\t<i+1+args.length
  ·rw[Z h2,Z (by simp;omega)];rw[show t-i=(t-(i+1))+1 by omega];simp
  rw[O h2,Tm.jb _ _ c,O (by simp;omega)]
def uL(c:Array Value):ResultVar->Sem Value
 |.tmp t=>pure (c.getD t Go.undef)
 |.cell x t=>do loadVar t (<-asAddr (c.getD x Go.undef))
theorem Km{β:Bl}{T:Tm}{h:AH}{a:Act}{w:World}(i:Sim nt ds own β T h a w):∀(rs:List ResultVar) (f:List tK) (q:List AV),qT P rs=some f->oH T h f=some q->
  ∃c:List Value,((rs.mapM (uL a.tmps)).run P w =.ok c w)/\RL w.heap (LL own β h.H) β q c
 |[],f,q,d,e=>by
  simp[qT]at d;subst d;simp[oH]at e;subst e;exact⟨[],by simp,RL.nil⟩
 |.tmp t::rs,f,q,d,e=>by
  simp only[qT]at d;split at d
  ·rename_i l y;cases d;simp only[oH]at e;split at e
   ·rename_i z p;cases e;obtain⟨c,A,h2⟩:=Km i rs l z y p;refine⟨a.tmps.getD t Go.undef::c,?_,RL.cons ?_ h2⟩
    ·rw[List.mapM_cons];simp only[uL,dy,fC,ey,A]
    cases B:T.get t with
    |none=>exact .undef _
    |some v=>exact i.tm t v B
   cases e
  cases d
 |.cell t ty::rs,f,q,d,e=>by
  simp only[qT]at d;split at d
  ·rename_i n l M y;cases d;simp only[oH]at e;split at e
   ·rename_i v z j p;cases e;obtain⟨c,A,h2⟩:=Km i rs l z y p;have x:VR w.heap (LL own β h.H) β ((T.get t).getD .undef) (a.tmps.getD t Go.undef):=by
     cases B:T.get t with
     |none=>exact .undef _
     |some v=>exact i.tm t v B
    have J:∃g,(do loadVar ty (<-asAddr (a.tmps.getD t Go.undef)):Sem Value).run P w =.ok g w/\VR w.heap (LL own β h.H) β v g:=by
     cases n with
     |none=>
      obtain⟨N,u,C,Q,R⟩:=Lt i.hp j x;obtain⟨g,k,r⟩:=NJ (P:=P) i.hp M j x;refine⟨g,?_,r⟩;rw[C]at k ⊢;simpa only[Instr.loadAt,Instr.sureAddr,asAddr,dy,fC,ey]using k
     |some n=>
      simp only[jy]at j;obtain⟨cs,j,rfl⟩:=j;obtain⟨N,u,C,_⟩:=J7 i.hp j x;obtain⟨g,k,r⟩:=Nq (P:=P) i.hp M j x;refine⟨g,?_,r⟩;rw[C]at k ⊢;simpa only[Instr.loadAt,Instr.sureAddr,asAddr,dy,fC,ey]using k
    obtain⟨g,k,r⟩:=J;refine⟨g::c,?_,RL.cons r h2⟩;have K:(uL a.tmps (.cell t ty)).run P w =.ok g w:=k;rw[List.mapM_cons];simp only[dy,K,ey,A,fC]
   cases e
  cases d
theorem aa_{d:Func}{e:AFn}(h:cFn P d=some e):d.body.isSome=true:=by
 unfold cFn at h;split at h
 ·rename_i c f;rw[f];rfl
 cases h
