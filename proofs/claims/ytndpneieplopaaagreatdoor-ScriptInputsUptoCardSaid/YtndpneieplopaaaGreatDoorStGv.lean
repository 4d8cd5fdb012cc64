/- Scripts: a part of the proof. -/
import Derived.Test.YtndpneieplopaaaGreatDoorStGf
set_option linter.unusedSimpArgs false
set_option linter.unusedVariables false
noncomputable section
namespace Go.Proofs.YtndpneieplopaaaGreatDoor
open Go.Eng Go.St
structure LL(h hb h':AH)(id:Nat)(x:Sr)(v:Val)(lv:AV)(acc:List Val):Prop where
 ob:Ob h h' id (srC x)
 b:h'.E h.nx=some (vC v)
 r:h'.E (h.nx+1)=some z4
 l5:h'.E (h.nx+2)=some [I 4,I 0,.str [],lv]
 nx:h.nx+3<=h'.nx
 hbn:hb.nx=h.nx+3
 ol:OL 4 hb h' lv acc.length (cw acc)
variable {h hb h':AH}{id:Nat}{x:Sr}{v:Val}{lv:AV}{acc:List Val}
theorem LL.rd(g:LL h hb h' id x v lv acc)(a:id<h.nx)(y:Sr):LL h hb (h'.set id (.cells (srC y))) id y v lv acc:=
 ⟨g.ob.set _,by rw[csn];exact g.b,by rw[csn];exact g.r,by rw[csn];exact g.l5,g.nx,g.hbn,g.ol.set (by have:=g.hbn;omega) _⟩
theorem LL.bump(g:LL h hb h' id x v lv acc){k:Nat}(a:h'.nx<=k):LL h hb ⟨h'.H,k⟩ id x v lv acc:=
 ⟨g.ob.bump _ a,g.b,g.r,g.l5,bf g.nx a,g.hbn,g.ol.bump a⟩
inductive LK1(h hb:AH)(id:Nat)(v:Val)(f:Val->Sr->Val×Sr)(l:List Val)(ALL:List Val)(END:Sr):Nat->List AV->AH->Prop
 |mk {m:Nat} {h':AH} (i:Nat) (x:Sr) (lv:AV) (acc:List Val):x.Ok->i+m=l.length->acc.length<=i->acc++(lkL f (l.drop i) x).1=ALL->(lkL f (l.drop i) x).2=END->LL h hb h' id x v lv acc->LK1 h hb id v f l ALL END m [.ptr id 0,.ptr h.nx 0,.ptr (h.nx+1) 0,.ptr (h.nx+2) 0,I i] h'
inductive LKm(h hb:AH)(id:Nat)(v:Val)(f:Val->Sr->Val×Sr)(l:List Val)(ALL:List Val)(END:Sr)(i:Nat):List AV->AH->Prop
 |mk {h':AH} (x:Sr) (lv:AV) (acc:List Val):x.Ok->acc.length<=i+1->acc++(lkL f (l.drop (i+1)) x).1=ALL->(lkL f (l.drop (i+1)) x).2=END->LL h hb h' id x v lv acc->LKm h hb id v f l ALL END i [.ptr id 0,.ptr h.nx 0,.ptr (h.nx+1) 0,.ptr (h.nx+2) 0,I i] h'
variable {l:List Val}
theorem mC{i:Nat}(a:i<l.length):(vCs l)[i]?=some (vC l[i]):=by
 rw[qH];simp[a]
theorem agb:uS 0:=λ_ _ _ _ _ _ _ a=>a.elim
theorem Q!{n:Nat}(hn:uS n):uS (n+1):=by
 intro h id x ⟨k,nn,s,l⟩ hc hid hx hd;refine o9 hid (kR _) (C36 ?_);have a:LkI h ((h.add (.cells (vC (.mk k nn s l)))).add (.cells z4)) id x (.mk k nn s l):=by
  refine⟨(Ob.start hc).new hid (by simp;omega) λi hi=>?_,?_,?_,by simp⟩
  ·rw[gan,gan]
  ·rw[can];exact cas
  exact cas
 have af:((h.add (.cells (vC (.mk k nn s l)))).add (.cells z4)).nx=h.nx+2:=by simp
 have a7:cL h (.agg (vC (.mk k nn s l)))=some (.ptr h.nx 0,h.add (.cells (vC (.mk k nn s l)))):=rfl;have u:vC (.mk k nn s l)=[I k,I nn,.str s,.psl (vCs l)]:=by simp[vC]
 simp[g36,a7];have B:(h.add (.cells (vC (.mk k nn s l)))).add (.cells [I 0,I 0,.str [],.D])=(h.add (.cells (vC (.mk k nn s l)))).add (.cells z4):=rfl;rw[B];generalize(h.add (.cells (vC (.mk k nn s l)))).add (.cells z4)=h1 at*;have hb:=a.b;rw[u]at hb;have K:(vC (.mk k nn s l))[0]?=some (I k):=by rw[u];rfl
 by_cases k1:k=1
 ·subst k1;simp[K];refine sD (rY (-3) 9 a.ob.c (a.ob.lt hid) ⟨hx,by omega,by omega,by omega⟩) ?_;have a:=a.rd hid (nS x 13);rw[show(9:Int) - -3+1=13 by omega];generalize h1.set id (.cells (srC (nS x 13)))=h2 at*;have U:h2.E (h.nx+1)=some [I 0,I 0,.str [],.D]:=a.r;simp[U];simp only[lk,bt];exact⟨ld il,a.ob.app hid (by simp) λi hi=>by rw[gsn]⟩
 by_cases k2:k=2
 ·subst k2;simp[K];refine sD (n_d 2 a.ob.c (a.ob.lt hid) ⟨hx,by omega⟩) ?_;have a:=a.rd hid (nS x 2);generalize h1.set id (.cells (srC (nS x 2)))=h2 at*;have U:h2.E (h.nx+1)=some [I 0,I 0,.str [],.D]:=a.r;simp[Ua,U];simp only[lk,O k1,bt];exact⟨ld il,a.ob.app hid (by simp) λi hi=>by rw[gsn]⟩
 by_cases k3:k=3
 ·subst k3;simp[K];refine sD (Qa 4 a.ob.c (a.ob.lt hid) ⟨hx,by omega⟩) ?_;have a:=a.rd hid (wdS x 4);generalize h1.set id (.cells (srC (wdS x 4)))=h2 at*;have U:h2.E (h.nx+1)=some [I 0,I 0,.str [],.D]:=a.r;generalize a8:wdV x 4=wd at*;simp[SU,U];simp only[lk,O k1,O k2,bt];rw[a8];exact⟨ld il,a.ob.app hid (by simp) λi hi=>by rw[gsn]⟩
 simp[K,k1,k2,k3];have aj:lk (n+1) (.mk k nn s l) x=(.mk 4 0 [] (lkL (lk n) l x).1,(lkL (lk n) l x).2):=by simp only[lk,O k1,O k2,O k3]
 rw[aj];simp[VF];have al:LL h (h1.add (.cells z4)) ((h1.add (.cells z4)).set (h.nx+2) (.cells [I 4,I 0,.str [],.D])) id x (.mk k nn s l) .D []:=by
  refine⟨a.ob.app hid (by simp) λi hi=>by rw[gsn,gan],?_,?_,cse,by simp;omega,by simp;omega,OL.start _ _ _⟩
  ·rw[csn,can];exact a.b
  rw[csn,can];exact a.r
 have o:(h1.add (.cells [I 0,I 0,.str [],.D])).set h1.nx (.cells [I 4,I 0,.str [],.D])=(h1.add (.cells z4)).set (h.nx+2) (.cells [I 4,I 0,.str [],.D]):=by rw[af];rfl
 rw[o,af];obtain⟨j,N⟩:∃j,j=h1.add (.cells z4):=⟨_,rfl⟩;rw[<-N]at al ⊢;generalize j.set (h.nx+2) (.cells [I 4,I 0,.str [],.D])=h2 at*;have hlen:l.length<=10:=hd.1;have ba:=hd.2;clear aj N o B a hb;refine⟨LK1 h j id (.mk k nn s l) (lk n) l (lkL (lk n) l x).1 (lkL (lk n) l x).2,l.length,.mk 0 x .D [] hx (by omega) (by simp) rfl rfl al,?_⟩;generalize ca:(lkL (lk n) l x).1=an at*;generalize cb:(lkL (lk n) l x).2=ao at*;rintro m vs h3 ⟨i,y,lv,acc,hy,cc,ar,G,J,g⟩;have hb:=g.b;rw[u]at hb;have av:bn h3 (.psl (vCs l))=some (I l.length,h3):=by simp[gP]
 have cd:(vC (.mk k nn s l))[3]?=some (.psl (vCs l)):=by rw[u];rfl
 cases m with
 |zero=>
  have V:¬(i:Int)<l.length:=by omega
  have bb:l.drop i=[]:=gp (by omega);rw[bb]at G J;have bd:acc=an:=by rw[<-G];simp[lkL]
  have bk:y=ao:=J;subst bd;subst bk;have U:=g.r;have h5:=g.l5;have bp:h3.E (h.nx+1)=some [I 0,I 0,.str [],.D]:=U;have z:=kx g.ol;simp[H7,hb,av,V,SX,FV,h5,bp,z];have hbn:=g.hbn;have bs:OL 4 j (h3.set (h.nx+1) (.cells [I 4,I 0,.str [],lv])) lv acc.length (cw acc):=g.ol.aY (ay _) λi hi _=>by rw[gsn]
  exact⟨ld (sn bs (by omega)),g.ob.app hid (ay _) λi hi=>by rw[gsn]⟩
 |succ m=>
  have hi:i<l.length:=by omega
  have V:(i:Int)<l.length:=by omega
  simp[H7,hb,av,V];rw[ig hi]at G J;refine⟨LKm h j id (.mk k nn s l) (lk n) l an ao i,?_,?_⟩
  ·simp[Tf];refine sD (n_d 3 g.ob.c (g.ob.lt hid) ⟨hy,by omega⟩) ?_;have g:=g.rd hid (nS y 3);have W:=aN hy 3;generalize h3.set id (.cells (srC (nS y 3)))=e at*;by_cases M:0<nV y 3
   ·rw[lkL,Z M]at G J;have aw:=g.b;rw[u]at aw;have bx:=g.l5;have bY:aC ⟨e.H,e.nx+13⟩ 4 (.psl (vCs l)) (I i)=some (.ai (vC l[i]),⟨e.H,e.nx+13⟩):=gQ (mC hi) (ch _);have a6:cut (vC l[i]) 0 4=some (vC l[i]):=by
     have:=cS (α:=vC l[i]) (b:=[]) (n:=4) (ch _);rwa [bO]at this
    simp[M,bx,WX,aw,bY,a6];have g0:=g;have g:=g.bump (k:=e.nx+13) (by omega);refine XM hn l[i] g.ob.c (g.ob.lt hid) W (ba _ (gG hi)) ?_;refine⟨by simp,?_⟩;have b0:=y2 n l[i] (nS y 3) W;have g:=g.rd hid (lk n l[i] (nS y 3)).2;have b1:bT (.read (h.nx+2)) (.eff ⟨e.H,e.nx+13⟩ ((AH.mk e.H (e.nx+13)).set id (.cells (srC (lk n l[i] (nS y 3)).2))))=true:=kM _ _ _ _ (by omega);have b2:∀q,q≠id->((AH.mk e.H (e.nx+13)).set id (.cells (srC (lk n (l[i]'hi) (nS y 3)).2))).H.get q=e.H.get q:=λq hq=>by rw[dQ,O hq]
    have cf:((AH.mk e.H (e.nx+13)).set id (.cells (srC (lk n (l[i]'hi) (nS y 3)).2))).nx=e.nx+13:=rfl;generalize(AH.mk e.H (e.nx+13)).set id (.cells (srC (lk n (l[i]'hi) (nS y 3)).2))=h5 at*;generalize lk n (l[i]'hi) (nS y 3)=R at*;obtain⟨w,y'⟩:=R;simp only at*;have b3:aQ [I 0,I 0,.str [],.D] [(0,4,.agg (vC w))]=some (vC w):=by cases w;simp only[vC];rfl
    have cl:=g0.nx;have hbn:=g0.hbn;have l6:OL 4 j (h5.set (e.nx+9) (.cells (vC w))) lv acc.length (cw acc):=g0.ol.aY (by simp;omega) λq b4 aS=>by rw[gsn,b2 q (by omega)]
    obtain⟨ad,h7,k7,aT,a1,b5⟩:=qf (bytes:=56) l6 (by simp;omega) cse (ch w) (jd w) (by omega) (by omega);have z:=kx aT;have e7:∀q,q<e.nx->q<j.nx->h7.H.get q=h5.H.get q:=λq b4 aS=>by rw[b5 q aS,gsn]
    have b6:h7.E (h.nx+2)=some [I 4,I 0,.str [],lv]:=by rw[aV (e7 _ (by omega) (by omega))];exact g.l5
    have b7:kSt h7 1 (.ptr (h.nx+2) 3) ad=some (.undef,h7.set (h.nx+2) (.cells [I 4,I 0,.str [],ad])):=wD z b6 rfl;rw[b3];simp[];refine gS k7 (by simp only[pA]at a1 ⊢; omega) ?_;refine gS b7 (by simp) ?_;refine⟨b1,by omega,?_⟩;simp only[pA]at a1;refine .mk y' ad (acc++[w]) b0 (by simp;omega) (by rw[<-G];simp) J ⟨?_,?_,?_,cse,by simp;omega,hbn,?_⟩
    ·exact g.ob.app hid (by simp;omega) λq hq=>by rw[gsn,e7 q (by omega) (by omega)]
    ·rw[csn,aV (e7 _ (by omega) (by omega))];exact g.b
    ·rw[csn,aV (e7 _ (by omega) (by omega))];exact g.r
    rw[rD,au];exact aT.aY (by simp) λq hq _=>by rw[gsn]
   rw[lkL,O M]at G J;simp[M];exact .mk _ _ _ W (by omega) G J g
  rintro vs e ⟨y,lv,acc,hy,ar,G,J,g⟩;simp(disch:=first|go_size|fail)[UX];exact⟨m,by omega,.mk (i+1) y lv acc hy (by omega) ar G J g⟩
open Tryz
def iR:List Int:=[0,1,2,3, -1,7,10,1099511627776, -1099511627776,1099511627775]
def vaN(x:Sr):Val×Sr:=(.mk 1 (iR.getD (nV x 10).toNat 0) [] [],nS x 10)
def vaB(x:Sr):Val×Sr:=(.mk 2 (nV x 2) [] [],nS x 2)
def vaT(x:Sr):Val×Sr:=(.mk 3 0 (wdV x 4) [],wdS x 4)
def lkV(d:Nat)(v:Val)(y:Sr):Val:=(lk d v y).1
def lkS(d:Nat)(v:Val)(y:Sr):Sr:=(lk d v y).2
def vaL(f:Sr->Val×Sr)(d:Nat)(x:Sr):Val×Sr:=
 if 0<nV x 4 then(.mk 4 0 [] ((f (nS x 4)).1::itV (lkV d (f (nS x 4)).1) (lkS d (f (nS x 4)).1) ((nV x 4).toNat-1) (f (nS x 4)).2),itS (lkS d (f (nS x 4)).1) ((nV x 4).toNat-1) (f (nS x 4)).2)else(.mk 4 0 [] [],nS x 4)
def vaW(L:Sr->Val×Sr)(x:Sr):Val×Sr:=if nV x 5=0 then vaB (nS x 5)else if nV x 5=1\/nV x 5=2 then vaT (nS x 5)else if nV x 5=3 then L (nS x 5)else vaN (nS x 5)
def va:Nat->Sr->Val×Sr
 |0,x=>vaW vaN x
 |d+1,x=>vaW (vaL (va d) (d+1)) x
theorem aex(d:Nat)(v:Val):∀x:Sr,x.Ok->(lkS d v x).Ok:=λx a=>y2 d v x a
variable {f:Sr->Val×Sr}
theorem aeA(b:∀x:Sr,x.Ok->(f x).2.Ok)(d:Nat)(a:x.Ok):(vaL f d x).2.Ok:=by
 unfold vaL;split
 ·exact qw (aex d _) _ _ (b _ (aN a _))
 exact aN a _
variable {L:Sr->Val×Sr}
theorem WN(b:∀x:Sr,x.Ok->(L x).2.Ok)(a:x.Ok):(vaW L x).2.Ok:=by
 unfold vaW
 (repeat' split)
 ·exact aN (aN a _) _
 ·exact T7 (aN a _) _
 ·exact b _ (aN a _)
 exact aN (aN a _) _
theorem y4:∀(d:Nat) (x:Sr),x.Ok->(va d x).2.Ok
 |0,x,h=>WN (λx a=>aN a _) h
 |d+1,x,h=>WN (λx a=>aeA (y4 d) _ a) h
variable {α:Type}{S:Sr->Sr}
theorem r4{V:Sr->α}{p:α->Prop}(h:∀x,p (V x)):∀n x,∀u∈itV V S n x,p u
 |0,_,u,hu=>by simp[itV]at hu
 |n+1,x,u,hu=>by
  rcases cE.1 hu with rfl|hu
  ·exact h _
  exact r4 h n _ u hu
variable {d:Nat}
theorem aeL(b:∀x,dp d (f x).1)(x:Sr):dp (d+1) (vaL f d x).1:=by
 have h2:=dr x (show(1:Int)<=4 by omega);unfold vaL;split
 ·refine⟨by rw[aF,nW];omega,λv a=>?_⟩;rcases cE.1 a with rfl|a
  ·exact b _
  exact r4 (p:=dp d) (λy=>XC d _ y (b _)) _ _ v a
 exact⟨by simp,by simp⟩
theorem Uj(a:∀x,dp (d+1) (L x).1)(x:Sr):dp (d+1) (vaW L x).1:=by
 unfold vaW
 (repeat' split)
 ·exact⟨by simp,by simp⟩
 ·exact⟨by simp,by simp⟩
 ·exact a _
 exact⟨by simp,by simp⟩
theorem Yh:∀(d:Nat) (x:Sr),dp (d+1) (va d x).1
 |0,x=>Uj (L:=vaN) (d:=0) (λ_=>⟨by simp,by simp⟩) x
 |d+1,x=>Uj (d:=d+1) (λy=>aeL (Yh d) y) x
def tI(d:Nat):Prop:=∀(h:AH) (id:Nat) (x:Sr),h.E id=some (srC x)->id<h.nx->x.Ok->ab prog 22 [.ptr id 0,I d] h (.agg (vC (va d x).1)) (h.set id (.cells (srC (va d x).2)))
variable {Q:QT}
theorem ahn(b:tI d)(e:h.E id=some (srC x))(a:id<h.nx)(g:x.Ok)
  (j:Q (.agg (vC (va d x).1)) (h.set id (.cells (srC (va d x).2)))):tU prog 22 [.ptr id 0,I d] h Q:=sD (b h id x e a g) j
inductive VJ(h:AH)(id:Nat)(x1:Sr)(R:Val×Sr):AX->List AV->AH->Prop
 |ret {h':AH} (a c1 c2 c3 c4:AV):h'.E h.nx=some [c1,c2,c3,c4]->bU (fresh h' h.nx) false [c1,c2,c3,c4] (vC R.1)->Ob h h' id (srC R.2)->VJ h id x1 R .ret [a,.ptr h.nx 0] h'
 |nrm {h':AH}:R=vaN x1->Ob h h' id (srC x1)->h'.E h.nx=some z4->h.nx+1<=h'.nx->VJ h id x1 R .nrm [.ptr id 0,.ptr h.nx 0] h'
variable {x1:Sr}{R:Val×Sr}{vs:LA}
theorem agE{x:AX}(g:id<h.nx)(w:x1.Ok)(j:VJ h id x1 R x vs h'):
  yv x (aa vs 0) (aa vs 1) h' λv h2=>Frz (fresh h2 h.nx) false v (.agg (vC R.1))/\Ob h h2 id (srC R.2):=by
 cases j with
 |ret a c1 c2 c3 c4 V W b=>
  simp[yv,V];exact⟨W,b⟩
 |nrm s b o hn=>
  subst s;have z:aQ [I 0,I 0,I 0,I 0,I 0,I 0,I 0,I 0,I 0,I 0] [(0,1,(I 0)),(1,1,(I 1)),(2,1,(I 2)),(3,1,(I 3)),(4,1,(I (-1))),(5,1,(I 7)),(6,1,(I 10)),(7,1,(I 1099511627776)),(8,1,(I (-1099511627776))),(9,1,(I 1099511627775))]=some (iR.map λn=>I n):=rfl;unfold yv;simp[z];have b:=b.new g (h2:=h'.add (.cells (iR.map λn=>I n))) (by simp) λi hi=>by rw[gan]
  have e:(h'.add (.cells (iR.map λn=>I n))).E h'.nx=some (iR.map λn=>I n):=cas;have o:(h'.add (.cells (iR.map λn=>I n))).E h.nx=some z4:=by rw[can];exact o
  have B:h'.nx≠id:=by omega
  have U:h'.nx≠h.nx:=by omega
  generalize h'.add (.cells (iR.map λn=>I n))=u at*;generalize h'.nx=K at*;refine sD (n_d 10 b.c (b.lt g) ⟨w,by omega⟩) ?_;have b:=b.set (srC (nS x1 10));have e:(u.set id (.cells (srC (nS x1 10)))).E K=some (iR.map λn=>I n):=by rw[csn B];exact e
  have o:(u.set id (.cells (srC (nS x1 10)))).E h.nx=some [I 0,I 0,.str [],.D]:=by rw[csn];exact o
  have n1:=dK x1 10;have n2:=dr x1 (show(1:Int)<=10 by omega);obtain⟨q,M⟩:=kL n1;have r:=Ip (L:=iR) (a:=q) (by show q<10;omega);have s:vaN x1=(.mk 1 (iR.getD q 0) [] [],nS x1 10):=by unfold vaN;rw[M];rfl
  rw[s,M];generalize iR.getD q 0=y at*;generalize u.set id (.cells (srC (nS x1 10)))=h4 at*;have G:=uT h4 K 10 q (by omega);obtain⟨N,J⟩:∃N,N=iR.map (λn=>I n):=⟨_,rfl⟩;rw[<-J]at r e;simp[UP,G,e,r,o];exact⟨ld il,b.app g (by simp) λi hi=>by rw[gsn]⟩
structure V1(h h':AH)(id:Nat)(x:Sr):Prop where
 ob:Ob h h' id (srC x)
 r:h'.E h.nx=some z4
 nx:h'.nx=h.nx+1
theorem V1.rd(g:V1 h h' id x)(a:id<h.nx)(y:Sr):V1 h (h'.set id (.cells (srC y))) id y:=
 ⟨g.ob.set _,by rw[csn];exact g.r,g.nx⟩
def IW(d:Nat)(L:Sr->Val×Sr):Prop:=∀(h h1:AH) (id:Nat) (x1:Sr) (K:AX->NT),id<h.nx->x1.Ok->V1 h h1 id x1->(∀x vs h',VJ h id x1 (L x1) x vs h'->K x vs h')->r6 (.ptr id 0) (I d) (.ptr h.nx 0) (I 3) (.bool false) h1 K
theorem B5(K:IW d L)(z:∀x,va d x=vaW L x):tI d:=by
 intro h id x M hid J;refine o9 hid (kR _) (C22 ?_);rw[z];simp[g22];have a:V1 h (h.add (.cells z4)) id x:=⟨(Ob.start M).new hid (by simp) λi hi=>by rw[gan],cas,by simp⟩;have s:h.add (.cells [I 0,I 0,.str [],.D])=h.add (.cells z4):=rfl;rw[s];generalize h.add (.cells z4)=h1 at*;refine sD (n_d 5 a.ob.c (a.ob.lt hid) ⟨J,by omega⟩) ?_;have a:=a.rd hid (nS x 5);have o:=aN J 5;have n1:=dK x 5;have N:=dr x (show(1:Int)<=5 by omega);have g:vaW L x=if nV x 5=0 then vaB (nS x 5)else if nV x 5=1\/nV x 5=2 then vaT (nS x 5)else if nV x 5=3 then L (nS x 5)else vaN (nS x 5):=rfl
 generalize h1.set id (.cells (srC (nS x 5)))=h2 at*;generalize vaW L x=R at*;generalize nV x 5=c at*;generalize nS x 5=x1 at*;refine⟨VJ h id x1 R,?_,λy vs h' j=>agE hid o j⟩;by_cases c0:c=0
 ·subst c0;rw[Z rfl]at g;simp[ya];refine sD (n_d 2 a.ob.c (a.ob.lt hid) ⟨o,by omega⟩) ?_;have a:=a.rd hid (nS x1 2);generalize h2.set id (.cells (srC (nS x1 2)))=u at*;have w:u.E h.nx=some [I 0,I 0,.str [],.D]:=a.r;simp[w];subst g;exact .ret _ _ _ _ _ cse (ld il) (a.ob.app hid (by simp) λi hi=>by rw[gsn])
 rw[O c0]at g;have U:∀(b:Bool) ,(c=1\/c=2->R=vaT x1)->True:=λ_ _=>trivial
 by_cases c1:c=1\/c=2
 ·rw[Z c1]at g;have key:r6 (.ptr id 0) (I d) (.ptr h.nx 0) (I c) (.bool true) h2 (VJ h id x1 R):=by
   simp[r6];refine sD (Qa 4 a.ob.c (a.ob.lt hid) ⟨o,by omega⟩) ?_;have a:=a.rd hid (wdS x1 4);generalize h2.set id (.cells (srC (wdS x1 4)))=u at*;have w:u.E h.nx=some [I 0,I 0,.str [],.D]:=a.r;subst g;unfold vaT;generalize wdV x1 4=wd at*;simp[w];exact .ret _ _ _ _ _ cse (ld il) (a.ob.app hid (by simp) λi hi=>by rw[gsn])
  simp[ya,c0];refine⟨λvs h'=>vs=[.ptr id 0,I d,.ptr h.nx 0,I c,.bool true]/\h'=h2,?_,?_⟩
  ·rcases c1 with rfl|rfl
   ·simp[yK]
   simp[yK]
  rintro vs h' ⟨rfl,rfl⟩;exact key
 rw[O c1]at g;have B:¬c=1:=λe=>c1 (.inl e)
 have G:¬c=2:=λe=>c1 (.inr e)
 simp[ya,c0];refine⟨λvs h'=>vs=[.ptr id 0,I d,.ptr h.nx 0,I c,.bool false]/\h'=h2,?_,?_⟩
 ·simp[yK,B,G]
 rintro vs h' ⟨rfl,rfl⟩;by_cases c3:c=3
 ·rw[Z c3]at g;subst c3;subst g;exact K h h' id x1 _ hid o a λ_ _ _ j=>j
 rw[O c3]at g;simp[r6,c3];exact .nrm g a.ob a.r (by have:=a.nx;omega)
theorem ahE:IW 0 vaN:=by
 intro h h1 id x1 K hid e a b;simp[r6];exact b _ _ _ (.nrm rfl a.ob a.r (by have:=a.nx;omega))
theorem va0:tI 0:=B5 (d:=0) ahE λx=>rfl
structure V2(h hb h':AH)(id:Nat)(x:Sr)(lv:AV)(acc:List Val):Prop where
 ob:Ob h h' id (srC x)
 r:h'.E h.nx=some z4
 l5:h'.E (h.nx+1)=some [I 4,I 0,.str [],lv]
 nx:h.nx+2<=h'.nx
 hbn:h.nx+2<=hb.nx
 nh:hb.nx<=h'.nx
 ol:OL 4 hb h' lv acc.length (cw acc)
theorem V2.rd(g:V2 h hb h' id x lv acc)(a:id<h.nx)(y:Sr):V2 h hb (h'.set id (.cells (srC y))) id y lv acc:=
 ⟨g.ob.set _,by rw[csn];exact g.r,by rw[csn];exact g.l5,g.nx,g.hbn,g.nh,g.ol.set (by have:=g.hbn;omega) _⟩
theorem V2.bump(g:V2 h hb h' id x lv acc){k:Nat}(a:h'.nx<=k):V2 h hb ⟨h'.H,k⟩ id x lv acc:=
 ⟨g.ob.bump _ a,g.r,g.l5,bf g.nx a,g.hbn,bf g.nh a,g.ol.bump a⟩
inductive VLm(h:AH)(id:Nat)(R:Val×Sr):List AV->AH->Prop
 |mk {h':AH} (hb:AH) (x:Sr) (lv:AV) (acc:List Val):V2 h hb h' id x lv acc->R=(.mk 4 0 [] acc,x)->VLm h id R [.ptr h.nx 0,.ptr (h.nx+1) 0] h'
inductive VL1(h hb:AH)(id k7:Nat)(n:Int)(w:Val)(d:Nat)(R:Val×Sr):Nat->List AV->AH->Prop
 |mk {m:Nat} {h':AH} (i:Nat) (x:Sr) (lv:AV) (acc:List Val):x.Ok->(i:Int)+m=n->acc.length<=i->R=(.mk 4 0 [] (acc++itV (lkV d w) (lkS d w) m x),itS (lkS d w) m x)->V2 h hb h' id x lv acc->h'.E k7=some (vC w)->VL1 h hb id k7 n w d R m [.ptr id 0,.ptr h.nx 0,.ptr (h.nx+1) 0,I n,.ptr k7 0,I i] h'
theorem NV(hd:d<=10)(hv:tI d)(hk:uS (d+1)):IW (d+1) (vaL (va d) (d+1)):=by
 intro h h1 id x1 K hid aS G hK;have cd:(0:Int)<((d+1:Nat):Int):=by omega
 have aT:=G.nx;simp[r6];have V:V2 h (h1.add (.cells z4)) ((h1.add (.cells z4)).set (h.nx+1) (.cells [I 4,I 0,.str [],.D])) id x1 .D []:=by
  refine⟨G.ob.app hid (by simp) λi hi=>by rw[gsn,gan],?_,cse,by simp;omega,by simp;omega,by simp,OL.start _ _ _⟩;rw[csn,can];exact G.r
 have o:((h1.add (.cells z4)).set (h.nx+1) (.cells [I 4,I 0,.str [],.D])).nx=h.nx+2:=by simp;omega
 have B:(h1.add (.cells [I 0,I 0,.str [],.D])).set h1.nx (.cells [I 4,I 0,.str [],.D])=(h1.add (.cells z4)).set (h.nx+1) (.cells [I 4,I 0,.str [],.D]):=by rw[aT];rfl
 rw[B,aT];obtain⟨ad,an⟩:∃ad,ad=h1.add (.cells z4):=⟨_,rfl⟩;rw[<-an]at V o ⊢;generalize ad.set (h.nx+1) (.cells [I 4,I 0,.str [],.D])=h2 at*;clear B an G;refine sD (n_d 4 V.ob.c (V.ob.lt hid) ⟨aS,by omega⟩) ?_;have G:=V.rd hid (nS x1 4);have a1:=aN aS 4;have n1:=dK x1 4;have n2:=dr x1 (show(1:Int)<=4 by omega);have hR:vaL (va d) (d+1) x1=if 0<nV x1 4 then(.mk 4 0 [] ((va d (nS x1 4)).1::itV (lkV (d+1) (va d (nS x1 4)).1) (lkS (d+1) (va d (nS x1 4)).1) ((nV x1 4).toNat-1) (va d (nS x1 4)).2),itS (lkS (d+1) (va d (nS x1 4)).1) ((nV x1 4).toNat-1) (va d (nS x1 4)).2)else(.mk 4 0 [] [],nS x1 4):=rfl
 have o:(h2.set id (.cells (srC (nS x1 4)))).nx=h.nx+2:=o;generalize h2.set id (.cells (srC (nS x1 4)))=h3 at*;generalize vaL (va d) (d+1) x1=R at*;generalize nV x1 4=n at*;generalize nS x1 4=x2 at*;clear V;have hj:∀vs h',VLm h id R vs h'->Ho (aa vs 0) (aa vs 1) h' K:=by
  rintro vs h' ⟨hb,y,lv,acc,g,a6⟩;have N:=g.l5;have b0:h'.E h.nx=some [I 0,I 0,.str [],.D]:=g.r;have e:=kx g.ol;simp[Ho,N,b0,e];refine hK _ _ _ ?_;have hbn:=g.hbn;have b1:OL 4 hb (h'.set h.nx (.cells [I 4,I 0,.str [],lv])) lv acc.length (cw acc):=g.ol.aY (ay _) λi hi _=>by rw[gsn]
  refine .ret _ _ _ _ _ cse ?_ ?_
  ·rw[a6];exact ld (sn b1 (by omega))
  rw[a6];exact g.ob.app hid (ay _) λi hi=>by rw[gsn]
 by_cases hn:0<n
 ·rw[Z hn]at hR;simp[hn];refine⟨VLm h id R,?_,hj⟩;have bY:∀h:AH,aG h .sub (I ((d:Int)+1)) (I 1)=some (I d,h):=λh=>by rw[G? _ _ _ (by omega) (by omega),show(d:Int)+1-1=d by omega]
  simp[FW,bY];refine ahn hv G.ob.c (G.ob.lt hid) a1 ?_;have G:=G.rd hid (va d x2).2;have a7:=y4 d x2 a1;have b2:=Yh d x2;have o:(h3.set id (.cells (srC (va d x2).2))).nx=h.nx+2:=o;generalize h3.set id (.cells (srC (va d x2).2))=z at*;generalize va d x2=F at*;obtain⟨w,x3⟩:=F;simp only at*;have hw:aQ [I 0,I 0,.str [],.D] [(0,4,.agg (vC w))]=some (vC w):=by cases w;simp only[vC];rfl
  have ao:cut (vC w) 0 4=some (vC w):=by
   have:=cS (α:=vC w) (b:=[]) (n:=4) (ch _);rwa [bO]at this
  have J:=Qd (n:=4) (off:=0) (ch w) (jd w) (vQ z z4 z.nx rfl) (iH (by rw[ch];rfl));have J:kSt (z.add (.cells [I 0,I 0,.str [],.D])) 4 (.ptr z.nx 0) (.agg (vC w))=some (.undef,(z.add (.cells z4)).set z.nx (.cells (vC w))):=J;simp only[y5,sC,iT,C1,qi];rw[J];have b3:((z.add (.cells z4)).set z.nx (.cells (vC w))).nx=h.nx+3:=by simp;omega
  have W:∀i,i<h.nx+2->((z.add (.cells z4)).set z.nx (.cells (vC w))).H.get i=z.H.get i:=λi hi=>by rw[gsn,gan]
  have af:((z.add (.cells z4)).set z.nx (.cells (vC w))).E (h.nx+2)=some (vC w):=by rw[<-o];exact cse
  rw[o]at W af b3 ⊢;generalize(z.add (.cells z4)).set (h.nx+2) (.cells (vC w))=N at*;have av:N.E (h.nx+1)=some [I 4,I 0,.str [],.D]:=by rw[aV (W _ (by omega))];exact G.l5
  have a8:Ob h N id (srC x3):=G.ob.app hid (by omega) λi hi=>W i (by omega)
  have ba:N.E h.nx=some z4:=by rw[aV (W _ (by omega))];exact G.r
  simp[av,af,ao,hw];obtain⟨a,U,k7,M,aj,s⟩:=kt (OL.start 4 N N) (ay _) (tc:=vC w) (ch w) (jd w) (by omega) (bytes:=56) (by omega);have e:=kx M;have al:U.E (h.nx+1)=some [I 4,I 0,.str [],.D]:=by rw[aV (s _ (by omega))];exact av
  have ar:kSt U 1 (.ptr (h.nx+1) 3) a=some (.undef,U.set (h.nx+1) (.cells [I 4,I 0,.str [],a])):=wD e al rfl;simp[V_,k7];rw[ar];simp[];have g8:V2 h N (U.set (h.nx+1) (.cells [I 4,I 0,.str [],a])) id x3 a [w]:=by
   refine⟨a8.app hid (by simp;omega) λi hi=>by rw[gsn,s i (by omega)],?_,cse,by simp;omega,by omega,by simp;omega,?_⟩
   ·rw[csn,aV (s _ (by omega))];exact ba
   have:cw [w]=[]++vC w:=by simp[cw,vCs]
   rw[this];exact M.aY (by simp) λi hi _=>by rw[gsn]
  have bb:(U.set (h.nx+1) (.cells [I 4,I 0,.str [],a])).E (h.nx+2)=some (vC w):=by rw[csn,aV (s _ (by omega))];exact af
  generalize U.set (h.nx+1) (.cells [I 4,I 0,.str [],a])=h8 at*;have b4:∃m:Nat,(1:Int)+m=n:=⟨n.toNat-1,by omega⟩;obtain⟨m0,bd⟩:=b4;rw[show n.toNat-1=m0 by omega]at hR;refine⟨VL1 h N id (h.nx+2) n w (d+1) R,m0,.mk 1 x3 a [w] a7 bd (by simp) hR g8 bb,?_⟩;clear g8 bb e al ar k7 M aj s hR J bd a7 ba a8 av W af;rintro m vs j ⟨i,x,lv,acc,hx,cf,cl,hR,g,bk⟩;cases m with
  |zero=>
   have aw:¬(i:Int)<n:=by omega
   simp[Fl,aw,Tb,E0];exact .mk N x lv acc g (by rw[hR];simp[itV,itS])
  |succ m=>
   have aw:(i:Int)<n:=by omega
   have b5:=g.l5;simp[Fl,aw,b5,bk,ao];have g0:=g;have g:=g.bump (k:=j.nx+9) (by omega);refine XM hk w g.ob.c (g.ob.lt hid) hx b2 ?_;refine⟨by simp,?_⟩;have b6:=y2 (d+1) w x hx;have g:=g.rd hid (lk (d+1) w x).2;have b7:bT (.read (h.nx+1)) (.eff ⟨j.H,j.nx+9⟩ ((AH.mk j.H (j.nx+9)).set id (.cells (srC (lk (d+1) w x).2))))=true:=kM _ _ _ _ (by omega);have bp:∀q,q≠id->((AH.mk j.H (j.nx+9)).set id (.cells (srC (lk (d+1) w x).2))).H.get q=j.H.get q:=λq hq=>by rw[dQ,O hq]
   have cc:((AH.mk j.H (j.nx+9)).set id (.cells (srC (lk (d+1) w x).2))).nx=j.nx+9:=rfl;have e1:lkV (d+1) w x=(lk (d+1) w x).1:=rfl;have e2:lkS (d+1) w x=(lk (d+1) w x).2:=rfl;simp only[itV,itS,e1,e2]at hR;generalize(AH.mk j.H (j.nx+9)).set id (.cells (srC (lk (d+1) w x).2))=bs at*;generalize lk (d+1) w x=RR at*;obtain⟨u,y'⟩:=RR;simp only at*;have ca:aQ [I 0,I 0,.str [],.D] [(0,4,.agg (vC u))]=some (vC u):=by cases u;simp only[vC];rfl
   have cn:=g0.nx;have hbn:=g0.hbn;have nh:=g0.nh;have l6:OL 4 N (bs.set (j.nx+5) (.cells (vC u))) lv acc.length (cw acc):=g0.ol.aY (by simp;omega) λq cb bx=>by rw[gsn,bp q (by omega)]
   obtain⟨a,U,k7,M,aj,s⟩:=qf (bytes:=56) l6 (by simp;omega) cse (ch u) (jd u) (by omega) (by omega);have e:=kx M;have e7:∀q,q<j.nx->q<N.nx->U.H.get q=bs.H.get q:=λq cb bx=>by rw[s q bx,gsn]
   have al:U.E (h.nx+1)=some [I 4,I 0,.str [],lv]:=by rw[aV (e7 _ (by omega) (by omega))];exact g.l5
   have J:kSt U 1 (.ptr (h.nx+1) 3) a=some (.undef,U.set (h.nx+1) (.cells [I 4,I 0,.str [],a])):=wD e al rfl;rw[ca];simp[];refine gS k7 (by simp only[pA]at aj ⊢; omega) ?_;simp(disch:=first|go_size|fail)[Wz];refine gS J (by simp) ?_;simp only[pA]at aj;refine⟨b7,by omega,m,by omega,?_⟩;refine .mk (i+1) y' a (acc++[u]) b6 (by omega) (by simp;omega) (by rw[hR];simp) ⟨?_,?_,cse,by simp;omega,hbn,by simp;omega,?_⟩ ?_
   ·exact g.ob.app hid (by simp;omega) λq hq=>by rw[gsn,e7 q (by omega) (by omega)]
   ·rw[csn,aV (e7 _ (by omega) (by omega))];exact g.r
   ·rw[rD,au];exact M.aY (by simp) λq hq _=>by rw[gsn]
   rw[csn,aV (e7 _ (by omega) (by omega)),aV (bp _ (by omega))];exact bk
 rw[O hn]at hR;simp[hn];refine⟨VLm h id R,?_,hj⟩;simp[FW];exact .mk ad x2 .D [] G hR
theorem IJ:∀n,uS n
 |0=>agb
 |n+1=>Q! (IJ n)
theorem va1:tI 1:=B5 (d:=1) (NV (by omega) va0 (IJ 1)) λx=>rfl
theorem va2:tI 2:=B5 (d:=2) (NV (by omega) va1 (IJ 2)) λx=>rfl
theorem aaO(b:h.E id=some (srC x))(a:id<h.nx)(e:x.Ok):ab prog 22 [.ptr id 0,I 2] h (.agg (vC (va 2 x).1)) (h.set id (.cells (srC (va 2 x).2))):=va2 h id x b a e
structure Inp where
 kind:Int
 pk:Int
 pid:Int
 px:Int
 py:Int
 pt:Int
 pw:Int
 key:Int
 cH:Int
 time:Int
 sw:Int
 sh:Int
 dv:Bool
 high:Bool
 scale:Int
 args:List Val
 ver:Int
 node:Int
 act:Int
 frm:Int
 too:Int
 rt:Str
 tk:Int
 t:List Int
 ct:List Int
 cr:List (Int×Int)
 unit:Int
 dir:Int
 ext:Bool
 n:Int
 a:Int
 b:Int
 x:Int
 y:Int
 dE:Int
 cls:List (Int×Bool)
 tt:Int
def Inp.z:Inp:=⟨0,0,0,0,0,0,0,0,0,0,0,0,false,false,0,[],0,0,0,0,0,[],0,[],[],[],0,0,false,0,0,0,0,0,0,[],0⟩
def inG(i:Inp)(A T CT CR C:AV):LA:=
 [I i.kind,I i.pk,I i.pid,I i.px,I i.py,I i.pt,I i.pw,I i.key,I i.cH,I i.time,I i.sw,I i.sh,.bool i.dv,.bool i.high,I i.scale,A,I i.ver,I i.node,I i.act,I i.frm,I i.too,.str i.rt,I i.tk,T,CT,CR,I i.unit,I i.dir,.bool i.ext,I i.n,I i.a,I i.b,I i.x,I i.y,I i.dE,C,I i.tt]
def cbC(l:List (Int×Bool)):List (LA):=l.map λp=>[I p.1,.bool p.2]
theorem adg(l:List (Int×Bool)):∀y∈cbC l,y.length=2:=by
 intro y a;obtain⟨p,_,rfl⟩:=eK.1 a;rfl
theorem Qo(l:List (Int×Bool)):∀y∈cbC l,∀(H:AH) (j:Nat) (c:AV),y[j]?=some c->Frz H false c c:=by
 intro y b H j c a;obtain⟨p,_,rfl⟩:=eK.1 b;match j with
 |0=>simp at a;subst a;exact .int _ _
 |1=>simp at a;subst a;exact .bool _
 |j+2=>simp at a
def inC(i:Inp):LA:=inG i (.psl (vCs i.args)) (.psl (rnC i.t)) (.psl (rnC i.ct)) (.psl (chC i.cr)) (.psl (cbC i.cls))
def Sl(ys:List (LA))(A:AV):Prop:=A =.psl ys\/(A =.D/\ys=[])
def InC(i:Inp)(cs:LA):Prop:=∃A T CT CR C,cs=inG i A T CT CR C/\Sl (vCs i.args) A/\Sl (rnC i.t) T/\Sl (rnC i.ct) CT/\Sl (chC i.cr) CR/\Sl (cbC i.cls) C
theorem ad8(i:Inp):InC i (inC i):=⟨_,_,_,_,_,rfl,.inl rfl,.inl rfl,.inl rfl,.inl rfl,.inl rfl⟩
variable {ys:List (LA)}
theorem Mn(b:∀y∈ys,∀(H:AH) (j:Nat) (c:AV),y[j]?=some c->Frz H false c c)(H:AH):Frz H false (.psl ys) (.psl ys):=
 .psl rfl _ _ rfl (λi x y e b=>by rw[e]at b;cases b;rfl) λi x y j c d e a g o=>by
  rw[e]at a;cases a;rw[g]at o;cases o;exact b x (cQ e) H j c g
variable {H:AH}{i:Inp}{A T C:AV}
theorem AY{CT CR a T' CT' CR' C':AV}(h1:Frz H false A a)(h2:Frz H false T T')(b:Frz H false CT CT')(e:Frz H false CR CR')(g:Frz H false C C'):bU H false (inG i A T CT CR C) (inG i a T' CT' CR' C'):=by
 unfold inG;repeat' (first|assumption|exact trivial|refine And.intro ?_ ?_|exact .int _ _|exact .bool _|exact .str _)
theorem Bg(i:Inp):Cel (inC i):=⟨rfl,rfl,λH=>AY (AO _ H) (yw _ H) (yw _ H) (Mn (Pv _) H) (Mn (Qo _) H)⟩
theorem dJ(h:Sl ys A):A.one=true:=by
 rcases h with rfl|⟨rfl,_⟩<;>rfl
theorem mF(h:ys=[]):Frz H false .D (.psl ys):=by subst h;exact .D
structure P9(h h':AH)(id:Nat)(x:Sr):Prop where
 ob:Ob h h' id (srC x)
 r:h'.E h.nx=some zIn
 nx:h.nx+1<=h'.nx
theorem P9.rd(g:P9 h h' id x)(a:id<h.nx)(y:Sr):P9 h (h'.set id (.cells (srC y))) id y:=
 ⟨g.ob.set _,by rw[csn];exact g.r,g.nx⟩
theorem P9.bump(g:P9 h h' id x){k:Nat}(a:h'.nx<=k):P9 h ⟨h'.H,k⟩ id x:=⟨g.ob.bump _ a,g.r,bf g.nx a⟩
variable {cs:LA}
theorem XJ(g:P9 h h' id x)(a:cs.length=37)(b:aM cs=true):kSt h' 37 (.ptr h.nx 0) (.agg cs)=some (.undef,h'.set h.nx (.cells cs)):=
 Qd a b g.r (iH (by rw[a];rfl))
theorem xv(e:id<h.nx)(g:P9 h h' id x)(o:cs.length=37)(r:aM cs=true)(s:bU (fresh (h'.set h.nx (.cells cs)) h.nx) false cs (inC i)):
  wk (kSt h' 37 (.ptr h.nx 0) (.agg cs)) λ_ h2=>ou (mg h2 [.cell (.ptr h.nx 0) (some 37)]) h2 (λv h2=>Frz (fresh h2 h.nx) false v (.agg (inC i))/\Ob h h2 id (srC x)):=by
 rw[XJ g o r];have u:(h'.set h.nx (.cells cs)).E h.nx=some cs:=cse;have a:cut cs 0 37=some cs:=by
  have:=cS (α:=cs) (b:=[]) (n:=37) o;rwa [bO]at this
 have j:Ob h (h'.set h.nx (.cells cs)) id (srC x):=g.ob.app e (by simp) λi hi=>by rw[gsn]
 generalize h'.set h.nx (.cells cs)=h2 at*;simp[u,a];exact⟨s,j⟩
def pl0(n:Int)(x:Sr):Inp×Sr:=
 ({Inp.z with kind:=1,pk:=rgV x 1 6,pid:=nV (nS x 6) 9,px:=n,py:= -n,pt:=nV (nS (nS x 6) 9) 99,pw:=rgV (nS (nS (nS x 6) 9) 99) (-9) 9},nS (nS (nS (nS x 6) 9) 99) 19)
def pl1(x:Sr):Inp×Sr:=
 ({Inp.z with kind:=2,key:=((chV x).headD (0,0)).1,cH:=((chV x).headD (0,0)).2,time:=nV (chS x) 99},nS (chS x) 99)
def pl2(n:Int)(x:Sr):Inp×Sr:=({Inp.z with kind:=3,time:=n},x)
def pl3(n:Int)(x:Sr):Inp×Sr:=({Inp.z with kind:=4,sw:=n,sh:=nV x 99},nS x 99)
def pl4(x:Sr):Inp×Sr:=
 ({Inp.z with kind:=5,dv:=nV x 2==1,high:=nV (nS x 2) 2==1,scale:=ji.getD (nV (nS (nS x 2) 2) 5).toNat 0},mdS x)
def nj(x:Sr):Val:=(va 2 x).1
def lu(x:Sr):Sr:=(va 2 x).2
def z5A(l:List Val):Inp:=⟨6,0,0,0,0,0,0,0,0,0,0,0,false,false,0,l,0,0,0,0,0,[],0,[],[],[],0,0,false,0,0,0,0,0,0,[],0⟩
def pl5(x:Sr):Inp×Sr:=
 (z5A (itV nj lu (nV x 3).toNat (nS x 3)),itS lu (nV x 3).toNat (nS x 3))
def pl6(n:Int)(x:Sr):Inp×Sr:=
 ({Inp.z with kind:=7,ver:=nV x 9,node:=n,act:=2^(nV (nS x 9) 9).toNat,frm:=nV (nS (nS x 9) 9) 9,too:=nV (nS (nS (nS x 9) 9) 9) 9,rt:=bD (vdV (nS (nS (nS (nS x 9) 9) 9) 9) 4)},txS (nS (nS (nS (nS x 9) 9) 9) 9) 4)
def qU(x:Sr):Int×Bool:=(rgV x 1 3,nV (nS x 3) 2==1)
def kD(x:Sr):Sr:=nS (nS x 3) 2
def plT(k:Int)(x:Sr):List Int:=if k=15\/k=16 then vdV x 5 else []
def gK(k:Int)(x:Sr):Sr:=if k=15\/k=16 then txS x 5 else x
def pl7(x:Sr):Inp×Sr:=
 if rgV x 14 17=15 then
  ({Inp.z with kind:=8,tk:=rgV x 14 17,t:=plT (rgV x 14 17) (nS x 4),dE:=nV (gK (rgV x 14 17) (nS x 4)) 6,cls:=itV qU kD (nV (nS (gK (rgV x 14 17) (nS x 4)) 6) 3).toNat (nS (nS (gK (rgV x 14 17) (nS x 4)) 6) 3)},itS kD (nV (nS (gK (rgV x 14 17) (nS x 4)) 6) 3).toNat (nS (nS (gK (rgV x 14 17) (nS x 4)) 6) 3))
 else({Inp.z with kind:=8,tk:=rgV x 14 17,t:=plT (rgV x 14 17) (nS x 4)},gK (rgV x 14 17) (nS x 4))
def plC(c n:Int)(x:Sr):Inp×Sr:=
 if c=0 then pl0 n x else if c=1 then pl1 x else if c=2 then pl2 n x else if c=3 then pl3 n x else if c=4 then pl4 x else if c=5 then pl5 x else if c=6 then pl6 n x else pl7 x
def plI(x:Sr):Inp:=(plC (nV (nS x 1003) 8) (rgV x (-3) 999) (nS (nS x 1003) 8)).1
def plS(x:Sr):Sr:=(plC (nV (nS x 1003) 8) (rgV x (-3) 999) (nS (nS x 1003) 8)).2
def PLQ(h:AH)(id:Nat)(R:Inp×Sr):QT:=λv h2=>Frz (fresh h2 h.nx) false v (.agg (inC R.1))/\Ob h h2 id (srC R.2)
theorem uA(h1:i.args=[])(h2:i.t=[])(a:i.ct=[])(b:i.cr=[])(e:i.cls=[]):bU H false (inG i .D .D .D .D .D) (inC i):=
 AY (by rw[h1];exact il) (mF (by rw[h2];rfl)) (mF (by rw[a];rfl)) (mF (by rw[b];rfl)) (mF (by rw[e];rfl))
variable {h1:AH}{n k:Int}
theorem p_0(e:id<h.nx)(u : -1000<=n/\n<=1000)(j:x.Ok)(g:P9 h h1 id x)(o:k=rgV x 1 6):IT (.ptr id 0) (.ptr h.nx 0) (I n) (I k) (h1.set id (.cells (srC (nS x 6)))) (PLQ h id (pl0 n x)):=by
 have j:=aN j 6;have g:=g.rd e (nS x 6);unfold pl0;rw[<-o];clear o;generalize h1.set id (.cells (srC (nS x 6)))=h2 at*;generalize nS x 6=x at*;simp[IT];refine sD (n_d 9 g.ob.c (g.ob.lt e) ⟨j,by omega⟩) ?_;have j:=aN j 9;have g:=g.rd e (nS x 9);generalize h2.set id (.cells (srC (nS x 9)))=r at*;generalize nV x 9=a at*;generalize nS x 9=x at*;simp(disch:=first|go_size|fail)[XD];refine sD (n_d 99 g.ob.c (g.ob.lt e) ⟨j,by omega⟩) ?_;have j:=aN j 99;have g:=g.rd e (nS x 99);generalize r.set id (.cells (srC (nS x 99)))=s at*;generalize nV x 99=b at*;generalize nS x 99=x at*;simp[X2];refine sD (rY (-9) 9 g.ob.c (g.ob.lt e) ⟨j,by omega⟩) ?_;rw[show(9:Int) - -9+1=19 by omega];have j:=aN j 19;have g:=g.rd e (nS x 19);generalize s.set id (.cells (srC (nS x 19)))=w at*;generalize rgV x (-9) 9=c at*;generalize nS x 19=x at*;unfold Xz;simp[];exact xv e g rfl rfl (uA (i:={Inp.z with kind:=1,pk:=k,pid:=a,px:=n,py:= -n,pt:=b,pw:=c}) rfl rfl rfl rfl rfl)
variable {q:Nat}
theorem Wd(h:AH)(a:q<9):aG h .shl (I 1) (.int .u64 q)=some (I (2^q),h):=by
 match q,a with
 |0,_=>rfl
 |1,_=>rfl
 |2,_=>rfl
 |3,_=>rfl
 |4,_=>rfl
 |5,_=>rfl
 |6,_=>rfl
 |7,_=>rfl
 |8,_=>rfl
theorem c!(h:AH)(L:List Int):kX h .r2s [.psl (rnC L)]=some (.str (bD L),h):=Et (LY h L) (m:=(rnC L).length) rfl
theorem p_6(a:id<h.nx)(e:x.Ok)(g:P9 h h1 id x)(u:k=nV x 9):FH (.ptr id 0) (.ptr h.nx 0) (I n) (I k) (h1.set id (.cells (srC (nS x 9)))) (PLQ h id (pl6 n x)):=by
 have e:=aN e 9;have g:=g.rd a (nS x 9);unfold pl6;rw[<-u];clear u;generalize h1.set id (.cells (srC (nS x 9)))=h2 at*;generalize nS x 9=x at*;simp[FH];refine sD (n_d 9 g.ob.c (g.ob.lt a) ⟨e,by omega⟩) ?_;have j:=aN e 9;have g:=g.rd a (nS x 9);have n1:=dK x 9;have K:=dr x (show(1:Int)<=9 by omega);obtain⟨q,y⟩:=kL n1;have o:q<9:=by omega
 rw[y];generalize h2.set id (.cells (srC (nS x 9)))=w at*;generalize nS x 9=x at*;have hw:IntKind.u64.wrap (q:Int)=q:=by simp only[IntKind.wrap,IntKind.bits,IntKind.signed];simp;omega
 have r:=Wd w o;simp[TK,hw,r];have e:=j;refine sD (n_d 9 g.ob.c (g.ob.lt a) ⟨e,by omega⟩) ?_;have e:=aN e 9;have g:=g.rd a (nS x 9);generalize w.set id (.cells (srC (nS x 9)))=B at*;generalize nV x 9=b at*;generalize nS x 9=x at*;simp[UM];refine sD (n_d 9 g.ob.c (g.ob.lt a) ⟨e,by omega⟩) ?_;have e:=aN e 9;have g:=g.rd a (nS x 9);generalize B.set id (.cells (srC (nS x 9)))=G at*;generalize nV x 9=c at*;generalize nS x 9=x at*;simp[WL];refine sD (L_ 4 g.ob.c (g.ob.lt a) ⟨e,by omega,by omega⟩) ?_;have g:=g.rd a (txS x 4);generalize G.set id (.cells (srC (txS x 4)))=J at*;have s:=c! J (vdV x 4);generalize vdV x 4=L at*;generalize bD L=S at*;generalize txS x 4=x at*;unfold WM;simp[s];exact xv a g rfl rfl (uA (i:={Inp.z with kind:=7,ver:=k,node:=n,act:=2^q,frm:=b,too:=c,rt:=S}) rfl rfl rfl rfl rfl)
def z6:Inp:=z5A []
def in6(lv:AV):LA:=inG z6 lv .D .D .D .D
structure P5(h hb h':AH)(id:Nat)(x:Sr)(lv:AV)(acc:List Val):Prop where
 ob:Ob h h' id (srC x)
 r:h'.E h.nx=some zIn
 l5:h'.E (h.nx+1)=some (in6 lv)
 nx:h.nx+2<=h'.nx
 hbn:h.nx+2<=hb.nx
 nh:hb.nx<=h'.nx
 ol:OL 4 hb h' lv acc.length (cw acc)
theorem P5.rd(g:P5 h hb h' id x lv acc)(a:id<h.nx)(y:Sr):P5 h hb (h'.set id (.cells (srC y))) id y lv acc:=
 ⟨g.ob.set _,by rw[csn];exact g.r,by rw[csn];exact g.l5,g.nx,g.hbn,g.nh,g.ol.set (by have:=g.hbn;omega) _⟩
theorem P5.bump(g:P5 h hb h' id x lv acc){k:Nat}(a:h'.nx<=k):P5 h hb ⟨h'.H,k⟩ id x lv acc:=
 ⟨g.ob.bump _ a,g.r,g.l5,bf g.nx a,g.hbn,bf g.nh a,g.ol.bump a⟩
inductive PL5(h hb:AH)(id:Nat)(R:Inp×Sr):Nat->List AV->AH->Prop
 |mk {m:Nat} {h':AH} (x:Sr) (lv:AV) (acc:List Val):x.Ok->acc.length+m<=3->R=(z5A (acc++itV nj lu m x),itS lu m x)->P5 h hb h' id x lv acc->PL5 h hb id R m [.ptr id 0,.ptr h.nx 0,.ptr (h.nx+1) 0,I m] h'
theorem p_5{n:Int}(e:id<h.nx)(w:x.Ok)(g:P9 h h1 id x)(af:h1.nx=h.nx+1):uQ (.ptr id 0) (.ptr h.nx 0) (I n) (I 5) (.bool false) h1 (PLQ h id (pl5 x)):=by
 have hz:=g.r;have aj:z37=zIn:=rfl;unfold uQ;rw[aj];have s:aQ zIn [(0,1,I 6)]=some (in6 .D):=rfl;have al:(in6 .D).length=37:=rfl;have an:aM (in6 .D)=true:=rfl;have ao:aP zIn 0 (in6 .D)=some (in6 .D):=iH rfl;simp[s,al,an,ao];rw[af];have g2:P5 h (h1.add (.cells zIn)) ((h1.add (.cells zIn)).set (h.nx+1) (.cells (in6 .D))) id x .D []:=by
  refine⟨g.ob.app e (by simp) λi hi=>by rw[gsn,gan],?_,cse,by simp;omega,by simp;omega,by simp,OL.start _ _ _⟩;rw[csn,can];exact g.r
 obtain⟨j,y⟩:∃j,j=h1.add (.cells zIn):=⟨_,rfl⟩;rw[<-y]at g2 ⊢;generalize j.set (h.nx+1) (.cells (in6 .D))=h2 at*;clear y hz s g;refine sD (n_d 3 g2.ob.c (g2.ob.lt e) ⟨w,by omega⟩) ?_;have w:=aN w 3;have g:=g2.rd e (nS x 3);have n1:=dK x 3;have n2:=dr x (show(1:Int)<=3 by omega);have z:pl5 x=(z5A (itV nj lu (nV x 3).toNat (nS x 3)),itS lu (nV x 3).toNat (nS x 3)):=rfl;obtain⟨m0,G⟩:=kL n1;generalize pl5 x=R at*;rw[G]at z n2 ⊢;generalize h2.set id (.cells (srC (nS x 3)))=h3 at*;generalize nS x 3=x at*;clear g2 n1 G;refine⟨PL5 h j id R,m0,.mk x .D [] w (by simp;omega) (by rw[z];rfl) g,?_⟩;clear w z g;rintro m vs a ⟨x,lv,acc,w,hm,z,g⟩;cases m with
 |zero=>
  have h5:=g.l5;have ar:R=(z5A acc,x):=by rw[z];simp[itV,itS]
  subst ar;have U:cut (in6 lv) 0 37=some (in6 lv):=by
   have:=cS (α:=in6 lv) (b:=[]) (n:=37) rfl;rwa [bO]at this
  have ho:aM (in6 lv)=true:=by
   have o:=g.ol;rcases o with⟨rfl,_⟩|⟨k,rfl,_⟩<;>rfl
  have hr:=g.r;have V:(in6 lv).length=37:=rfl;have av:aP zIn 0 (in6 lv)=some (in6 lv):=iH rfl;simp[IC];unfold Tz;simp[Iz,h5,U,V,ho,hr,av];have hbn:=g.hbn;refine⟨?_,g.ob.app e (by simp) λi hi=>by rw[gsn]⟩;first
  |exact AQ (AY (i:=z6) (sn (hb:=j) (g.ol.aY (by simp) λi hi _=>by rw[gsn]) (by omega)) (mF rfl) (mF rfl) (mF rfl) (mF rfl))
 |succ m=>
  have bd:(0:Int)<((m+1:Nat):Int):=by omega
  have aw:=g.l5;have W:(in6 lv)[15]?=some lv:=rfl;simp[IC,aw,W];have g0:=g;have g:=g.bump (k:=a.nx+8) (by omega);refine sD (aaO g.ob.c (g.ob.lt e) w) ?_;refine⟨by simp,?_⟩;have aS:=y4 2 x w;have g:=g.rd e (va 2 x).2;have aT:bT (.read (h.nx+1)) (.eff ⟨a.H,a.nx+8⟩ ((AH.mk a.H (a.nx+8)).set id (.cells (srC (va 2 x).2))))=true:=kM _ _ _ _ (by omega);have a1:∀q,q≠id->((AH.mk a.H (a.nx+8)).set id (.cells (srC (va 2 x).2))).H.get q=a.H.get q:=λq hq=>by rw[dQ,O hq]
  have bb:((AH.mk a.H (a.nx+8)).set id (.cells (srC (va 2 x).2))).nx=a.nx+8:=rfl;have e1:nj x=(va 2 x).1:=rfl;have e2:lu x=(va 2 x).2:=rfl;simp only[itV,itS,e1,e2]at z;generalize(AH.mk a.H (a.nx+8)).set id (.cells (srC (va 2 x).2))=J at*;generalize va 2 x=RR at*;obtain⟨u,y'⟩:=RR;simp only at*;have s:aQ [I 0,I 0,.str [],.D] [(0,4,.agg (vC u))]=some (vC u):=by cases u;simp only[vC];rfl
  have bk:=g0.nx;have hbn:=g0.hbn;have nh:=g0.nh;have l6:OL 4 j (J.set (a.nx+4) (.cells (vC u))) lv acc.length (cw acc):=g0.ol.aY (by simp;omega) λq a6 K=>by rw[gsn,a1 q (by omega)]
  obtain⟨B,h7,k7,M,N,a7⟩:=qf (bytes:=56) l6 (by simp;omega) cse (ch u) (jd u) (by omega) (by omega);have ad:=kx M;have e7:∀q,q<a.nx->q<j.nx->h7.H.get q=J.H.get q:=λq a6 K=>by rw[a7 q K,gsn]
  have a8:h7.E (h.nx+1)=some (in6 lv):=by rw[aV (e7 _ (by omega) (by omega))];exact g.l5
  have ba:kSt h7 1 (.ptr (h.nx+1) 15) B=some (.undef,h7.set (h.nx+1) (.cells (in6 B))):=wD ad a8 rfl;rw[s];simp[];refine gS k7 (by simp only[pA]at N ⊢; omega) ?_;simp(disch:=first|go_size|fail)[XQ];refine gS ba (by simp) ?_;simp only[pA]at N;refine⟨aT,by omega,m,by omega,?_⟩;refine .mk y' B (acc++[u]) aS (by simp;omega) (by rw[z];simp) ⟨?_,?_,cse,by simp;omega,hbn,by simp;omega,?_⟩
  ·exact g.ob.app e (by simp;omega) λq hq=>by rw[gsn,e7 q (by omega) (by omega)]
  ·rw[csn,aV (e7 _ (by omega) (by omega))];exact g.r
  rw[rD,au];exact M.aY (by simp) λq hq _=>by rw[gsn]
def z7A(k:Int)(t:List Int)(n:Int)(c:List (Int×Bool)):Inp:=⟨8,0,0,0,0,0,0,0,0,0,0,0,false,false,0,[],0,0,0,0,0,[],k,t,[],[],0,0,false,0,0,0,0,0,n,c,0⟩
theorem adj(k n:Int)(t:List Int)(c:List (Int×Bool))(T C:AV):bu k T n C=inG (z7A k t n c) .D T .D .D C:=rfl
structure P7(h h':AH)(id:Nat)(x:Sr)(k:Int)(T:AV)(n:Int)(C:AV):Prop where
 ob:Ob h h' id (srC x)
 r:h'.E h.nx=some zIn
 l6:h'.E (h.nx+1)=some (bu k T n C)
 nx:h.nx+2<=h'.nx
theorem P7.rd(g:P7 h h' id x k T n C)(a:id<h.nx)(y:Sr):P7 h (h'.set id (.cells (srC y))) id y k T n C:=
 ⟨g.ob.set _,by rw[csn];exact g.r,by rw[csn];exact g.l6,g.nx⟩
theorem P7.st(g:P7 h h' id x k T n C)(a:id<h.nx)(T':AV)(b:Int)(C':AV):P7 h (h'.set (h.nx+1) (.cells (bu k T' b C'))) id x k T' b C':=
 ⟨g.ob.app a (by simp) λi hi=>by rw[gsn],by rw[csn];exact g.r,cse,g.nx⟩
variable {m:Nat}
theorem P7.bump(g:P7 h h' id x k T n C)(a:h'.nx<=m):P7 h ⟨h'.H,m⟩ id x k T n C:=⟨g.ob.bump _ a,g.r,g.l6,bf g.nx a⟩
variable {t:List Int}{c:List (Int×Bool)}
theorem afN{k n:Int}(j:id<h.nx)(g:P7 h h' id x k T n C)(s:T.one=true)(u:C.one=true)
  (w:∀h2:AH,h2=h'.set h.nx (.cells (bu k T n C))->Frz (fresh h2 h.nx) false T (.psl (rnC t))/\Frz (fresh h2 h.nx) false C (.psl (cbC c))):
  xY (.ptr h.nx 0) (.ptr (h.nx+1) 0) h' (PLQ h id (z7A k t n c,x)):=by
 have a:(bu k T n C).length=37:=rfl;have y:=g.r;have z:=g.l6;have e:cut (bu k T n C) 0 37=some (bu k T n C):=by
  have:=cS (α:=bu k T n C) (b:=[]) (n:=37) rfl;rwa [bO]at this
 have B:aM (bu k T n C)=true:=by
  simp only[bu,aM,nE,s,u];rfl
 have o:aP zIn 0 (bu k T n C)=some (bu k T n C):=iH rfl;simp[xY,z,e,a,B,y,o];obtain⟨f1,f2⟩:=w _ rfl;refine⟨?_,g.ob.app j (by simp) λi hi=>by rw[gsn]⟩;rw[adj k n t c]at*;exact AQ (AY il f1 (mF rfl) (mF rfl) f2)
inductive PM7(h:AH)(id:Nat)(x:Sr)(k n:Int)(t:List Int)(c:List (Int×Bool)):List AV->AH->Prop
 |mk {h':AH} (hb:AH) (T C:AV):P7 h h' id x k T n C->T.one=true->(∀H,Frz H false T (.psl (rnC t)))->h.nx+2<=hb.nx->OL 2 hb h' C c.length (cbC c).flatten->PM7 h id x k n t c [.ptr h.nx 0,.ptr (h.nx+1) 0] h'
theorem Qc(b:id<h.nx)(m:PM7 h id x k n t c vs h'):xY (aa vs 0) (aa vs 1) h' (PLQ h id (z7A k t n c,x)):=by
 obtain⟨hb,T,C,g,j,o,hbn,ol⟩:=m;refine afN b g j (kx ol) λh2 e=>⟨o _,?_⟩
 have a:OL 2 hb h2 C c.length (cbC c).flatten:=by rw[e];exact ol.aY (by simp) λi hi _=>by rw[gsn]
 rw[show c.length=(cbC c).length by simp[cbC]]at a;exact rS (adg c) (Qo c) a (by omega)
inductive PL7(h hb:AH)(id:Nat)(k n:Int)(T:AV)(ALL:List (Int×Bool))(END:Sr):Nat->List AV->AH->Prop
 |mk {m:Nat} {h':AH} (x:Sr) (lv:AV) (acc:List (Int×Bool)):x.Ok->acc.length+m<=3->acc++itV qU kD m x=ALL->itS kD m x=END->P7 h h' id x k T n lv->OL 2 hb h' lv acc.length (cbC acc).flatten->hb.nx<=h'.nx->PL7 h hb id k n T ALL END m [.ptr id 0,.ptr h.nx 0,.ptr (h.nx+1) 0,I m] h'
theorem adR(x:Sr)(h:x.Ok):(kD x).Ok:=aN (aN h _) _
variable {m0:Nat}
theorem ady(b:id<h.nx)(y:x.Ok)(g:P7 h h1 id x k T n .D)(hT:T.one=true)(hf:∀H,Frz H false T (.psl (rnC t)))(a7:m0<=3){Q:NT}
  (e:∀vs h2,PM7 h id (itS kD m0 x) k n t (itV qU kD m0 x) vs h2->Q vs h2):
  uW (λvs h k=>yz (aa vs 0) (aa vs 1) (aa vs 2) (aa vs 3) h k) [.ptr id 0,.ptr h.nx 0,.ptr (h.nx+1) 0,I m0] h1 λx vs h=>Eo x (aa vs 0) (aa vs 1) h Q:=by
 refine⟨PL7 h h1 id k n T (itV qU kD m0 x) (itS kD m0 x),m0,.mk x .D [] y (by simp;omega) rfl rfl g (OL.start _ _ _) (ay _),?_⟩;generalize itV qU kD m0 x=ad at*;generalize itS kD m0 x=af at*;have N:=g.nx;clear y g;rintro m vs a ⟨x,lv,acc,y,hm,hA,hE,g,ol,hbn⟩;cases m with
 |zero=>
  have aj:ad=acc:=by rw[<-hA];simp[itV]
  have al:af=x:=hE.symm;subst aj;subst al;simp[yz,Eo,Gn];exact e _ _ (.mk h1 T lv g hT hf N ol)
 |succ m=>
  have a8:(0:Int)<((m+1:Nat):Int):=by omega
  have an:=g.l6;have U:(bu k T n lv)[35]?=some lv:=rfl;simp[yz,an,U];have g0:=g;have g:=g.bump (m:=a.nx+14) (by omega);refine sD (rY 1 3 g.ob.c (g.ob.lt b) ⟨y,by omega⟩) ?_;refine⟨by simp,?_⟩;rw[show(3:Int)-1+1=3 by omega];have B:=aN y 3;have g:=g.rd b (nS x 3);have ao:bT (.read (h.nx+1)) (.eff ⟨a.H,a.nx+14⟩ ((AH.mk a.H (a.nx+14)).set id (.cells (srC (nS x 3)))))=true:=kM _ _ _ _ (by omega);have u:∀q,q≠id->((AH.mk a.H (a.nx+14)).set id (.cells (srC (nS x 3)))).H.get q=a.H.get q:=λq e=>by rw[dQ,O e]
  have s:((AH.mk a.H (a.nx+14)).set id (.cells (srC (nS x 3)))).nx=a.nx+14:=rfl;have e1:qU x=(rgV x 1 3,nV (nS x 3) 2==1):=rfl;have e2:kD x=nS (nS x 3) 2:=rfl;simp only[itV,itS,e1,e2]at hA hE;generalize(AH.mk a.H (a.nx+14)).set id (.cells (srC (nS x 3)))=z at*;generalize rgV x 1 3=j at*;generalize nS x 3=x1 at*;refine sD (n_d 2 g.ob.c (g.ob.lt b) ⟨B,by omega⟩) ?_;refine⟨by simp,?_⟩;have ar:=aN B 2;have g:=g.rd b (nS x1 2);have av:bT (.read (h.nx+1)) (.eff z (z.set id (.cells (srC (nS x1 2)))))=true:=kM _ _ _ _ (by omega);have u:∀q,q≠id->(z.set id (.cells (srC (nS x1 2)))).H.get q=a.H.get q:=λq e=>by rw[dQ,O e];exact u q e
  have s:(z.set id (.cells (srC (nS x1 2)))).nx=a.nx+14:=s;generalize z.set id (.cells (srC (nS x1 2)))=G at*;generalize nV x1 2=o at*;generalize nS x1 2=y' at*;have V:aQ [I 0,.bool false] [(0,1,I j),(1,1,.bool (o==1))]=some [I j,.bool (o==1)]:=rfl;have aw:aQ [I 0,.bool false] [(0,2,.agg [I j,.bool (o==1)])]=some [I j,.bool (o==1)]:=rfl;have ba:=g0.nx;have l6:OL 2 h1 (G.set (a.nx+9) (.cells [I j,.bool (o==1)])) lv acc.length (cbC acc).flatten:=ol.aY (by simp;omega) λq aS J=>by rw[gsn,u q (by omega)]
  obtain⟨w,h7,k7,K,M,aT⟩:=qf (bytes:=16) l6 (by simp;omega) cse rfl rfl (by omega) (by omega);have W:=kx K;have e7:∀q,q<a.nx->q<h1.nx->h7.H.get q=G.H.get q:=λq aS J=>by rw[aT q J,gsn]
  have a1:h7.E (h.nx+1)=some (bu k T n lv):=by rw[aV (e7 _ (by omega) (by omega))];exact g.l6
  have a6:kSt h7 1 (.ptr (h.nx+1) 35) w=some (.undef,h7.set (h.nx+1) (.cells (bu k T n w))):=wD W a1 rfl;simp[Uu,V,aw];refine gS k7 (by simp only[pA]at M ⊢; omega) ?_;refine gS a6 (by simp) ?_;simp only[pA]at M;simp(disch:=first|go_size|fail)[UL];refine⟨ao,av,by omega,m,by omega,?_⟩;refine .mk y' w (acc++[(j,o==1)]) ar (by simp;omega) (by rw[<-hA];simp) (by rw[<-hE]) ⟨?_,?_,cse,by simp;omega⟩ ?_ (by simp;omega)
  ·exact g.ob.app b (by simp;omega) λq e=>by rw[gsn,e7 q (by omega) (by omega)]
  ·rw[csn,aV (e7 _ (by omega) (by omega))];exact g.r
  have e9:(cbC (acc++[(j,o==1)])).flatten=(cbC acc).flatten++[I j,.bool (o==1)]:=by simp[cbC]
  rw[e9,au];exact K.aY (by simp) λq e _=>by rw[gsn]
theorem E_(x:Sr):pl7 x=if rgV x 14 17=15 then(z7A (rgV x 14 17) (plT (rgV x 14 17) (nS x 4)) (nV (gK (rgV x 14 17) (nS x 4)) 6) (itV qU kD (nV (nS (gK (rgV x 14 17) (nS x 4)) 6) 3).toNat (nS (nS (gK (rgV x 14 17) (nS x 4)) 6) 3)),itS kD (nV (nS (gK (rgV x 14 17) (nS x 4)) 6) 3).toNat (nS (nS (gK (rgV x 14 17) (nS x 4)) 6) 3))
 else(z7A (rgV x 14 17) (plT (rgV x 14 17) (nS x 4)) 0 [],gK (rgV x 14 17) (nS x 4)):=rfl
inductive PA7(h:AH)(id:Nat)(x:Sr)(k:Int)(t:List Int):List AV->AH->Prop
 |mk {h':AH} (T:AV):P7 h h' id x k T 0 .D->x.Ok->T.one=true->(∀H,Frz H false T (.psl (rnC t)))->PA7 h id x k t [.ptr id 0,.ptr h.nx 0,.ptr (h.nx+1) 0] h'
theorem p_7(a:id<h.nx)(b:x.Ok)(g:P9 h h1 id x)(w:h1.nx=h.nx+1):E4 (.ptr id 0) (.ptr h.nx 0) (I (rgV x 14 17)) (h1.set id (.cells (srC (nS x 4)))) (PLQ h id (pl7 x)):=by
 rw[E_];have b:=aN b 4;have g:=g.rd a (nS x 4);have w:(h1.set id (.cells (srC (nS x 4)))).nx=h.nx+1:=w;generalize h1.set id (.cells (srC (nS x 4)))=h2 at*;generalize nS x 4=x1 at*;generalize rgV x 14 17=k at*;have ad:z37=zIn:=rfl;unfold E4;rw[ad];have y:aQ [I 0,.D,.D,.D,I 0,I 0,.bool false,I 0,I 0,I 0,I 0,I 0,I 0,.D,I 0] [(0,1,I k)]=some (edC k .D 0 .D):=rfl;have z:aQ zIn [(0,1,I 8),(22,15,.agg (edC k .D 0 .D))]=some (bu k .D 0 .D):=rfl;have K:(bu k .D 0 .D).length=37:=rfl;have M:aM (bu k .D 0 .D)=true:=rfl;have N:aP zIn 0 (bu k .D 0 .D)=some (bu k .D 0 .D):=iH rfl;simp[y,z,K,M,N];rw[w];have g2:P7 h ((h2.add (.cells zIn)).set (h.nx+1) (.cells (bu k .D 0 .D))) id x1 k .D 0 .D:=by
  refine⟨g.ob.app a (by simp) λi hi=>by rw[gsn,gan],?_,cse,by simp;omega⟩;rw[csn,can];exact g.r
 generalize(h2.add (.cells zIn)).set (h.nx+1) (.cells (bu k .D 0 .D))=h3 at*;clear z N M K y w g;have g:=g2;clear g2;obtain⟨U,s⟩:∃U,U=decide (k=15\/k=16):=⟨_,rfl⟩;refine⟨λvs V=>vs=[.ptr id 0,.ptr h.nx 0,.ptr (h.nx+1) 0,.bool U]/\V=h3,?_,?_⟩
 ·have j:=g.l6;have o:(bu k .D 0 .D)[22]?=some (I k):=rfl;by_cases e:k=15
  ·subst e;rw[s];simp[yP,j,o,yo]
  by_cases B:k=16
  ·subst B;rw[s];simp[yP,j,o,yo]
  rw[s];simp[yP,j,o,e,B,yo,B]
 rintro vs V ⟨rfl,rfl⟩;simp[Vy];refine⟨PA7 h id (gK k x1) k (plT k x1),?_,?_⟩
 ·by_cases j:k=15\/k=16
  ·have W:plT k x1=vdV x1 5:=Z j;have e2:gK k x1=txS x1 5:=Z j;rw[W,e2,s,eD j];simp[F9];refine sD (L_ 5 g.ob.c (g.ob.lt a) ⟨b,by omega,by omega⟩) ?_;have g:=g.rd a (txS x1 5);have b:=EU b 5;generalize V.set id (.cells (srC (txS x1 5)))=h5 at*;generalize vdV x1 5=L at*;generalize txS x1 5=u at*;have G:=g.l6;have J:aP (bu k .D 0 .D) 23 [.psl (rnC L)]=some (bu k (.psl (rnC L)) 0 .D):=rfl;simp[T6,G,J];exact .mk _ (g.st a _ _ _) b rfl λH=>yw _ H
  have W:plT k x1=[]:=O j;have e2:gK k x1=x1:=O j;rw[W,e2,s,dx j];simp[F9];exact .mk .D g b rfl λH=>mF rfl
 rintro vs h5 ⟨T,g,b,hT,hf⟩;generalize gK k x1=u at*;generalize plT k x1=t at*;have j:=g.l6;have o:(bu k T 0 .D)[22]?=some (I k):=rfl;by_cases e:k=15
 ·rw[Z e];subst e;have n1:=dK u 6;have n2:=dr u (show(1:Int)<=6 by omega);have m1:=dK (nS u 6) 3;have m2:=dr (nS u 6) (show(1:Int)<=3 by omega);simp[Ih,j,o];refine⟨PM7 h id _ 15 _ t _,?_,λvs h6 m=>Qc a m⟩;simp[He];refine sD (n_d 6 g.ob.c (g.ob.lt a) ⟨b,by omega⟩) ?_;have g:=g.rd a (nS u 6);have b:=aN b 6;generalize h5.set id (.cells (srC (nS u 6)))=h6 at*;generalize nV u 6=n at*;generalize nS u 6=x3 at*;have G:=g.l6;have J:aP (bu 15 T 0 .D) 34 [I n]=some (bu 15 T n .D):=rfl;simp[Vw,G,J];have g:=g.st a T n .D;generalize h6.set (h.nx+1) (.cells (bu 15 T n .D))=h7 at*;refine sD (n_d 3 g.ob.c (g.ob.lt a) ⟨b,by omega⟩) ?_;have g:=g.rd a (nS x3 3);have b:=aN b 3;generalize h7.set id (.cells (srC (nS x3 3)))=h8 at*;obtain⟨m0,af⟩:=kL m1;rw[af];have e0:((m0:Int)).toNat=m0:=by omega
  rw[e0];generalize nS x3 3=x4 at*;exact ady a b g hT hf (by omega) λvs h9 m=>m
 rw[O e];simp[Ih,j,o];refine⟨PM7 h id u k 0 t [],?_,λvs h6 m=>Qc a m⟩;simp[He,e];exact .mk h5 T .D g hT hf g.nx (OL.start _ _ _)
theorem ahB(x:Sr):-3<=rgV x (-3) 999/\rgV x (-3) 999<=999:=by
 have h1:=dK x 1003;have h2:=dr x (show(1:Int)<=1003 by omega);unfold rgV;rw[show(999:Int) - -3+1=1003 by omega];omega
theorem aef{x:Option (AV×AH)}{v:AV}{c:Rec}{k:AV->Rec->AH->Prop}(a:x=some (v,h))(b:k v c h):wdp h x c k:=by
 subst a;exact b
theorem R5(hc:h.E id=some (srC x))(e:id<h.nx)(hx:x.Ok):ab prog 9 [.ptr id 0] h (.agg (inC (plI x))) (h.set id (.cells (srC (plS x)))):=by
 refine rL (R:=PLQ h id (plI x,plS x)) e (kR _) (C9 ?_) λv' h' h1=>h1
 have hR:(plI x,plS x)=plC (nV (nS x 1003) 8) (rgV x (-3) 999) (nS (nS x 1003) 8):=rfl;rw[hR];have B:z37=zIn:=rfl;unfold g9;rw[B];clear B;simp[];have g:P9 h (h.add (.cells zIn)) id x:=⟨(Ob.start hc).new e (by simp) λi hi=>by rw[gan],cas,by simp⟩;have y:(h.add (.cells zIn)).nx=h.nx+1:=by simp
 generalize h.add (.cells zIn)=h1 at*;have aS:=ahB x;refine sD (rY (-3) 999 g.ob.c (g.ob.lt e) ⟨hx,by omega⟩) ?_;rw[show(999:Int) - -3+1=1003 by omega];have g:=g.rd e (nS x 1003);have y:(h1.set id (.cells (srC (nS x 1003)))).nx=h.nx+1:=y;have N:=aN hx 1003;generalize h1.set id (.cells (srC (nS x 1003)))=h2 at*;generalize rgV x (-3) 999=n at*;generalize nS x 1003=x1 at*;refine sD (n_d 8 g.ob.c (g.ob.lt e) ⟨N,by omega⟩) ?_;have g:=g.rd e (nS x1 8);have y:(h2.set id (.cells (srC (nS x1 8)))).nx=h.nx+1:=y;have j:=aN N 8;have m1:=dK x1 8;have m2:=dr x1 (show(1:Int)<=8 by omega);generalize h2.set id (.cells (srC (nS x1 8)))=G at*;generalize nV x1 8=c at*;generalize nS x1 8=o at*;unfold plC;by_cases c0:c=0
 ·subst c0;rw[Z rfl];simp[];refine sD (rY 1 6 g.ob.c (g.ob.lt e) ⟨j,by omega⟩) ?_;rw[show(6:Int)-1+1=6 by omega];exact p_0 e (by omega) j g rfl
 rw[O c0];by_cases c1:c=1
 ·subst c1;rw[Z rfl];simp[];have g:=g.bump (k:=G.nx+8) (by omega);refine sD (abS g.ob.c (g.ob.lt e) j) ?_;refine⟨by simp,?_⟩;have g:=g.rd e (chS o);have ad:=UN j;unfold pl1;have hlen:0<(chV o).length:=by
   have:=dK o 3;unfold chV;rw[nW];unfold rgV;rw[show(3:Int)-1+1=3 by omega];omega
  have af:(chC (chV o))[0]?=some [I ((chV o).headD (0,0)).1,I ((chV o).headD (0,0)).2]:=by
   match hv:chV o,hlen with
   |p::r,_=>rfl
  generalize(chV o).headD (0,0)=V at*;generalize chV o=L at*;have hh:∃hh:AH,hh=(AH.mk G.H (G.nx+8)).set id (.cells (srC (chS o))):=⟨_,rfl⟩;generalize(AH.mk G.H (G.nx+8)).set id (.cells (srC (chS o)))=M at*;generalize chS o=J at*;have aj:aC M 2 (.psl (chC L)) (I 0)=some (.ai [I V.1,I V.2],M):=gQ (i:=0) af rfl;simp[aj,XY];refine sD (n_d 99 g.ob.c (g.ob.lt e) ⟨ad,by omega⟩) ?_;refine⟨by simp,?_⟩;have g:=g.rd e (nS J 99);generalize M.set id (.cells (srC (nS J 99)))=K at*;generalize nV J 99=tm at*;generalize nS J 99=x4 at*;obtain⟨u,w⟩:∃u,u=({Inp.z with kind:=2,key:=V.1,cH:=V.2,time:=tm}:Inp):=⟨_,rfl⟩;have al:(inG u .D .D .D .D .D).length=37:=rfl;have an:aM (inG u .D .D .D .D .D)=true:=rfl;have ao:=XJ g al an;have B:=uA (H:=fresh (K.set h.nx (.cells (inG u .D .D .D .D .D))) h.nx) (i:=u) (by rw[w];rfl) (by rw[w];rfl) (by rw[w];rfl) (by rw[w];rfl) (by rw[w];rfl);have ar:(K.set h.nx (.cells (inG u .D .D .D .D .D))).E h.nx=some (inG u .D .D .D .D .D):=cse;have U:cut (inG u .D .D .D .D .D) 0 37=some (inG u .D .D .D .D .D):=by
   have:=cS (α:=inG u .D .D .D .D .D) (b:=[]) (n:=37) rfl;rwa [bO]at this
  have av:Ob h (K.set h.nx (.cells (inG u .D .D .D .D .D))) id (srC x4):=g.ob.app e (by simp) λi hi=>by rw[gsn]
  have aw:K.nx<=(K.set h.nx (.cells (inG u .D .D .D .D .D))).nx:=by simp
  refine aef (v:=.agg (inG u .D .D .D .D .D)) (by rw[w];rfl) ?_;refine gS ao aw ?_;generalize K.set h.nx (.cells (inG u .D .D .D .D .D))=h6 at*;rw[<-w];generalize inG u .D .D .D .D .D=CS at*;simp[ar,U];exact⟨AQ B,av⟩
 rw[O c1];by_cases c2:c=2
 ·subst c2;rw[Z rfl];simp[];exact xv e g rfl rfl (uA (i:={Inp.z with kind:=3,time:=n}) rfl rfl rfl rfl rfl)
 rw[O c2];by_cases c3:c=3
 ·subst c3;rw[Z rfl];simp[];refine sD (n_d 99 g.ob.c (g.ob.lt e) ⟨j,by omega⟩) ?_;have g:=g.rd e (nS o 99);generalize G.set id (.cells (srC (nS o 99)))=M at*;unfold pl3;generalize nV o 99=a at*;generalize nS o 99=J at*;unfold Xx;simp[];exact xv e g rfl rfl (uA (i:={Inp.z with kind:=4,sw:=n,sh:=a}) rfl rfl rfl rfl rfl)
 rw[O c3];by_cases c4:c=4
 ·subst c4;rw[Z rfl];simp[uQ];refine sD (adZ g.ob.c (g.ob.lt e) j) ?_;have g:=g.rd e (mdS o);generalize G.set id (.cells (srC (mdS o)))=M at*;unfold pl4 mdV;generalize nV o 2=a at*;generalize nV (nS o 2) 2=b at*;generalize ji.getD (nV (nS (nS o 2) 2) 5).toNat 0=s at*;generalize mdS o=J at*;simp[];exact xv e g rfl rfl (uA (i:={Inp.z with kind:=5,dv:=a==1,high:=b==1,scale:=s}) rfl rfl rfl rfl rfl)
 rw[O c4];by_cases c5:c=5
 ·subst c5;rw[Z rfl];simp[];exact p_5 e j g y
 rw[O c5];by_cases W:c=6
 ·subst W;rw[Z rfl];simp[uQ];refine sD (n_d 9 g.ob.c (g.ob.lt e) ⟨j,by omega⟩) ?_;exact p_6 e j g rfl
 rw[O W];simp[c0,c1,c2,c3,uQ,c4,c5,W];refine sD (rY 14 17 g.ob.c (g.ob.lt e) ⟨j,by omega⟩) ?_;rw[show(17:Int)-14+1=4 by omega];exact p_7 e j g y
noncomputable def dq{α:Type}(a b:α):Bool:= @decide (a=b) (Classical.propDecidable _)
theorem fa{a b:α}(h:a=b):dq a b=true:=by unfold dq;simp[h]
theorem dV{a b:α}(h:a≠b):dq a b=false:=by unfold dq;simp[h]
structure Fr(h h':AH):Prop where
 nx:h.nx<=h'.nx
 get:∀i,i<h.nx->h'.H.get i=h.H.get i
theorem Fr.refl(h:AH):Fr h h:=⟨ay _,λ_ _=>rfl⟩
theorem Fr.bump(f:Fr h h'){k:Nat}(a:h'.nx<=k):Fr h ⟨h'.H,k⟩:=⟨bf f.nx a,f.get⟩
theorem Fr.add(f:Fr h h')(o:bg):Fr h (h'.add o):=⟨by have:=f.nx;simp;omega,λi hi=>by have:=f.nx;rw[gan];exact f.get i hi⟩
theorem Fr.set(f:Fr h h'){k:Nat}(a:h.nx<=k)(o:bg):Fr h (h'.set k o):=⟨f.nx,λi hi=>by rw[gsn];exact f.get i hi⟩
theorem Fr.trans{h2:AH}(f:Fr h h1)(g:Fr h1 h2):Fr h h2:=⟨bf f.nx g.nx,λi hi=>by rw[g.get i (gq hi f.nx)];exact f.get i hi⟩
variable {P:Program}{args:LA}
theorem dj{f:Nat}{v:AV}(b:∀H,Frz H false v v)(e:ah P f args h λa h'=>a=v/\Fr h h'):ab P f args h v h:=
 kY e λa h' ⟨h1,h2⟩=>⟨by rw[h1];exact b _,h2.nx,h2.get⟩
theorem fS(a:Sl ys A):bn h A=some (I ys.length,h):=by
 rcases a with rfl|⟨rfl,rfl⟩<;>simp
theorem fW{z i:Nat}{c:LA}(b:Sl ys A)(a:ys[i]?=some c)(e:c.length=z):aC h z A (I i)=some (.ai c,h):=by
 rcases b with rfl|⟨rfl,rfl⟩
 ·exact gQ a e
 simp at a
theorem nG{l m:List α}{i:Nat}(h:l.take i=m.take i)(a:i<l.length)(b:i<m.length)(e:l[i]=m[i]):l.take (i+1)=m.take (i+1):=by
 rw[vD a,vD b,h,e]
inductive Q78(h:AH)(A B:AV)(L M:List Int):Nat->List AV->AH->Prop
 |mk {m:Nat} {h':AH} (i:Nat):i+m=L.length->L.take i=M.take i->Fr h h'->Q78 h A B L M m [A,B,I i] h'
theorem Uh(A B:AV)(L M:List Int)(y:Sl (rnC L) A/\Sl (rnC M) B/\L.length<=1000000000):ab prog 78 [A,B] h (.bool (dq L M)) h:=by
 obtain⟨r,s,J⟩:=y;refine dj (λ_=>.bool _) (C78 ?_);have g:∀h:AH,bn h A=some (I L.length,h):=λh=>by rw[fS r];simp[rnC]
 have u:∀h:AH,bn h B=some (I M.length,h):=λh=>by rw[fS s];simp[rnC]
 by_cases z:L.length=M.length
 ·have b:(L.length:Int)=M.length:=by omega
  simp[g78,g,u,b];refine⟨Q78 h A B L M,L.length,.mk 0 (by simp) rfl (Fr.refl h),?_⟩;rintro m vs h' ⟨i,G,o,fr⟩;cases m with
  |zero=>
   have a:¬(i:Int)<L.length:=by omega
   simp[yh,g,a,FK,Gk];have:L=M:=by
    rw[dH (by omega),dH (by omega)]at o;exact o
   exact⟨fa this,fr⟩
  |succ m=>
   have h1:i<L.length:=by omega
   have h2:i<M.length:=by omega
   have a:(i:Int)<L.length:=by omega
   have w:(i:Int)<M.length:=by omega
   have i1:∀h:AH,aC h 1 A (I i)=some (.ai [az L[i]],h):=λh=>fW r (by simp[rnC,h1]) rfl
   have i2:∀h:AH,aC h 1 B (I i)=some (.ai [az M[i]],h):=λh=>fW s (by simp[rnC,h2]) rfl
   have j:=fr.bump (k:=h'.nx+9) (by omega);by_cases he:L[i]=M[i]
   ·simp(disch:=first|go_size|fail)[yh,g,a,i1,Fs,i2,az,he];refine⟨m,by omega,?_⟩;exact .mk (i+1) (show i+1+m=L.length by omega) (nG o h1 h2 he) j
   simp[yh,g,a,i1,Fs,i2,az,he,FK];refine⟨dV λe=>he ?_,j⟩;simp only[e]
 have b:¬(L.length:Int)=M.length:=by omega
 simp[g78,g,u,b];exact⟨dV λe=>z (by rw[e]),Fr.refl h⟩
inductive Q79(h:AH)(B:AV)(N:List (Int×Int))(A:AV)(L:List (Int×Int)):Nat->List AV->AH->Prop
 |mk {m:Nat} {h':AH} (i:Nat) (T U:AV):i+m=L.length->L.take i=N.take i->Fr h h'->h'.E h.nx=some [T,A]->h'.E (h.nx+1)=some [U,B]->h.nx+2<=h'.nx->Q79 h B N A L m [.ptr h.nx 0,.ptr (h.nx+1) 0,I i] h'
theorem ad5(T A U B:AV)(t:List Int)(L:List (Int×Int))(u:List Int)(N:List (Int×Int))(K:Sl (rnC t) T/\Sl (chC L) A/\Sl (rnC u) U/\Sl (chC N) B/\t.length<=1000000000/\L.length<=1000000000):ab prog 79 [.agg [T,A],.agg [U,B]] h (.bool (dq t u&&dq L N)) h:=by
 obtain⟨y,s,z,w,j,V⟩:=K;refine dj (λ_=>.bool _) (C79 ?_);have W:=dJ y;have oA:=dJ s;have oU:=dJ z;have oB:=dJ w;have b1:cL h (.agg [T,A])=some (.ptr h.nx 0,h.add (.cells [T,A])):=by simp[cL]
 have b2:∀h:AH,cL h (.agg [U,B])=some (.ptr h.nx 0,h.add (.cells [U,B])):=λh=>by simp[cL]
 simp[g79,b1,b2];have fr:Fr h ((h.add (.cells [T,A])).add (.cells [U,B])):=((Fr.refl h).add _).add _;have c1:((h.add (.cells [T,A])).add (.cells [U,B])).E h.nx=some [T,A]:=by rw[can];exact cas
 have c2:((h.add (.cells [T,A])).add (.cells [U,B])).E (h.nx+1)=some [U,B]:=cas;have G:h.nx+2<=((h.add (.cells [T,A])).add (.cells [U,B])).nx:=by simp
 generalize(h.add (.cells [T,A])).add (.cells [U,B])=h1 at*;have r:∀h:AH,bn h A=some (I L.length,h):=λh=>by rw[fS s];simp[chC]
 have J:∀h:AH,bn h B=some (I N.length,h):=λh=>by rw[fS w];simp[chC]
 refine⟨λvs h2=>vs=[.ptr h.nx 0,.ptr (h.nx+1) 0,.bool (!(dq t u)||decide (L.length≠N.length))]/\h2=h1,?_,?_⟩
 ·simp[Vx,c1,c2];refine sD (Uh T U t u ⟨y,z,j⟩) ?_;cases dq t u
  ·simp[yp,yA]
  by_cases g:L.length=N.length
  ·have a:(L.length:Int)=N.length:=by omega
   simp[yp,c1,c2,r,J,a,yA,g]
  have a:¬(L.length:Int)=N.length:=by omega
  simp[yp,c1,c2,r,J,yA,g,a]
 rintro vs h2 ⟨rfl,rfl⟩;cases hd:dq t u
 ·simp[yL];exact fr
 by_cases g:L.length=N.length
 ·simp[yL,g];refine⟨Q79 h B N A L,L.length,.mk 0 T U (by simp) rfl fr c1 c2 G,?_⟩;rintro m vs h' ⟨i,T,U,M,j,fr,c1,c2,G⟩;cases m with
  |zero=>
   have b:¬(i:Int)<L.length:=by omega
   simp[Hl,c1,r,b,FD,Eu];have:L=N:=by
    rw[dH (by omega),dH (by omega)]at j;exact j
   exact⟨fa this,fr⟩
  |succ m=>
   have h1:i<L.length:=by omega
   have h2:i<N.length:=by omega
   have b:(i:Int)<L.length:=by omega
   have i1:∀h:AH,aC h 2 A (I i)=some (.ai [I L[i].1,I L[i].2],h):=λh=>fW s (by simp[chC,h1]) rfl
   have i2:∀h:AH,aC h 2 B (I i)=some (.ai [I N[i].1,I N[i].2],h):=λh=>fW w (by simp[chC,h2]) rfl
   have o:=fr.bump (k:=h'.nx+11) (by omega);simp[Hl,c1,r,b,i1];have heq:bo [.int .i64,.int .i64] [I L[i].1,I L[i].2] [I N[i].1,I N[i].2]=some (L[i].1==N[i].1&&L[i].2==N[i].2):=by simp[bo,fm]
   by_cases he:L[i]=N[i]
   ·have hb:(L[i].1==N[i].1&&L[i].2==N[i].2)=true:=by rw[he];simp
    rw[hb]at heq;simp(disch:=first|go_size|fail)[EL,c2,i2,heq,V4];exact⟨m,by omega,.mk (i+1) T U (show i+1+m=L.length by omega) (nG j h1 h2 he) o c1 c2 (by simp;omega)⟩
   have hb:(L[i].1==N[i].1&&L[i].2==N[i].2)=false:=by
    rw[vG];intro e;simp only[aI,fR]at e;exact he (Prod.ext e.1 e.2)
   rw[hb]at heq;simp[EL,c2,i2,heq,FD];exact⟨dV λe=>he (by simp only[e]),o⟩
 simp[yL,g];exact⟨dV λe=>g (by rw[e]),fr⟩
inductive WB:Val->Prop
 |mk (k n:Int) (s:Str) (l:List Val):l.length<=2000000000->(∀v∈l,WB v)->WB (.mk k n s l)
def zt(v:Val):Prop:=∀(w:Val) (h:AH),ab prog 77 [.agg (vC v),.agg (vC w)] h (.bool (dq v w)) h
theorem agO(a:∀v∈l,zt v)(v w:Val)(b:v∈l)(e:Q (.bool (dq v w)) h):tU prog 77 [.agg (vC v),.agg (vC w)] h Q:=sD (a v b w h) e
inductive Q77(h:AH)(v w:Val)(l m:List Val):Nat->List AV->AH->Prop
 |mk {n:Nat} {h':AH} (i:Nat):i+n=l.length->l.take i=m.take i->Fr h h'->h'.E h.nx=some (vC v)->h'.E (h.nx+1)=some (vC w)->h.nx+2<=h'.nx->Q77 h v w l m n [.ptr h.nx 0,.ptr (h.nx+1) 0,I i] h'
theorem acM(k n:Int)(s:Str)(l:List Val)(hl:l.length<=2000000000)(W:∀v∈l,zt v):zt (.mk k n s l):=by
 rintro⟨g,j,o,a⟩ h;refine dj (λ_=>.bool _) (C77 ?_);have y:vC (.mk k n s l)=[I k,I n,.str s,.psl (vCs l)]:=by simp[vC]
 have z:vC (.mk g j o a)=[I g,I j,.str o,.psl (vCs a)]:=by simp[vC]
 simp[g77];have fr:Fr h ((h.add (.cells (vC (.mk k n s l)))).add (.cells (vC (.mk g j o a)))):=((Fr.refl h).add _).add _;have c1:((h.add (.cells (vC (.mk k n s l)))).add (.cells (vC (.mk g j o a)))).E h.nx=some (vC (.mk k n s l)):=by rw[can];exact cas
 have c2:((h.add (.cells (vC (.mk k n s l)))).add (.cells (vC (.mk g j o a)))).E (h.nx+1)=some (vC (.mk g j o a)):=cas;have M:h.nx+2<=((h.add (.cells (vC (.mk k n s l)))).add (.cells (vC (.mk g j o a)))).nx:=by simp
 generalize(h.add (.cells (vC (.mk k n s l)))).add (.cells (vC (.mk g j o a)))=h1 at*;have d1:=c1;have d2:=c2;rw[y]at d1;rw[z]at d2;obtain⟨w,r⟩:∃w,w=decide (¬(k=g/\n=j/\s=o/\l.length=a.length)):=⟨_,rfl⟩;have J:(vCs l).length=l.length:=gP l;have V:(vCs a).length=a.length:=gP a;refine⟨λvs h2=>vs=[.ptr h.nx 0,.ptr (h.nx+1) 0,.bool w]/\h2=h1,?_,?_⟩
 ·rw[r];by_cases q1:k=g
  ·subst q1;by_cases q2:n=j
   ·subst q2;by_cases q3:s=o
    ·subst q3;by_cases N:l.length=a.length
     ·have B:(l.length:Int)=a.length:=by omega
      simp[uU,d1,d2,uG,d1,d2,uH,d1,d2,J,V,N,uR]
     have B:¬(l.length:Int)=a.length:=by omega
     simp[uU,d1,d2,uG,d1,d2,uH,d1,d2,J,V,uR,N,B]
    simp[uU,d1,d2,uG,d1,d2,q3,uH,uR,q3]
   simp[uU,d1,d2,q2,uG,d1,d2,q2,uH,uR]
  simp[uU,d1,d2,q1,uG,uH,uR]
 rintro vs h2 ⟨rfl,rfl⟩;by_cases K:k=g/\n=j/\s=o/\l.length=a.length
 ·have:w=false:=by rw[r];simp only[K];simp
  rw[this];obtain⟨rfl,rfl,rfl,N⟩:=K;simp[HN];refine⟨Q77 h (.mk k n s l) (.mk k n s a) l a,l.length,.mk 0 (by simp) rfl fr c1 c2 M,?_⟩;clear d1 d2 c1 c2 fr M;rintro m vs h' ⟨i,ad,U,fr,c1,c2,M⟩;have d1:=c1;have d2:=c2;rw[y]at d1;rw[z]at d2;cases m with
  |zero=>
   have u:¬(i:Int)<l.length:=by omega
   simp[FZ,d1,J,u,Fx,Ge];have:l=a:=by
    rw[dH (by omega),dH (by omega)]at U;exact U
   exact⟨fa (by rw[this]),fr⟩
  |succ m=>
   have h1:i<l.length:=by omega
   have h2:i<a.length:=by omega
   have u:(i:Int)<l.length:=by omega
   have i1:∀h:AH,aC h 4 (.psl (vCs l)) (I i)=some (.ai (vC l[i]),h):=λh=>gQ (mC h1) (ch _)
   have i2:∀h:AH,aC h 4 (.psl (vCs a)) (I i)=some (.ai (vC a[i]),h):=λh=>gQ (mC h2) (ch _)
   have k1:cut (vC l[i]) 0 4=some (vC l[i]):=by
    have:=cS (α:=vC l[i]) (b:=[]) (n:=4) (ch _);rwa [bO]at this
   have k2:cut (vC a[i]) 0 4=some (vC a[i]):=by
    have:=cS (α:=vC a[i]) (b:=[]) (n:=4) (ch _);rwa [bO]at this
   have G:=fr.bump (k:=h'.nx+12) (by omega);simp[FZ,d1,J,u,i1,T_,d2,i2,k1,k2];refine agO W _ _ (gG h1) ?_;refine⟨by simp,?_⟩;by_cases he:l[i]=a[i]
   ·rw[fa he];simp(disch:=first|go_size|fail)[VK];exact⟨m,by omega,.mk (i+1) (show i+1+m=l.length by omega) (nG U h1 h2 he) G c1 c2 (by simp;omega)⟩
   rw[dV he];simp[Td,Fx];exact⟨dV λe=>he (by cases e;rfl),G⟩
 have:w=true:=by rw[r];simp only[K];simp
 rw[this];simp[HN];exact⟨dV λe=>K (by cases e;exact⟨rfl,rfl,rfl,rfl⟩),fr⟩
theorem afV:∀ {v:Val},WB v->zt v:=λa=>by
 induction a with
 |mk k n s l b _ e=>exact acM k n s l b e
theorem ac5(v w:Val)(a:WB v):ab prog 77 [.agg (vC v),.agg (vC w)] h (.bool (dq v w)) h:=afV a w h
inductive Q33(h:AH)(A B:AV)(L M:List Val):Nat->List AV->AH->Prop
 |mk {m:Nat} {h':AH} (i:Nat):i+m=L.length->L.take i=M.take i->Fr h h'->Q33 h A B L M m [A,B,I i] h'
theorem adI(A B:AV)(L M:List Val)(y:Sl (vCs L) A/\Sl (vCs M) B/\L.length<=2000000000/\∀v∈L,WB v):ab prog 33 [A,B] h (.bool (dq L M)) h:=by
 obtain⟨s,u,J,hw⟩:=y;refine dj (λ_=>.bool _) (C33 ?_);have o:∀h:AH,bn h A=some (I L.length,h):=λh=>by rw[fS s,gP]
 have w:∀h:AH,bn h B=some (I M.length,h):=λh=>by rw[fS u,gP]
 by_cases z:L.length=M.length
 ·have a:(L.length:Int)=M.length:=by omega
  simp[g33,o,w,a];refine⟨Q33 h A B L M,L.length,.mk 0 (by simp) rfl (Fr.refl h),?_⟩;rintro m vs h' ⟨i,G,r,fr⟩;cases m with
  |zero=>
   have g:¬(i:Int)<L.length:=by omega
   simp[FC,o,g,FX,GK];have:L=M:=by
    rw[dH (by omega),dH (by omega)]at r;exact r
   exact⟨fa this,fr⟩
  |succ m=>
   have h1:i<L.length:=by omega
   have h2:i<M.length:=by omega
   have g:(i:Int)<L.length:=by omega
   have i1:∀h:AH,aC h 4 A (I i)=some (.ai (vC L[i]),h):=λh=>fW s (mC h1) (ch _)
   have i2:∀h:AH,aC h 4 B (I i)=some (.ai (vC M[i]),h):=λh=>fW u (mC h2) (ch _)
   have k1:cut (vC L[i]) 0 4=some (vC L[i]):=by
    have:=cS (α:=vC L[i]) (b:=[]) (n:=4) (ch _);rwa [bO]at this
   have k2:cut (vC M[i]) 0 4=some (vC M[i]):=by
    have:=cS (α:=vC M[i]) (b:=[]) (n:=4) (ch _);rwa [bO]at this
   have j:=fr.bump (k:=h'.nx+10) (by omega);simp[FC,o,g,i1,k1,UB,i2,k2];refine sD (ac5 _ _ (hw _ (gG h1))) ?_;refine⟨by simp,?_⟩;by_cases he:L[i]=M[i]
   ·rw[fa he];simp(disch:=first|go_size|fail)[];refine⟨m,by omega,?_⟩;exact .mk (i+1) (show i+1+m=L.length by omega) (nG r h1 h2 he) j
   rw[dV he];simp[FX];exact⟨dV λe=>he (by simp only[e]),j⟩
 have a:¬(L.length:Int)=M.length:=by omega
 simp[g33,o,w,a];exact⟨dV λe=>z (by rw[e]),Fr.refl h⟩
def pd(p:Prop):Bool:= @decide p (Classical.propDecidable _)
variable {p:Prop}
theorem km(h:p):pd p=true:=by unfold pd;simp[h]
theorem bI(h:¬p):pd p=false:=by unfold pd;simp[h]
def txG(i:Inp)(T CT CR C:AV):LA:=[I i.tk,T,CT,CR,I i.unit,I i.dir,.bool i.ext,I i.n,I i.a,I i.b,I i.x,I i.y,I i.dE,C,I i.tt]
def teF(i j:Inp):Prop:=i.tk=j.tk/\i.unit=j.unit/\i.dir=j.dir/\i.ext=j.ext/\i.n=j.n/\i.a=j.a/\i.b=j.b/\(i.x=j.x/\i.y=j.y)/\i.dE=j.dE/\i.tt=j.tt
def teE(i j:Inp):Prop:=(i.cls=j.cls/\i.t=j.t/\i.ct=j.ct/\i.cr=j.cr)/\teF i j
theorem aeP{h h1:AH}{i j:Inp}{T CT CR C T' CT' CR' C':AV}(e:Fr h h1)(g:h1.E h.nx=some (txG i T CT CR C))(o:h1.E (h.nx+1)=some (txG j T' CT' CR' C')):
  kq (.ptr h.nx 0) (.ptr (h.nx+1) 0) h1 λv h'=>v =.bool (pd (teF i j))/\Fr h h':=by
 have heq:bo [.int .i64,.int .i64] [I i.x,I i.y] [I j.x,I j.y]=some (decide (i.x=j.x/\i.y=j.y)):=by simp[bo,fm,lC]
 have i0:(txG i T CT CR C)[0]?=some (I i.tk):=rfl;have i4:(txG i T CT CR C)[4]?=some (I i.unit):=rfl;have i5:(txG i T CT CR C)[5]?=some (I i.dir):=rfl;have i6:(txG i T CT CR C)[6]?=some (.bool i.ext):=rfl;have i7:(txG i T CT CR C)[7]?=some (I i.n):=rfl;have i8:(txG i T CT CR C)[8]?=some (I i.a):=rfl;have i9:(txG i T CT CR C)[9]?=some (I i.b):=rfl;have i12:(txG i T CT CR C)[12]?=some (I i.dE):=rfl;have i14:(txG i T CT CR C)[14]?=some (I i.tt):=rfl;have r:cut (txG i T CT CR C) 10 2=some [I i.x,I i.y]:=rfl;have s:(txG j T' CT' CR' C')[0]?=some (I j.tk):=rfl;have u:(txG j T' CT' CR' C')[4]?=some (I j.unit):=rfl;have w:(txG j T' CT' CR' C')[5]?=some (I j.dir):=rfl;have z:(txG j T' CT' CR' C')[6]?=some (.bool j.ext):=rfl;have B:(txG j T' CT' CR' C')[7]?=some (I j.n):=rfl;have G:(txG j T' CT' CR' C')[8]?=some (I j.a):=rfl;have J:(txG j T' CT' CR' C')[9]?=some (I j.b):=rfl;have W:(txG j T' CT' CR' C')[12]?=some (I j.dE):=rfl;have ad:(txG j T' CT' CR' C')[14]?=some (I j.tt):=rfl;have K:cut (txG j T' CT' CR' C') 10 2=some [I j.x,I j.y]:=rfl;generalize txG i T CT CR C=X at*;generalize txG j T' CT' CR' C'=Y at*;by_cases q1:i.tk=j.tk
 rotate_left
 ·simp[kq,lO,lQ,lV,lU,l8,lX,l_,g,o,i0,i4,i5,i6,i7,i8,i9,s,u,w,z,B,G,J,r,K,q1];exact⟨bI (by simp only[teF,q1,dm,cB]),e⟩
 by_cases q2:i.unit=j.unit
 rotate_left
 ·simp[kq,lO,lQ,lV,lU,l8,lX,l_,g,o,i0,i4,i5,i6,i7,i8,i9,s,u,w,z,B,G,J,r,K,q1,q2];exact⟨bI (by simp only[teF,q2,dm,du,cB]),e⟩
 by_cases q3:i.dir=j.dir
 rotate_left
 ·simp[kq,lO,lQ,lV,lU,l8,lX,l_,g,o,i0,i4,i5,i6,i7,i8,i9,s,u,w,z,B,G,J,r,K,q1,q2,q3];exact⟨bI (by simp only[teF,q3,dm,du,cB]),e⟩
 by_cases M:i.ext=j.ext
 rotate_left
 ·simp[kq,lO,lQ,lV,lU,l8,lX,l_,g,o,i0,i4,i5,i6,i7,i8,i9,s,u,w,z,B,G,J,r,K,q1,q2,q3,M];exact⟨bI (by simp only[teF,M,dm,du,cB]),e⟩
 by_cases N:i.n=j.n
 rotate_left
 ·simp[kq,lO,lQ,lV,lU,l8,lX,l_,g,o,i0,i4,i5,i6,i7,i8,i9,s,u,w,z,B,G,J,r,K,q1,q2,q3,M,N];exact⟨bI (by simp only[teF,N,dm,du,cB]),e⟩
 by_cases U:i.a=j.a
 rotate_left
 ·simp[kq,lO,lQ,lV,lU,l8,lX,l_,g,o,i0,i4,i5,i6,i7,i8,i9,s,u,w,z,B,G,J,r,K,q1,q2,q3,M,N,U];exact⟨bI (by simp only[teF,U,dm,du,cB]),e⟩
 by_cases V:i.b=j.b
 rotate_left
 ·simp[kq,lO,lQ,lV,lU,l8,lX,l_,g,o,i0,i4,i5,i6,i7,i8,i9,s,u,w,z,B,G,J,r,K,q1,q2,q3,M,N,U,V];exact⟨bI (by simp only[teF,V,dm,du,cB]),e⟩
 by_cases q8:i.x=j.x/\i.y=j.y
 rotate_left
 ·rw[dx q8]at heq;simp[kq,lO,lQ,lV,lU,l8,lX,l_,g,o,i0,i4,i5,i6,i7,i8,i9,s,u,w,z,B,G,J,r,K,q1,q2,q3,M,N,U,V,heq];exact⟨bI (by simp only[teF,q8,dm,du,cB]),e⟩
 rw[eD q8]at heq;by_cases q9:i.dE=j.dE
 rotate_left
 ·simp[kq,lO,lQ,lV,lU,l8,lX,l_,g,o,i0,i4,i5,i6,i7,i8,i9,i12,i14,s,u,w,z,B,G,J,W,ad,r,K,q1,q2,q3,M,N,U,V,heq,q9];exact⟨bI (by simp only[teF,q9,dm,du,cB]),e⟩
 by_cases qa:i.tt=j.tt
 rotate_left
 ·simp[kq,lO,lQ,lV,lU,l8,lX,l_,g,o,i0,i4,i5,i6,i7,i8,i9,i12,i14,s,u,w,z,B,G,J,W,ad,r,K,q1,q2,q3,M,N,U,V,heq,q9];exact⟨by rw[bI (by simp only[teF,qa,du,cB])];simpa using qa,e⟩
 simp[kq,lO,lQ,lV,lU,l8,lX,l_,g,o,i0,i4,i5,i6,i7,i8,i9,i12,i14,s,u,w,z,B,G,J,W,ad,r,K,q1,q2,q3,M,N,U,V,heq,q9,qa];exact⟨km ⟨q1,q2,q3,M,N,U,V,q8,q9,qa⟩,e⟩
inductive Q34(h:AH)(X Y:List AV)(C C':AV)(L N:List (Int×Bool)):Nat->List AV->AH->Prop
 |mk {m:Nat} {h':AH} (i:Nat):i+m=L.length->L.take i=N.take i->Fr h h'->h'.E h.nx=some X->h'.E (h.nx+1)=some Y->h.nx+2<=h'.nx->Q34 h X Y C C' L N m [.ptr h.nx 0,.ptr (h.nx+1) 0,I i] h'
theorem abk(i j:Inp)(T CT CR C T' CT' CR' C':AV)(hx:(Sl (rnC i.t) T/\Sl (rnC i.ct) CT/\Sl (chC i.cr) CR/\Sl (cbC i.cls) C)/\(Sl (rnC j.t) T'/\Sl (rnC j.ct) CT'/\Sl (chC j.cr) CR'/\Sl (cbC j.cls) C')/\i.t.length<=1000000000/\i.ct.length<=1000000000/\i.cr.length<=1000000000/\i.cls.length<=2000000000):ab prog 34 [.agg (txG i T CT CR C),.agg (txG j T' CT' CR' C')] h (.bool (pd (teE i j))) h:=by
 obtain⟨⟨hT,M,N,hC⟩,⟨U,s,u,w⟩,b1,b2,b3,b4⟩:=hx;refine dj (λ_=>.bool _) (C34 ?_);have o1:aM (txG i T CT CR C)=true:=by
  have a1:=dJ hT;have a2:=dJ M;have a3:=dJ N;have a4:=dJ hC;simp only[txG,aM,nE,a1,a2,a3,a4];rfl
 have o2:aM (txG j T' CT' CR' C')=true:=by
  have a1:=dJ U;have a2:=dJ s;have a3:=dJ u;have a4:=dJ w;simp only[txG,aM,nE,a1,a2,a3,a4];rfl
 have o:(txG i T CT CR C)[13]?=some C:=rfl;have x1:(txG i T CT CR C)[1]?=some T:=rfl;have xc:cut (txG i T CT CR C) 2 2=some [CT,CR]:=rfl;have r:(txG j T' CT' CR' C')[13]?=some C':=rfl;have y1:(txG j T' CT' CR' C')[1]?=some T':=rfl;have yc:cut (txG j T' CT' CR' C') 2 2=some [CT',CR']:=rfl;simp[g34];have fr:Fr h ((h.add (.cells (txG i T CT CR C))).add (.cells (txG j T' CT' CR' C'))):=((Fr.refl h).add _).add _;have c1:((h.add (.cells (txG i T CT CR C))).add (.cells (txG j T' CT' CR' C'))).E h.nx=some (txG i T CT CR C):=by rw[can];exact cas
 have c2:((h.add (.cells (txG i T CT CR C))).add (.cells (txG j T' CT' CR' C'))).E (h.nx+1)=some (txG j T' CT' CR' C'):=cas;have hn:h.nx+2<=((h.add (.cells (txG i T CT CR C))).add (.cells (txG j T' CT' CR' C'))).nx:=by simp
 generalize(h.add (.cells (txG i T CT CR C))).add (.cells (txG j T' CT' CR' C'))=h1 at*;have l1:∀h:AH,bn h C=some (I i.cls.length,h):=λh=>by rw[fS hC];simp[cbC]
 have l2:∀h:AH,bn h C'=some (I j.cls.length,h):=λh=>by rw[fS w];simp[cbC]
 obtain⟨fl,g⟩:∃fl,fl=(decide (i.cls.length≠j.cls.length)||(!(dq i.t j.t) || !(dq i.ct j.ct&&dq i.cr j.cr))):=⟨_,rfl⟩;have W:= @aeP h;refine⟨λvs h2=>vs=[.ptr h.nx 0,.ptr (h.nx+1) 0,.bool fl]/\h2=h1,?_,?_⟩
 ·by_cases hl:i.cls.length=j.cls.length
  ·have y:(i.cls.length:Int)=j.cls.length:=by omega
   rw[dx (by simpa using hl),Bool.false_or]at g;simp[Gw,c1,c2,o,r,l1,l2,y,HY,c1,c2,x1,y1];refine sD (Uh T T' i.t j.t ⟨hT,U,b1⟩) ?_;cases K:dq i.t j.t
   ·rw[K]at g;simp[xP,g]
   rw[K]at g;simp[c1,xc,xP,c2,yc];refine sD (ad5 CT CR CT' CR' i.ct i.cr j.ct j.cr ⟨M,N,s,u,b2,b3⟩) ?_;rw[g];simp[]
  have y:¬(i.cls.length:Int)=j.cls.length:=by omega
  rw[eD hl,Bool.true_or]at g;simp[Gw,c1,c2,o,r,l1,l2,y,HY,xP,g]
 rintro vs h2 ⟨rfl,rfl⟩;cases hf:fl
 ·rw[hf]at g;have g:=g.symm;simp only[kh,vO,jx,aI,ne_eq,tS]at g;obtain⟨hl,ht,z,B⟩:=g;have G:∀ {α:Type} {a b:α},dq a b=true->a=b:=fun {α a b} e=>by unfold dq at e;simpa using e
  have ht:=G ht;have z:=G z;have B:=G B;simp[Hh];refine⟨Q34 h (txG i T CT CR C) (txG j T' CT' CR' C') C C' i.cls j.cls,i.cls.length,.mk 0 (by simp) rfl fr c1 c2 hn,?_⟩;clear c1 c2 fr hn;rintro m vs h' ⟨q,af,K,fr,c1,c2,hn⟩;cases m with
  |zero=>
   have J:¬(q:Int)<i.cls.length:=by omega
   simp[EB,c1,o,l1,J];unfold HD;simp[];have ad:i.cls=j.cls:=by
    rw[dH (by omega),dH (by omega)]at K;exact K
   have:=W (i:=i) (j:=j) (T:=T) (CT:=CT) (CR:=CR) (C:=C) (T':=T') (CT':=CT') (CR':=CR') (C':=C') fr c1 c2;have e:pd (teE i j)=pd (teF i j):=by
    by_cases hp:teF i j
    ·rw[km hp,km ⟨⟨ad,ht,z,B⟩,hp⟩]
    rw[bI hp,bI λe=>hp e.2]
   rw[e];exact this
  |succ m=>
   have h1:q<i.cls.length:=by omega
   have h2:q<j.cls.length:=by omega
   have J:(q:Int)<i.cls.length:=by omega
   have i1:∀h:AH,aC h 2 C (I q)=some (.ai [I i.cls[q].1,.bool i.cls[q].2],h):=λh=>fW hC (by simp[cbC,h1]) rfl
   have i2:∀h:AH,aC h 2 C' (I q)=some (.ai [I j.cls[q].1,.bool j.cls[q].2],h):=λh=>fW w (by simp[cbC,h2]) rfl
   have V:=fr.bump (k:=h'.nx+11) (by omega);simp[EB,c1,o,l1,J,i1];have heq:bo [.int .i64,.bool] [I i.cls[q].1,.bool i.cls[q].2] [I j.cls[q].1,.bool j.cls[q].2]=some (i.cls[q].1==j.cls[q].1&&i.cls[q].2==j.cls[q].2):=by simp[bo,fm]
   by_cases he:i.cls[q]=j.cls[q]
   ·have hb:(i.cls[q].1==j.cls[q].1&&i.cls[q].2==j.cls[q].2)=true:=by rw[he];simp
    rw[hb]at heq;simp(disch:=first|go_size|fail)[F4,c2,r,i2,heq,Xl];exact⟨m,by omega,.mk (q+1) (show q+1+m=i.cls.length by omega) (nG K h1 h2 he) V c1 c2 (by simp;omega)⟩
   have hb:(i.cls[q].1==j.cls[q].1&&i.cls[q].2==j.cls[q].2)=false:=by
    rw[vG];intro e;simp only[aI,fR]at e;exact he (Prod.ext e.1 e.2)
   rw[hb]at heq;simp[F4,c2,r,i2,heq,HD];exact⟨bI λe=>he (by simp only[e.1.1]),V⟩
 rw[hf]at g;simp[Hh];refine⟨bI ?_,fr⟩;rintro⟨⟨e1,e2,e3,e4⟩,_⟩;rw[fa e2,fa e3,fa e4,e1]at g;simp at g
def eqI(i j:Inp):Prop:=i.kind=j.kind/\(i.pk=j.pk/\i.pid=j.pid/\i.px=j.px/\i.py=j.py/\i.pt=j.pt/\i.pw=j.pw)/\(i.key=j.key/\i.cH=j.cH)/\i.time=j.time/\(i.sw=j.sw/\i.sh=j.sh)/\(i.dv=j.dv/\i.high=j.high/\i.scale=j.scale)/\i.args=j.args/\(i.ver=j.ver/\i.node=j.node/\i.act=j.act/\i.frm=j.frm/\i.too=j.too/\i.rt=j.rt)/\teE i j
theorem Bh(i j:Inp):eqI i j↔i=j:=by
 constructor
 ·rintro⟨h1,⟨h2,h3,h4,h5,h6,h7⟩,⟨h8,h9⟩,a,⟨b,e⟩,⟨g,o,r⟩,s,⟨u,w,y,z,B,G⟩,⟨J,K,M,N⟩,U,V,W,ad,af,aj,al,⟨an,ao⟩,ar,av⟩;cases i;cases j;simp only at*;subst h1 h2 h3 h4 h5 h6 h7 h8 h9 a b e g o r s u w y z B G J K M N U V W ad af aj al an ao ar av;rfl
 rintro rfl;simp[eqI,teE,teF]
structure InB(i:Inp):Prop where
 args:i.args.length<=2000000000
 wb:∀v∈i.args,WB v
 t:i.t.length<=1000000000
 ct:i.ct.length<=1000000000
 cr:i.cr.length<=1000000000
 cls:i.cls.length<=2000000000
theorem acq(i j:Inp)(cs ds:LA)(hx:InC i cs/\InC j ds/\InB i):ab prog 18 [.agg cs,.agg ds] h (.bool (dq i j)) h:=by
 obtain⟨⟨A,T,CT,CR,C,rfl,hA,hT,ad,af,hC⟩,⟨a,T',CT',CR',C',rfl,aj,al,B,G,an⟩,s⟩:=hx;have e0:dq i j=pd (eqI i j):=by
  by_cases he:i=j
  ·rw[fa he,km ((Bh i j).2 he)]
  rw[dV he,bI λe=>he ((Bh i j).1 e)]
 rw[e0];refine dj (λ_=>.bool _) (C18 ?_);have r:Sl (vCs i.args) A/\Sl (vCs j.args) a/\i.args.length<=2000000000/\∀v∈i.args,WB v:=⟨hA,aj,s.args,s.wb⟩;have ao:(Sl (rnC i.t) T/\Sl (rnC i.ct) CT/\Sl (chC i.cr) CR/\Sl (cbC i.cls) C)/\(Sl (rnC j.t) T'/\Sl (rnC j.ct) CT'/\Sl (chC j.cr) CR'/\Sl (cbC j.cls) C')/\i.t.length<=1000000000/\i.ct.length<=1000000000/\i.cr.length<=1000000000/\i.cls.length<=2000000000:=⟨⟨hT,ad,af,hC⟩,⟨al,B,G,an⟩,s.t,s.ct,s.cr,s.cls⟩;simp[g18];have fr:Fr h ((h.add (.cells (inG i A T CT CR C))).add (.cells (inG j a T' CT' CR' C'))):=((Fr.refl h).add _).add _;have d1:((h.add (.cells (inG i A T CT CR C))).add (.cells (inG j a T' CT' CR' C'))).E h.nx=some (inG i A T CT CR C):=by rw[can];exact cas
 have d2:((h.add (.cells (inG i A T CT CR C))).add (.cells (inG j a T' CT' CR' C'))).E (h.nx+1)=some (inG j a T' CT' CR' C'):=cas;generalize(h.add (.cells (inG i A T CT CR C))).add (.cells (inG j a T' CT' CR' C'))=h1 at*;have i0:(inG i A T CT CR C)[0]?=some (I i.kind):=rfl;have i9:(inG i A T CT CR C)[9]?=some (I i.time):=rfl;have i15:(inG i A T CT CR C)[15]?=some A:=rfl;have ip:cut (inG i A T CT CR C) 1 6=some [I i.pk,I i.pid,I i.px,I i.py,I i.pt,I i.pw]:=rfl;have w:cut (inG i A T CT CR C) 7 2=some [I i.key,I i.cH]:=rfl;have J:cut (inG i A T CT CR C) 10 2=some [I i.sw,I i.sh]:=rfl;have im:cut (inG i A T CT CR C) 12 3=some [.bool i.dv,.bool i.high,I i.scale]:=rfl;have ir:cut (inG i A T CT CR C) 16 6=some [I i.ver,I i.node,I i.act,I i.frm,I i.too,.str i.rt]:=rfl;have it:cut (inG i A T CT CR C) 22 15=some (txG i T CT CR C):=rfl;have g:(inG j a T' CT' CR' C')[0]?=some (I j.kind):=rfl;have K:(inG j a T' CT' CR' C')[9]?=some (I j.time):=rfl;have ar:(inG j a T' CT' CR' C')[15]?=some a:=rfl;have jp:cut (inG j a T' CT' CR' C') 1 6=some [I j.pk,I j.pid,I j.px,I j.py,I j.pt,I j.pw]:=rfl;have y:cut (inG j a T' CT' CR' C') 7 2=some [I j.key,I j.cH]:=rfl;have M:cut (inG j a T' CT' CR' C') 10 2=some [I j.sw,I j.sh]:=rfl;have jm:cut (inG j a T' CT' CR' C') 12 3=some [.bool j.dv,.bool j.high,I j.scale]:=rfl;have jr:cut (inG j a T' CT' CR' C') 16 6=some [I j.ver,I j.node,I j.act,I j.frm,I j.too,.str j.rt]:=rfl;have jt:cut (inG j a T' CT' CR' C') 22 15=some (txG j T' CT' CR' C'):=rfl
 have b:bo [.int .i64,.int .i64,.int .i64,.int .i64,.int .i64,.int .i64] [I i.pk,I i.pid,I i.px,I i.py,I i.pt,I i.pw] [I j.pk,I j.pid,I j.px,I j.py,I j.pt,I j.pw]=some (decide (i.pk=j.pk/\i.pid=j.pid/\i.px=j.px/\i.py=j.py/\i.pt=j.pt/\i.pw=j.pw)):=by simp[bo,fm,lC]
 have o:bo [.int .i64,.int .i64] [I i.key,I i.cH] [I j.key,I j.cH]=some (decide (i.key=j.key/\i.cH=j.cH)):=by simp[bo,fm,lC]
 have z:bo [.int .i64,.int .i64] [I i.sw,I i.sh] [I j.sw,I j.sh]=some (decide (i.sw=j.sw/\i.sh=j.sh)):=by simp[bo,fm,lC]
 have em:bo [.bool,.bool,.int .i64] [.bool i.dv,.bool i.high,I i.scale] [.bool j.dv,.bool j.high,I j.scale]=some (decide (i.dv=j.dv/\i.high=j.high/\i.scale=j.scale)):=by simp[bo,fm,lC]
 have N:bo [.int .i64,.int .i64,.int .i64,.int .i64,.int .i64,.str] [I i.ver,I i.node,I i.act,I i.frm,I i.too,.str i.rt] [I j.ver,I j.node,I j.act,I j.frm,I j.too,.str j.rt]=some (decide (i.ver=j.ver/\i.node=j.node/\i.act=j.act/\i.frm=j.frm/\i.too=j.too/\i.rt=j.rt)):=by simp[bo,fm,lC]
 generalize inG i A T CT CR C=X at*;generalize inG j a T' CT' CR' C'=Y at*;by_cases q1:i.kind=j.kind
 rotate_left
 ·simp[qy,qj,qk,qD,qu,n9,d1,d2,i0,ip,g,jp,q1];exact⟨bI (by simp only[eqI,q1,dm,cB]),fr⟩
 by_cases q2:i.pk=j.pk/\i.pid=j.pid/\i.px=j.px/\i.py=j.py/\i.pt=j.pt/\i.pw=j.pw
 rotate_left
 ·rw[dx q2]at b;simp[qy,qj,qk,qD,qu,n9,d1,d2,i0,ip,g,jp,q1,b];exact⟨bI (by simp only[eqI,q2,dm,du,cB]),fr⟩
 rw[eD q2]at b;by_cases q3:i.key=j.key/\i.cH=j.cH
 rotate_left
 ·rw[dx q3]at o;simp[qy,qj,qk,qD,qu,n9,d1,d2,i0,ip,w,g,jp,y,q1,b,o];exact⟨bI (by simp only[eqI,q3,dm,du,cB]),fr⟩
 rw[eD q3]at o;by_cases u:i.time=j.time
 rotate_left
 ·simp[qy,qj,qk,qD,qu,n9,d1,d2,i0,i9,ip,w,J,g,K,jp,y,M,q1,b,o,u];exact⟨bI (by simp only[eqI,u,dm,du,cB]),fr⟩
 by_cases U:i.sw=j.sw/\i.sh=j.sh
 rotate_left
 ·rw[dx U]at z;simp[qy,qj,qk,qD,qu,n9,d1,d2,i0,i9,ip,w,J,g,K,jp,y,M,q1,b,o,u,z];exact⟨bI (by simp only[eqI,U,dm,du,cB]),fr⟩
 rw[eD U]at z;by_cases V:i.dv=j.dv/\i.high=j.high/\i.scale=j.scale
 rotate_left
 ·rw[dx V]at em;simp[qy,qj,qk,qD,qu,n9,d1,d2,i0,i9,ip,w,J,im,g,K,jp,y,M,jm,q1,b,o,u,z,em];exact⟨bI (by simp only[eqI,V,dm,du,cB]),fr⟩
 rw[eD V]at em;simp[qy,qj,qk,qD,qu,d1,d2,i0,i9,i15,ip,w,J,im,g,K,ar,jp,y,M,jm,q1,b,o,u,z,em];refine sD (adI A a i.args j.args r) ?_;by_cases W:i.args=j.args
 rotate_left
 ·rw[dV W];simp[n9];exact⟨bI (by simp only[eqI,W,dm,du,cB]),fr⟩
 rw[fa W];by_cases q8:i.ver=j.ver/\i.node=j.node/\i.act=j.act/\i.frm=j.frm/\i.too=j.too/\i.rt=j.rt
 rotate_left
 ·rw[dx q8]at N;simp[n9,d1,d2,ir,jr,N];exact⟨bI (by simp only[eqI,q8,dm,du,cB]),fr⟩
 rw[eD q8]at N;simp[n9,d1,d2,ir,it,jr,jt,N];refine sD (abk i j T CT CR C T' CT' CR' C' ao) ?_;by_cases q9:teE i j
 rotate_left
 ·rw[bI q9];simp[];exact⟨bI (by simp only[eqI,q9,du,cB]),fr⟩
 rw[km q9];simp[];exact⟨km ⟨q1,q2,q3,u,U,V,W,q8,q9⟩,fr⟩
theorem InC.len(h:InC i cs):cs.length=37:=by
 obtain⟨A,T,CT,CR,C,rfl,_⟩:=h;rfl
def vk(b:List Inp)(a:List (LA)):Prop:=b.length=a.length/\∀(k:Nat) (i:Inp) (c:LA),b[k]?=some i->a[k]?=some c->InC i c
theorem vV:∀(n:Nat) (l:List UInt8),(iL n l).length<=n
 |0,l=>by cases l<;>simp[iL]
 |n+1,[]=>by simp[iL]
 |n+1,b::l=>by
  have:=vV n;simp only[iL,aF];exact Nat.succ_le_succ (this _)
theorem e!(l:List UInt8):(ak l).length<=l.length:=vV _ _
theorem Z6(s:Str)(V:RS->Val×RS):∀(n:Nat) (acc:List Val) (t:RS),(iu s V n acc t).1.length<=acc.length+n
 |0,acc,t=>by simp[iu]
 |n+1,acc,t=>by
  unfold iu;split
  ·simp only;omega
  split
  ·simp only;omega
  have:=Z6 s V n (acc++[(V (if acc=[]then t else ae s t)).1]) (V (if acc=[]then t else ae s t)).2;simp at this;omega
theorem Lg(s:Str)(V:RS->Val×RS)(hV:∀t,WB (V t).1):∀(n:Nat) (acc:List Val) (t:RS),(∀v∈acc,WB v)->∀v∈(iu s V n acc t).1,WB v
 |0,acc,t,h=>h
 |n+1,acc,t,h=>by
  unfold iu;split
  ·exact h
  split
  ·exact h
  refine Lg s V hV n _ _ λv a=>?_
  rcases nC.1 a with a|a
  ·exact h v a
  rw[j6.1 a];exact hV _
theorem wb0(k n:Int)(s:Str):WB (.mk k n s []):=.mk _ _ _ _ (by simp) (by simp)
theorem Nk(s:Str)(L:RS->Val×RS)(a:∀t,WB (L t).1)(t:RS):WB (mN s L t).1:=by
 unfold mN
 (repeat' split)
 ·exact wb0 _ _ _
 ·exact wb0 _ _ _
 ·exact wb0 _ _ _
 ·exact wb0 _ _ _
 ·exact a _
 exact wb0 _ _ _
theorem Rt(s:Str)(a:s.length<=1000000000):∀(k:Nat) (t:RS),WB (dF s k t).1
 |0,t=>Nk s _ (λt=>wb0 _ _ _) t
 |k+1,t=>Nk s _ (λt=>.mk _ _ _ _ (by
   have:=Z6 s (dF s k) (s.length+3) [] t;simp only[bz]at this;omega) (Lg s _ (Rt s a k) _ _ _ (by simp))) t
theorem Lu(s:Str):∀(n:Nat) (acc:List Val) (t:RS),(fM s n acc t).1.length<=acc.length+n
 |0,acc,t=>by simp[fM]
 |n+1,acc,t=>by
  unfold fM;split
  ·simp only;omega
  split
  ·simp only;omega
  have:=Lu s n (acc++[(dF s 16 (ae s t)).1]) (dX s t);simp at this;omega
theorem M0(s:Str)(b:s.length<=1000000000):∀(n:Nat) (acc:List Val) (t:RS),(∀v∈acc,WB v)->∀v∈(fM s n acc t).1,WB v
 |0,acc,t,h=>h
 |n+1,acc,t,h=>by
  unfold fM;split
  ·exact h
  split
  ·exact h
  refine M0 s b n _ _ λv a=>?_
  rcases nC.1 a with a|a
  ·exact h v a
  rw[j6.1 a];exact Rt s b 16 _
theorem MX(s:Str):∀(n:Nat) (acc:List Int) (t:RS),(gn s n acc t).1.length<=acc.length+n
 |0,acc,t=>by simp[gn]
 |n+1,acc,t=>by
  unfold gn;split
  ·simp only;omega
  split
  ·simp only;omega
  have:=MX s n (acc++[dR s t]) (bA s t);simp at this;omega
def InG(cs:LA):Prop:=∃i,InC i cs/\InB i
theorem pL(i:Inp)(h1:i.args=[])(h2:i.t=[])(a:i.ct=[])(b:i.cr=[])(e:i.cls=[]):InG (inG i .D .D .D .D .D):=by
 refine⟨i,⟨_,_,_,_,_,rfl,.inr ⟨rfl,by rw[h1];simp[vCs]⟩,.inr ⟨rfl,by rw[h2];rfl⟩,.inr ⟨rfl,by rw[a];rfl⟩,.inr ⟨rfl,by rw[b];rfl⟩,.inr ⟨rfl,by rw[e];rfl⟩⟩,?_⟩;exact⟨by rw[h1];simp,by rw[h1];simp,by rw[h2];simp,by rw[a];simp,by rw[b];simp,by rw[e];simp⟩
theorem ac3(l:List Int):iG l=cbC (l.map λn=>(max n (-n),decide (n<0))):=by
 simp only[iG,cbC,List.map_map];rfl
theorem A!(s:Str)(t:RS):(jT s t).length<=s.length:=by
 unfold jT mD;split
 ·rename_i a;have b:=(aL.1 a).1;exact Cl s _ _ _ (by simp only;omega) (by simp)
 simp
theorem xj(x:Int×AV×Int×AV)(T:List Int)(L:List Int)(h1:Sl (rnC T) x.2.1)(h2:Sl (iG L) x.2.2.2)(a:T.length<=1000000000)(b:L.length<=2000000000):InG (gC x):=by
 obtain⟨k,r,n,c⟩:=x;rw[ac3]at h2;exact⟨z7A k T n (L.map λn=>(max n (-n),decide (n<0))),⟨_,_,_,_,_,rfl,.inr ⟨rfl,by simp[z7A,vCs]⟩,h1,.inr ⟨rfl,rfl⟩,.inr ⟨rfl,rfl⟩,h2⟩,⟨by simp[z7A],by simp[z7A],a,by simp[z7A],by simp[z7A],by simpa[z7A]using b⟩⟩
theorem On(s:Str)(g:s.length<=1000000000):InG (jq s).1:=by
 unfold jq;simp only;generalize a_ s ⟨0,false⟩=t at*;split
 ·unfold q_;simp only;exact pL {Inp.z with kind:=1,pk:=_,pid:=_,px:=_,py:=_,pt:=_,pw:=_} rfl rfl rfl rfl rfl
 split
 ·unfold rb;simp only;split
  ·exact pL {Inp.z with kind:=2,time:=_} rfl rfl rfl rfl rfl
  exact pL {Inp.z with kind:=2,key:=_,cH:=_,time:=_} rfl rfl rfl rfl rfl
 split
 ·unfold tb;exact pL {Inp.z with kind:=3,time:=_} rfl rfl rfl rfl rfl
 split
 ·unfold sZ;exact pL {Inp.z with kind:=4,sw:=_,sh:=_} rfl rfl rfl rfl rfl
 split
 ·unfold sH;simp only;exact pL {Inp.z with kind:=5,dv:=_,high:=_,scale:=_} rfl rfl rfl rfl rfl
 split
 ·unfold qS s8;have h1:=Lu s (s.length+3) [] t;have h2:=M0 s g (s.length+3) [] t (by simp);simp only[bz]at h1;generalize(fM s (s.length+3) [] t).1=L at*;exact⟨z5A L,⟨_,_,_,_,_,rfl,.inl rfl,.inr ⟨rfl,rfl⟩,.inr ⟨rfl,rfl⟩,.inr ⟨rfl,rfl⟩,.inr ⟨rfl,rfl⟩⟩,⟨by show L.length<=_;omega,h2,by simp[z5A],by simp[z5A],by simp[z5A],by simp[z5A]⟩⟩
 split
 ·unfold ow;simp only;exact pL {Inp.z with kind:=7,ver:=_,node:=_,act:=_,frm:=_,too:=_,rt:=_} rfl rfl rfl rfl rfl
 split
 ·unfold eX sM;simp only;have e:∀u,(ak (jT s u)).length<=1000000000:=λu=>by
   have h1:=e! (jT s u);have h2:=A! s u;omega
  have b:Sl (rnC []) .D:=.inr ⟨rfl,rfl⟩;have a:Sl (iG []) .D:=.inr ⟨rfl,rfl⟩
  (repeat' split)
  ·exact xj _ [] [] b a (by simp) (by simp)
  ·exact xj _ [] [] b a (by simp) (by simp)
  ·exact xj _ (ak _) [] (.inl rfl) a (e _) (by simp)
  ·refine xj _ (ak _) _ (.inl rfl) (.inl rfl) (e _) ?_;have:=MX s (s.length+3) [] (bA s (jF s (a_ s (ae s t))));simp only[bz]at this;omega
  exact xj _ [] [] b a (by simp) (by simp)
 exact pL Inp.z rfl rfl rfl rfl rfl
