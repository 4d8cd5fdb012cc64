/- The reference's examination: the walk. -/
import Derived.Test.YtndpneieplopaaaGreatDoorStRd
set_option linter.unusedSimpArgs false
set_option linter.unusedVariables false
noncomputable section
namespace Go.Proofs.YtndpneieplopaaaGreatDoor
open Go.Eng Go.St Tryz
def ckR(d:Int)(v:Val)(m:Int):AV:=.tup [.agg (tC (bM d v m).2.1),I (bM d v m).2.2,I (bM d v m).1]
def vm(d:Int):Prop:=∀(h:AH) (v:Val) (m:Int),0<=m/\m<=1000->ab prog 116 [.agg (vC v),I d,I m] h (ckR d v m) h
variable {d m:Int}{h:AH}{v:Val}{Q:QT}
theorem ahq(e:vm d)(g:0<=m/\m<=1000)(i:Q (ckR d v m) h):tU prog 116 [.agg (vC v),I d,I m] h Q:=sD (e h v m g) i
variable {H:AH}
theorem qb{x y z a b c:AV}(h1:Frz H false x a)(h2:Frz H false y b)(j:Frz H false z c):Frz H false (.tup [x,y,z]) (.tup [a,b,c]):=by
 refine .tup _ _ rfl λi c d e g=>?_
 match i with
 |0=>simp at e g;subst e;subst g;exact h1
 |1=>simp at e g;subst e;subst g;exact h2
 |2=>simp at e g;subst e;subst g;exact j
 |i+3=>simp at e
structure K2(h h':AH)(a:LA):Prop where
 a:h'.E h.nx=some a
 r:h'.E (h.nx+1)=some [I 0,.D]
 nx:h.nx+2<=h'.nx
 get:∀i,i<h.nx->h'.H.get i=h.H.get i
theorem K2.start(h:AH)(a:LA):K2 h ((h.add (.cells a)).add (.cells [I 0,.D])) a:=by
 refine⟨?_,?_,by simp,λi hi=>?_⟩
 ·rw[can];exact cas
 ·exact cas
 rw[gan,gan]
def CQ(h:AH)(e:Int)(t:Ty)(c:Int):QT:=λv h'=>Frz (fresh h' h.nx) false v (.tup [.agg (tC t),I c,I e])/\h.nx<=h'.nx/\∀i,i<h.nx->h'.H.get i=h.H.get i
variable {h':AH}{a:LA}
theorem K2.fail(k:K2 h h' a)(e c:Int):CQ h e (.s 0) c (.tup [.agg [I 0,.D],I c,I e]) (h'.set (h.nx+1) (.cells [I 0,.D])):=by
 have g:=k.nx;refine⟨qb (pn _) (.int _ _) (.int _ _),by simp;omega,λi hi=>?_⟩;rw[gsn];exact k.get i hi
theorem I9(k n:Int)(s:Str)(l:List Val):(nU k n s l=true)=(k<1\/4<k\/(n≠0/\k≠1/\k≠2)\/(s.length≠0/\k≠3)\/(0<l.length/\k≠4)):=by
 simp[nU,or_assoc,and_assoc]
theorem Jr(k n:Int)(s:Str)(l:List Val):(nU k n s l=false) = ¬(k<1\/4<k\/(n≠0/\k≠1/\k≠2)\/(s.length≠0/\k≠3)\/(0<l.length/\k≠4)):=by
 rw[<-I9];simp
theorem agq(k n:Int):qG k n=decide ((k=1/\(n < -1099511627776\/1099511627776<n))\/(k=2/\n≠0/\n≠1)):=by
 simp[qG,zS,Bool.decide_or,Bool.and_assoc]
mutual
theorem Ku(d:Int):∀(v:Val) (m:Int),(bM d v m).1=0->m<=(bM d v m).2.2/\(bM d v m).2.2<=1000
 |.mk k n s l,m=>by
  unfold bM;split
  ·intro h;simp at h
  split
  ·intro h;simp at h
  split
  ·intro h;simp at h
  split
  ·intro h;simp at h
  rename_i c4;split
  ·intro h;simp at h
  unfold mh;split
  ·rename_i c6;intro h;exact absurd h c6
  rename_i c6;have:=JX (d+1) l (m+1) (none,true) (by omega) (by simpa using c6);split
  ·intro h;simp at h
  intro _;simp only;omega
theorem JX(d:Int):∀(l:List Val) (m:Int) (o:Option Ty×Bool),m<=1000->(eM d l m o).1=0->m<=(eM d l m o).2.2/\(eM d l m o).2.2<=1000
 |[],m,o,hm,_=>by unfold eM;simp only;omega
 |v::l,m,o,hm,h=>by
  unfold eM at h ⊢;split
  ·rename_i c;rw[Z c]at h;exact absurd h c
  rename_i c;have h1:=Ku d v m (by simpa using c);rw[O c]at h;split
  ·rename_i c2;rw[Z c2]at h;have:=JX d l _ o h1.2 h;omega
  rename_i c2;rw[O c2]at h;have:=JX d l _ _ h1.2 h;omega
end
structure CLs(h h':AH)(a:LA)(k10:Nat)(k:Int)(o:Option Ty)(lv:AV):Prop where
 base:K2 h h' a
 r10:h'.E k10=some [I k,lv]
 lo:h.nx+2<=k10
 hi:k10<h'.nx
 k4:∀t,o=some t->k=4
 of:match o with|none=>lv =.D|some t=>∃kk,lv =.rsl kk 0 1 2/\h.nx+2<=kk/\kk<h'.nx/\kk≠k10/\h'.E kk=some (tC t)
variable {h2:AH}
theorem K2.new(k:K2 h h' a)(g:h'.nx<=h2.nx)(e:∀i,i<h'.nx->h2.H.get i=h'.H.get i):K2 h h2 a:=
 have n1:=k.nx
 ⟨by rw[aV (e _ (by omega))];exact k.a,by rw[aV (e _ (by omega))];exact k.r,by omega,λi hi=>by rw[e i (by omega)];exact k.get i hi⟩
theorem K2.aic(k:K2 h h' a):K2 h (h'.set (h.nx+1) (.cells [I 0,.D])) a:=
 ⟨by rw[csn];exact k.a,cse,k.nx,λi hi=>by rw[gsn];exact k.get i hi⟩
variable {k10:Nat}{lv:AV}
theorem CLs.new{k:Int}{o:Option Ty}(c:CLs h h' a k10 k o lv)(g:h'.nx<=h2.nx)(e:∀i,i<h'.nx->h2.H.get i=h'.H.get i):CLs h h2 a k10 k o lv:=by
 have h1:=c.hi;refine⟨c.base.new g e,by rw[aV (e _ h1)];exact c.r10,c.lo,by omega,c.k4,?_⟩;have:=c.of;cases o with
 |none=>exact this
 |some t=>
  obtain⟨j,p,q,r,x,y⟩:=this;exact⟨j,p,q,by omega,x,by rw[aV (e _ r)];exact y⟩
theorem CLs.put{k:Int}{o:Option Ty}(c:CLs h h' a k10 k o lv)(g:k=4)(t:Ty):CLs h ((h'.add (.cells (tC t))).set k10 (.cells [I k,.rsl h'.nx 0 1 2])) a k10 k (some t) (.rsl h'.nx 0 1 2):=by
 have h1:=c.hi;have h2:=c.lo;have p:=c.base.nx;have e:∀i,i≠k10->i<h'.nx->((h'.add (.cells (tC t))).set k10 (.cells [I k,.rsl h'.nx 0 1 2])).H.get i=h'.H.get i:=λi hi j=>by
  rw[dQ,O hi,gan]
 refine⟨⟨by rw[aV (e _ (by omega) (by omega))];exact c.base.a,by rw[aV (e _ (by omega) (by omega))];exact c.base.r,by simp;omega,λi hi=>by rw[e i (by omega) (by omega)];exact c.base.get i hi⟩,cse,h2,by simp;omega,λ_ _=>g,?_⟩;refine⟨h'.nx,rfl,by omega,by simp,by omega,?_⟩;rw[csn];exact cas
structure OB where
 o:Option Ty
 ok:Bool
variable {s:Str}{l:List Val}{cnt:Int}
theorem aba{k n:Int}{L:List (LA)}{h4:AH}(hL:vCs l=L)(W:1<=d/\d<=17)(K:0<=cnt/\cnt<=1000)(aw:l.length≠0->k=4/\d<=16)
  (ao:d<=16->vm (d+1)) (hK:K2 h h4 [I k,I n,.str s,.psl L]) (b2:l.length<=100):
  KA (I d) (I cnt) (.ptr h.nx 0) (.ptr (h.nx+1) 0) (.ptr h4.nx 0) (.agg [I k,.D]) (h4.add (.cells [I 0,.D]))
   (CQ h (mh k (eM (d+1) l cnt (none,true))).1 (mh k (eM (d+1) l cnt (none,true))).2.1 (mh k (eM (d+1) l cnt (none,true))).2.2):=by
 have b3:L.length=l.length:=by rw[<-hL,gP]
 have aS:=hK.nx;simp[KA];have hC:CLs h ((h4.add (.cells [I 0,.D])).set h4.nx (.cells [I k,.D])) [I k,I n,.str s,.psl L] h4.nx k none .D:=by
  have hg:∀i,i<h4.nx->((h4.add (.cells [I 0,.D])).set h4.nx (.cells [I k,.D])).H.get i=h4.H.get i:=λi hi=>by
   rw[gsn,gan]
  exact⟨hK.new (by simp) hg,cse,aS,by simp,λt h=>by(cases h),rfl⟩
 generalize(h4.add (.cells [I 0,.D])).set h4.nx (.cells [I k,.D])=h5 at*;generalize h4.nx=k10 at*;generalize hR:eM (d+1) l cnt (none,true)=R at*;refine⟨λN vs h'=>∃(i:Nat) (cnt:Int) (o:OB) (lv:AV),vs=[I d,I cnt,.ptr h.nx 0,.ptr (h.nx+1) 0,.ptr k10 0,.bool o.ok,I i]/\CLs h h' [I k,I n,.str s,.psl L] k10 k o.o lv/\i<=l.length/\(0<=cnt/\cnt<=1000)/\eM (d+1) (l.drop i) cnt (o.o,o.ok)=R/\N=l.length-i,l.length,?_,?_⟩
 ·exact⟨0,cnt,⟨none,true⟩,.D,rfl,hC,by omega,K,by simpa using hR,rfl⟩
 rintro N vs h' ⟨i,g,⟨o,ok⟩,lv,rfl,j,hi,aT,q,rfl⟩;simp only at j q ⊢;have ha:=j.base.a;have J:=j.r10;have A:=j.base.r;by_cases a1:i<l.length
 ·have z:(i:Int)<L.length:=by omega
  obtain⟨v,hv⟩:∃v,l[i]?=some v:=⟨l[i],bF a1⟩;obtain⟨rfl,ar⟩:=aw (by omega);have a6:=ao ar;have a7:L[i]?=some (vC v):=by rw[<-hL,qH,cA,hv];rfl
  have a8:∀h:AH,aC h 4 (.psl L) (I i)=some (.ai (vC v),h):=λh=>gQ (i:=i) a7 (ch v)
  have U:cut (vC v) 0 4=some (vC v):=by
   have:=cS (α:=vC v) (b:=[]) (n:=4) (ch v);rwa [bO]at this
  have V:l.drop i=v::l.drop (i+1):=by
   obtain⟨ba,bb⟩:=aL.1 hv;rw[ig ba,bb]
  rw[V]at q;have eS:eM (d+1) (v::l.drop (i+1)) g (o,ok)=if(bM (d+1) v g).1≠0 then((bM (d+1) v g).1,(o,ok),(bM (d+1) v g).2.2)else if ok=false then eM (d+1) (l.drop (i+1)) (bM (d+1) v g).2.2 (o,ok)else eM (d+1) (l.drop (i+1)) (bM (d+1) v g).2.2 (mZ o (bM (d+1) v g).2.1):=by rw[eM]
  rw[eS]at q;have ad:=Ku (d+1) v g;have af:ckR (d+1) v g =.tup [.agg (tC (bM (d+1) v g).2.1),I (bM (d+1) v g).2.2,I (bM (d+1) v g).1]:=rfl;generalize bM (d+1) v g=r at*;obtain⟨e,t,c⟩:=r;simp only at q ad af;simp[DH,ha,z];refine⟨λx vs h6=>(e≠0/\x =.ret/\vs=[I d,I c,.ptr h.nx 0,.ptr (h.nx+1) 0,I c,I e,.ptr k10 0,.bool ok,I i]/\K2 h h6 [I 4,I n,.str s,.psl L])\/(e=0/\x =.nrm/\∃lv,vs=[I d,I c,.ptr h.nx 0,.ptr (h.nx+1) 0,.undef,.undef,.ptr k10 0,.bool (if ok=false then ok else(mZ o t).2),I i]/\CLs h h6 [I 4,I n,.str s,.psl L] k10 4 (if ok=false then o else(mZ o t).1) lv),?_,?_⟩
  ·simp(disch:=first|go_size|fail)[Qu,ha];rw[a8];simp(disch:=first|go_size|fail)[U];refine ahq a6 aT ?_;rw[af,bQ];have b4:=j.base.nx;have b5:=j.hi;have bd:∀i,i<h'.nx->((h'.add (.cells [I 0,.D])).set h'.nx (.cells [I (tyK t),.psl (tyO t)])).H.get i=h'.H.get i:=λi hi=>by
    rw[gsn,gan]
   have y:=j.new (h2:=(h'.add (.cells [I 0,.D])).set h'.nx (.cells [I (tyK t),.psl (tyO t)])) (by simp) bd;have aj:((h'.add (.cells [I 0,.D])).set h'.nx (.cells [I (tyK t),.psl (tyO t)])).E h'.nx=some [I (tyK t),.psl (tyO t)]:=cse;have b6:((h'.add (.cells [I 0,.D])).set h'.nx (.cells [I (tyK t),.psl (tyO t)])).nx=h'.nx+1:=by simp
   have q1:¬h.nx+1=h'.nx:=by omega
   by_cases he:e=0
   ·cases ok
    ·simp[AE,he];exact⟨lv,y⟩
    simp[AE,he];generalize(h'.add (.cells [I 0,.D])).set h'.nx (.cells [I (tyK t),.psl (tyO t)])=p at*;have al:=y.r10;cases o with
    |none=>
     have M:lv =.D:=y.of;subst M;have bk:=y.hi;have q2:¬k10=p.nx:=by omega
     have q3:¬h'.nx=p.nx:=by omega
     simp[KX,al,aj,q2];refine⟨rfl,.rsl p.nx 0 1 2,?_⟩;have:=y.put rfl t;rw[bQ t]at this;exact this
    |some u=>
     obtain⟨kk,rfl,e2,e3,e4,e5⟩:=y.of;have av:∀h:AH,aC h 2 (.rsl kk 0 1 2) (I 0)=some (.ptr kk 0,h):=λh=>gO (by omega) (by omega)
     rw[bQ]at e5;simp[KX,al];rw[av];simp[e5,aj];rw[<-bQ u,<-bQ t];simp[M5];refine aed u t trivial ?_;refine⟨ay _,?_⟩;have eA:mZ (some u) t=(some ((cF u t).getD (.s 0)),(cF u t).isSome):=rfl;have eR:di u t =.tup [.agg (tC ((cF u t).getD (.s 0))),.bool (cF u t).isSome]:=rfl;rw[eA,eR];generalize(cF u t).getD (.s 0)=T at*;generalize(cF u t).isSome=B at*;have bk:=y.hi;have bp:∀i,i<p.nx->(((AH.mk p.H (p.nx+12)).set (p.nx+9) (.cells [I 0,.D])).set (p.nx+9) (.cells (tC T))).H.get i=p.H.get i:=λi hi=>by
      rw[gsn,gsn]
     have an:=y.new (h2:=((AH.mk p.H (p.nx+12)).set (p.nx+9) (.cells [I 0,.D])).set (p.nx+9) (.cells (tC T))) (by simp) bp;have b7:(((AH.mk p.H (p.nx+12)).set (p.nx+9) (.cells [I 0,.D])).set (p.nx+9) (.cells (tC T))).nx=p.nx+12:=rfl;have ca:(((AH.mk p.H (p.nx+12)).set (p.nx+9) (.cells [I 0,.D])).set (p.nx+9) (.cells (tC T))).E (p.nx+9)=some (tC T):=cse;rw[bQ T]at*;have q4:¬p.nx+9=k10:=by omega
     have q5:¬p.nx+9=kk:=by omega
     have q6:¬p.nx+9=h'.nx:=by omega
     simp[q4,q5,q6];generalize((AH.mk p.H (p.nx+12)).set (p.nx+9) (.cells [I 0,.D])).set (p.nx+9) (.cells [I (tyK T),.psl (tyO T)])=h8 at*;have bs:=an.r10;have q7:¬k10=h8.nx:=by omega
     simp[MQ,bs,q7];have:=an.put rfl T;rw[bQ T]at this;exact⟨_,this⟩
   simp[AE,he,q1,A,Rm];exact y.base.aic
  rintro x vs h6 (⟨he,rfl,rfl,S⟩|⟨he,rfl,bx,rfl,bY⟩)
  ·rw[Z he]at q;subst q;have b0:=S.r;have hF:mh 4 (e,(o,ok),c)=(e,.s 0,c):=by unfold mh;rw[Z he]
   rw[hF];simp[C_,D2,b0];exact⟨qb (pn _) (.int _ _) (.int _ _),by have:=S.nx;omega,S.get⟩
  have b1:¬(e≠0):=by simpa using he
  rw[O b1]at q;simp(disch:=first|go_size|fail)[C_];have:=ad he;refine⟨l.length-(i+1),by omega,i+1,c,⟨if ok=false then o else(mZ o t).1,if ok=false then ok else(mZ o t).2⟩,⟨rfl,rfl,by omega⟩,⟨bx,bY⟩,?_,?_,?_,rfl⟩
  ·omega
  ·omega
  rw[<-q];cases ok<;>rfl
 have z:¬(i:Int)<L.length:=by omega
 obtain rfl:i=l.length:=by omega
 rw[tT,eM]at q;subst q;simp(disch:=first|go_size|fail)[DH,ha,z,D2];cases ok
 ·simp(disch:=first|go_size|fail)[wZ,A];exact j.base.fail _ _
 have cb:=j.lo;have hbn:=j.base.nx;have cc:=j.hi;cases o with
 |none=>
  have M:lv =.D:=j.of;subst M;simp(disch:=first|go_size|fail)[wZ,A,J];refine⟨qb ?_ (.int _ _) (.int _ _),by simp;omega,λi hi=>by rw[gsn];exact j.base.get i hi⟩;refine .agg _ _ rfl λi c d K W=>?_
  match i with
  |0=>simp[mh,tC]at K W;subst K;subst W;exact .int _ _
  |1=>simp[mh,tC]at K W;subst K;subst W;exact .D
  |i+2=>simp at K
 |some u=>
  obtain⟨kk,rfl,e2,e3,e4,e5⟩:=j.of;simp(disch:=first|go_size|fail)[wZ,A,J];refine⟨qb ?_ (.int _ _) (.int _ _),by simp;omega,λi hi=>by rw[gsn];exact j.base.get i hi⟩;refine FG (j.k4 u rfl) ?_ (by omega);rw[csn];exact e5
theorem NR(B:1<=d/\d<=17)(y:d<=16->vm (d+1)):vm d:=by
 rintro h ⟨k,n,s,l⟩ m hm;refine kY (R:=CQ h (bM d (.mk k n s l) m).1 (bM d (.mk k n s l) m).2.1 (bM d (.mk k n s l) m).2.2) (ahJ ?_) λM h' h1=>h1
 have j:=K2.start h (vC (.mk k n s l));unfold bM;simp only[vC]at j ⊢;generalize A:vCs l=L at*;have i:L.length=l.length:=by rw[<-A,gP]
 simp(disch:=first|go_size|fail)[YG];generalize((h.add (.cells [I k,I n,.str s,.psl L])).add (.cells [I 0,.D]))=h1 at*;have g:=j.a;have x:=j.r;refine⟨λvs h'=>vs=[I d,I (m+1),.ptr h.nx 0,.ptr (h.nx+1) 0,.bool (decide (k=4)),.bool (decide (k=4)&&decide (16<d))]/\h'=h1,?_,?_⟩
 ·have e:(k==4)=decide (k=4):=rfl;rw[e];by_cases q:k=4
  ·simp(disch:=first|go_size|fail)[C6,q]
  simp[C6,q]
 rintro vs h' ⟨rfl,rfl⟩;by_cases c1:k=4/\16<d
 ·rw[Z c1];simp[Kp,c1,x];exact j.fail _ _
 rw[O c1];have J:(decide (k=4)&&decide (16<d))=false:=by simp only[pW,jx];omega
 rw[J];simp[Kp];refine⟨λvs h2=>vs=[I d,I (m+1),.ptr h.nx 0,.ptr (h.nx+1) 0,.bool (nU k n s l)]/\h2=h',?_,?_⟩
 ·simp[QP,g];by_cases q:k=4
  ·simp[CA,g,q,CM,g,Cc,g,Da];have o:(L=[])=(l.length=0):=by rw[<-i,mu]
   have p:(s=[])=(s.length=0):=by rw[mu]
   simp only[I9,Jr,o,p,i];omega
  simp[CA,g,q,CM,g,Cc,g,Da];have o:(L=[])=(l.length=0):=by rw[<-i,mu]
  have p:(s=[])=(s.length=0):=by rw[mu]
  simp only[I9,Jr,o,p,i];omega
 rintro vs h2 ⟨rfl,rfl⟩;cases c2:nU k n s l
 ·simp only[dT,bH];simp[KG];refine⟨λvs z=>vs=[I d,I (m+1),.ptr h.nx 0,.ptr (h.nx+1) 0,.bool (qG k n)]/\z=h2,?_,?_⟩
  ·simp[Sx,g,O5,g,RM,g,QB];have K:(n != 1)=decide (n≠1):=by by_cases q:n=1<;>simp[q]
   simp only[agq,K,ck,jx,pY];omega
  rintro vs z ⟨rfl,rfl⟩;cases c3:qG k n
  ·simp only[dT,bH];simp[KL];refine⟨λvs h4=>vs=[I d,I (m+1),.ptr h.nx 0,.ptr (h.nx+1) 0,.bool (decide (2000<s.length\/100<l.length\/1000<m+1))]/\h4=z,?_,?_⟩
   ·simp[Q0,g,Se];rw[i];simp only[<-Bool.decide_or,pY];omega
   rintro vs h4 ⟨rfl,rfl⟩;by_cases c4:2000<s.length\/100<l.length\/1000<m+1
   ·rw[Z c4,eD c4];simp[KP,x];exact j.fail _ _
   rw[O c4,dx c4];simp[KP,g];refine sD (Te (s:=s) (by omega)) ?_;cases c5:Lib.validD s
   ·simp[x];exact j.fail _ _
   simp[g];have:=aba (k:=k) (n:=n) (s:=s) (l:=l) (cnt:=m+1) (h:=h) (h4:=h4) A B (by omega) (λN=>by
    rw[Jr]at c2;omega) y j (by omega)
   exact this
  simp only[bt];simp[KL,x];exact j.fail _ _
 simp only[bt];simp[KG,x];exact j.fail _ _
theorem Ry:∀(k:Nat) (d:Int),d+k=17->1<=d->vm d
 |0,d,h1,e=>NR ⟨e,by omega⟩ λh=>by omega
 |k+1,d,h1,e=>NR ⟨e,by omega⟩ λh=>Ry k (d+1) (by omega) (by omega)
theorem aaP(v:Val)(_:True):ab prog 116 [.agg (vC v),I 1,I 0] h (ckR 1 v 0) h:=Ry 16 1 (by omega) (by omega) h v 0 (by omega)
theorem aaq(v:Val)(_:True):ab prog 84 [.agg (vC v)] h (.tup [.agg (tC (bM 1 v 0).2.1),I (bM 1 v 0).1]) h:=by
 refine nM (C84 ?_) (λ_=>kU (Rn _ _) (.int _ _));have o:(vC v).length=4:=ch v;have p:=jd v;simp(disch:=first|go_size|fail)[g84];refine sD (aaP v trivial) ?_;unfold ckR;generalize bM 1 v 0=r at*;obtain⟨e,t,c⟩:=r;simp only;rw[bQ];have g:∀i,i<h.nx->((h.add (.cells (vC v))).add (.cells [I 0,.D])).H.get i=h.H.get i:=λi hi=>by
  rw[gan,gan]
 have x:h.nx+2<=((h.add (.cells (vC v))).add (.cells [I 0,.D])).nx:=by simp
 have j:((h.add (.cells (vC v))).add (.cells [I 0,.D])).E (h.nx+1)=some [I 0,.D]:=cas;generalize(h.add (.cells (vC v))).add (.cells [I 0,.D])=h1 at*;have q:¬h.nx+1=h1.nx:=by omega
 simp[Vj,j,q];refine⟨by omega,λi hi=>?_⟩;rw[gsn,gsn,gan];exact g i hi
theorem LZ(v:Val)(_:True):ab prog 42 [.agg (vC v)] h (I (bM 1 v 0).1) h:=by
 refine nM (C42 ?_);have g:(vC v).length=4:=ch v;have j:=jd v;simp(disch:=first|go_size|fail)[g42];refine sD (aaq v trivial) ?_;rw[bQ];have e:∀i,i<h.nx->(h.add (.cells (vC v))).H.get i=h.H.get i:=λi hi=>by rw[gan]
 have o:h.nx<=(h.add (.cells (vC v))).nx:=by simp
 generalize h.add (.cells (vC v))=h1 at*;simp[Vc];refine⟨by omega,λi hi=>?_⟩;rw[gsn,gan];exact e i hi
open Go.Eng Go.St Tryz
def gn(s:Str):Nat->List Int->RS->List Int×RS
 |0,acc,t=>(acc,t)
 |n+1,acc,t=>if t.bad=true then(acc,t)else if s.length<=t.pos then(acc,t)else gn s n (acc++[dR s t]) (bA s t)
def sM(s:Str)(t:RS):List Int×RS:=gn s (s.length+3) [] t
def clC(n:Int):LA:=[I (max n (-n)),.bool (decide (n<0))]
def iG(l:List Int):List (LA):=l.map clC
def iE(s:Str):List (LA):=(ak s).map λn=>[az n]
def edC(k:Int)(r:AV)(n:Int)(c:AV):LA:=[I k,r,.D,.D,I 0,I 0,.bool false,I 0,I 0,I 0,I 0,I 0,I n,c,I 0]
def bu(k:Int)(r:AV)(n:Int)(c:AV):LA:=[I 8,I 0,I 0,I 0,I 0,I 0,I 0,I 0,I 0,I 0,I 0,I 0,.bool false,.bool false,I 0,.D,I 0,I 0,I 0,I 0,I 0,.str [],I k,r,.D,.D,I 0,I 0,.bool false,I 0,I 0,I 0,I 0,I 0,I n,c,I 0]
def eX(s:Str)(e:RS):(Int×AV×Int×AV)×RS:=
 let t:=ae s e
 let w:=aJ s t
 let t1:=a_ s t
 if w=lN then((14,.D,0,.D),t1)
 else if w=kj then((17,.D,0,.D),t1)
 else if w=mz then((16,.psl (iE (jT s t1)),0,.D),jF s t1)
 else if w=mB then
  ((15,.psl (iE (jT s t1)),dR s (jF s t1),.psl (iG (sM s (bA s (jF s t1))).1)),(sM s (bA s (jF s t1))).2)
 else((0,.D,0,.D),⟨t1.pos,true⟩)
def gC(x:Int×AV×Int×AV):LA:=bu x.1 x.2.1 x.2.2.1 x.2.2.2
theorem jP(s:Str)(t:RS)(e:t.pos<=s.length+1):cq s t (bA s t)/\((bA s t).bad=false->t.pos<(bA s t).pos):=by
 have h1:=gu s t e;have h2:=Mq s _ h1.lt;exact⟨h1.trans h2.1,λh=>vN h1.le (h2.2 h)⟩
theorem tZ(s:Str)(t:RS)(e:t.pos<=s.length+1):cq s t (jF s t):=by
 have h1:=gu s t e;exact h1.trans (zX s _ h1.lt).1
theorem JG(s:Str)(t:RS)(e:t.pos<=s.length):cq s t (a_ s t)/\(a_ s t).pos<=s.length:=by
 have h1:(aJ s t).length<=s.length-t.pos:=by
  have:=ln (aH false) (s.drop t.pos);rw[bW]at this;exact this
 unfold a_;exact⟨⟨by simp,by simp only;omega,id⟩,by simp only;omega⟩
theorem Fg(s:Str)(t:RS)(e:t.pos<=s.length):(ae s t).pos<=s.length:=by
 unfold ae;split
 ·rename_i h;have:=(aL.1 h).1;simp only;omega
 exact e
theorem afs(s:Str)(t:RS)(e:t.pos<=s.length):(ef s t).pos<=s.length:=by
 unfold ef;have h1:(s.drop t.pos).length=s.length-t.pos:=bW;simp only;omega
theorem afc(s:Str)(t:RS)(e:t.pos<=s.length):(bA s t).pos<=s.length:=afs s _ (Fg s t e)
structure R2(h h':AH)(id k5:Nat)(c1 c2:LA):Prop where
 a:h'.E id=some c1
 b:h'.E k5=some c2
 nx:h.nx<=h'.nx
 get:∀i,i≠id->i≠k5->i<h.nx->h'.H.get i=h.H.get i
variable {id k5:Nat}{c1 c2:LA}
theorem R2.gM(r:R2 h h' id k5 c1 c2)(g:id≠k5)(d:LA):R2 h (h'.set id (.cells d)) id k5 d c2:=
 ⟨cse,by rw[csn];exact r.b,r.nx,λi h1 h2 e=>by rw[dQ,O h1];exact r.get i h1 h2 e⟩
theorem R2.lz(r:R2 h h' id k5 c1 c2)(e:id≠k5)(d:LA):R2 h (h'.set k5 (.cells d)) id k5 c1 d:=
 ⟨by rw[csn e];exact r.a,cse,r.nx,λi h1 h2 g=>by rw[dQ,O h2];exact r.get i h1 h2 g⟩
theorem R2.new(r:R2 h h' id k5 c1 c2)(h1:id<h.nx/\k5<h.nx)(g:h'.nx<=h2.nx)(e:∀i,i<h.nx->h2.H.get i=h'.H.get i):R2 h h2 id k5 c1 c2:=
 ⟨by rw[aV (e _ h1.1)];exact r.a,by rw[aV (e _ h1.2)];exact r.b,bf r.nx g,λi q1 q2 q3=>by rw[e i q3];exact r.get i q1 q2 q3⟩
variable {P:Program}{f:Nat}{args d2:LA}{R:QT}
theorem aaF{v:AV}{e:LA}(z:id<h.nx)(A:k5<h.nx)(o:id≠k5)(r:qv e)(x:ah P f args h R)
  (p:∀g h',R g h'->Frz (fresh h' h.nx) false g v/\∃c2,R2 h h' id k5 e c2/\bU (fresh h' h.nx) false c2 d2):ab P f args h v ((h.set id (.cells e)).set k5 (.cells d2)):=by
 refine DZ x rfl (λi hi=>?_) λg h' q=>⟨(p g h' q).1,λi hi=>?_⟩
 ·show((h.set id _).set k5 _).H.get i=_
  rw[gsn,gsn]
 obtain⟨_,c2,j,y⟩:=p g h' q;by_cases h1:i=id
 ·subst h1;exact .inr ⟨e,e,rz j.a,by rw[dQ,O o,dQ,Z rfl],r _⟩
 by_cases h2:i=k5
 ·subst h2;exact .inr ⟨c2,d2,rz j.b,by rw[dQ,Z rfl],y⟩
 exact .inl ⟨by rw[dQ,O h2,dQ,O h1],j.get i h1 h2 hi⟩
theorem kW{k n:Int}{r e c g:AV}(h1:Frz H false r e)(h2:Frz H false c g):bU H false (bu k r n c) (bu k e n g):=by
 unfold bu;repeat' (first|exact trivial|refine And.intro ?_ ?_|exact .int _ _|exact .bool _|exact .str _|exact .fo|assumption)
theorem Cl(s:Str):∀(n:Nat) (out:Str) (t:RS),t.pos<=s.length->out.length<=t.pos->(rQL s n out t).1.length<=s.length
 |0,out,t,e,h=>by simp only[rQL];omega
 |n+1,out,t,e,h=>by
  unfold rQL;cases g:s[t.pos]? with
  |none=>simp only;omega
  |some c=>
   simp only;split
   ·simp only;omega
   have h1:=xH s c t g;exact Cl s n _ _ h1.1 (by rw[au];simp only[dP];omega)
theorem Mr(s:Str)(t:RS)(_:t.pos<=s.length+1):(jT s t).length<=s.length:=by
 unfold jT mD;split
 ·rename_i e;have g:=(aL.1 e).1;exact Cl s _ _ _ (by simp only;omega) (by simp)
 simp
theorem wm{n k:Nat}(p:h'.E k=some ((ak s).map az))(x:n<=k):Frz (fresh h' n) false (.rsl k 0 (ak s).length 1) (.psl (iE s)):=by
 have z:(fresh h' n).E k=some ((ak s).map az):=by rw[tX x];exact p
 have:=Frz.rsl (h:=fresh h' n) (n:=false) k 0 1 ((ak s).map az) (iE s) z (by simp[iE]) (λi y g=>by
  unfold iE at g;rw[cA]at g;cases o:(ak s)[i]? with
  |none=>rw[o]at g;simp at g
  |some r=>rw[o]at g;simp at g;subst g;rfl) (λi y j c d g q p=>by
  unfold iE at g;rw[cA]at g;cases o:(ak s)[i]? with
  |none=>rw[o]at g;simp at g
  |some r=>
   rw[o]at g;simp at g;subst g;match j with
   |0=>
    simp at q;subst q;rw[show 0+i*1+0=i by omega,cA,o]at p;simp at p;subst p;exact .int _ _
   |j+1=>simp at q)
 have e:(iE s).length=(ak s).length:=by simp[iE]
 rwa [e]at this
variable {ys:List (LA)}
theorem rS{z n:Nat}{A:AH}(g:∀y∈ys,y.length=z)(p:∀y∈ys,∀(H:AH) (j:Nat) (c:AV),y[j]?=some c->Frz H false c c)(o:OL z A h' lv ys.length ys.flatten)(N:n<=A.nx):Frz (fresh h' n) false lv (.psl ys):=by
 rcases o with⟨rfl,h2,S⟩|⟨k,rfl,K,M,T,x,hlen⟩
 ·have:ys=[]:=fQ h2;subst this;exact .D
 have B:(fresh h' n).E k=some ys.flatten:=by rw[tX (by omega)];exact x
 exact Frz.rsl (h:=fresh h' n) (n:=false) k 0 z ys.flatten ys B (by omega) (λi y p=>g y (cQ p)) (λi y j c U e q r=>by
  have hm:=cQ e;have J:j<z:=by
   have:=(aL.1 q).1;rw[g y hm]at this;exact this
  have h1:=KH ys g i j y e J;rw[show 0+i*z+j=i*z+j by omega]at r;rw[h1,q]at r;cases r;exact p y hm _ j _ q)
theorem abM(l:List Int):∀y∈iG l,y.length=2:=by
 intro y e;obtain⟨n,_,rfl⟩:=eK.1 e;rfl
theorem Ml(l:List Int):∀y∈iG l,∀(H:AH) (j:Nat) (c:AV),y[j]?=some c->Frz H false c c:=by
 intro y g H j c e;obtain⟨n,_,rfl⟩:=eK.1 g;match j with
 |0=>simp[clC]at e;subst e;exact .int _ _
 |1=>simp[clC]at e;subst e;exact .bool _
 |j+2=>simp[clC]at e
theorem F?(s:Str)(t:RS):-(10*bh+9)<=dR s t/\dR s t<=10*bh+9:=by
 unfold dR eg;have:=ZX (fw (s.drop (ae s t).pos)) 0 (by unfold bh;omega);have e:bh=1099511627776:=rfl;split<;>omega
theorem Am(h:AH)(a b:Int):jk h true (I a) (I b)=some (I (max a b),h):=by
 simp[jk];split<;>omega
theorem J?{id k5:Nat}{x:Rd}(hc:h.E id=some (rdC x))(hk:h.E k5=some (bu 0 .D 0 .D))(o:id<h.nx)(af:k5<h.nx)(e:id≠k5)(hx:x.s.length<=1000000000/\x.t.pos<=x.s.length):
  ab prog 54 [.ptr id 0,.ptr k5 22] h (.tup []) ((h.set id (.cells (rdC ⟨x.s,(eX x.s x.t).2⟩))).set k5 (.cells (gC (eX x.s x.t).1))):=by
 obtain⟨s,t⟩:=x;obtain⟨hs,hp⟩:=hx;simp only at hs hp;refine aaF (R:=λv h'=>v =.tup []/\∃c2,R2 h h' id k5 (rdC ⟨s,(eX s t).2⟩) c2/\bU (fresh h' h.nx) false c2 (gC (eX s t).1)) o af e (nK _) (C54 ?_) λv' h' ⟨h1,h2⟩=>⟨by rw[h1];exact .tup [] [] rfl (by simp),h2⟩
 have cv:R2 h h id k5 (rdC ⟨s,t⟩) (bu 0 .D 0 .D):=⟨hc,hk,ay _,λi _ _ _=>rfl⟩;unfold eX;simp[g54];refine sD (s_ (x:=⟨s,t⟩) hc o ⟨hs,by simp only;omega⟩) ?_;have aj:=cv.gM e (rdC ⟨s,ae s t⟩);have b6:=Fg s t hp;simp only at aj ⊢;generalize h.set id (.cells (rdC ⟨s,ae s t⟩))=h1 at*;generalize ae s t=t1 at*;refine sD (BU (x:=⟨s,t1⟩) aj.a (gq o aj.nx) ⟨⟨hs,by simp only;omega⟩,b6⟩) ?_;have r:=aj.gM e (rdC ⟨s,a_ s t1⟩);have ee:=(JG s t1 b6).2;simp only at r ⊢;generalize h1.set id (.cells (rdC ⟨s,a_ s t1⟩))=h2 at*;generalize a_ s t1=t2 at*;generalize aJ s t1=w at*;have al:h2.E k5=some [I 8,I 0,I 0,I 0,I 0,I 0,I 0,I 0,I 0,I 0,I 0,I 0,.bool false,.bool false,I 0,.D,I 0,I 0,I 0,I 0,I 0,.str [],I 0,.D,.D,.D,I 0,I 0,.bool false,I 0,I 0,I 0,I 0,I 0,I 0,.D,I 0]:=r.b;by_cases w1:w=lN
 ·rw[Z w1];have a8:w=[98,101,103,105,110]:=w1;simp[a8,al];exact⟨_,r.lz e (bu 14 .D 0 .D),kW .fo .fo⟩
 rw[O w1];have a8:¬w=[98,101,103,105,110]:=w1;by_cases w2:w=kj
 ·rw[Z w2];have ba:w=[99,97,110,99,101,108]:=w2;simp[ba,al];exact⟨_,r.lz e (bu 17 .D 0 .D),kW .fo .fo⟩
 rw[O w2];have ba:¬w=[99,97,110,99,101,108]:=w2;by_cases w3:w=mz
 ·rw[Z w3];have bb:w=[99,111,109,109,105,116]:=w3;simp[bb,al,VH];have y:=r.lz e (bu 16 .D 0 .D);have A:h2.set k5 (.cells [I 8,I 0,I 0,I 0,I 0,I 0,I 0,I 0,I 0,I 0,I 0,I 0,.bool false,.bool false,I 0,.D,I 0,I 0,I 0,I 0,I 0,.str [],I 16,.D,.D,.D,I 0,I 0,.bool false,I 0,I 0,I 0,I 0,I 0,I 0,.D,I 0])=h2.set k5 (.cells (bu 16 .D 0 .D)):=rfl;rw[A];generalize h2.set k5 (.cells (bu 16 .D 0 .D))=h3 at*;refine sD (Ce (x:=⟨s,t2⟩) y.a (gq o y.nx) ⟨hs,by simp only;omega⟩) ?_;have p:=y.gM e (rdC ⟨s,jF s t2⟩);simp only at p ⊢;generalize h3.set id (.cells (rdC ⟨s,jF s t2⟩))=g at*;have bd:(jT s t2).length<=1000000000:=by have:=Mr s t2 (by omega);omega
  generalize jT s t2=T at*;have S:=p.new (h2:=g.add (.cells ((ak T).map az))) ⟨o,af⟩ (by simp) λi hi=>by have:=p.nx;rw[gan]
  have bk:(g.add (.cells ((ak T).map az))).E g.nx=some ((ak T).map az):=cas;have bp:=p.nx;simp[WI];rw[sk g T bd];generalize g.add (.cells ((ak T).map az))=h5 at*;have bs:h5.E k5=some [I 8,I 0,I 0,I 0,I 0,I 0,I 0,I 0,I 0,I 0,I 0,I 0,.bool false,.bool false,I 0,.D,I 0,I 0,I 0,I 0,I 0,.str [],I 16,.D,.D,.D,I 0,I 0,.bool false,I 0,I 0,I 0,I 0,I 0,I 0,.D,I 0]:=S.b;simp[bs];refine⟨_,S.lz e (bu 16 (.rsl g.nx 0 (ak T).length 1) 0 .D),kW (wm ?_ bp) .fo⟩;exact(csn).trans bk
 rw[O w3];have bb:¬w=[99,111,109,109,105,116]:=w3;by_cases w4:w=mB
 ·rw[Z w4];have bx:w=[117,112,100,97,116,101]:=w4;simp[bx,Ww,al];have y:=r.lz e (bu 15 .D 0 .D);have A:h2.set k5 (.cells [I 8,I 0,I 0,I 0,I 0,I 0,I 0,I 0,I 0,I 0,I 0,I 0,.bool false,.bool false,I 0,.D,I 0,I 0,I 0,I 0,I 0,.str [],I 15,.D,.D,.D,I 0,I 0,.bool false,I 0,I 0,I 0,I 0,I 0,I 0,.D,I 0])=h2.set k5 (.cells (bu 15 .D 0 .D)):=rfl;rw[A];generalize h2.set k5 (.cells (bu 15 .D 0 .D))=h3 at*;refine sD (Ce (x:=⟨s,t2⟩) y.a (gq o y.nx) ⟨hs,by simp only;omega⟩) ?_;have p:=y.gM e (rdC ⟨s,jF s t2⟩);have b7:=tZ s t2 (by omega);simp only at p ⊢;generalize h3.set id (.cells (rdC ⟨s,jF s t2⟩))=g at*;have bd:(jT s t2).length<=1000000000:=by have:=Mr s t2 (by omega);omega
  generalize jT s t2=T at*;generalize jF s t2=t3 at*;have S:=p.new (h2:=g.add (.cells ((ak T).map az))) ⟨o,af⟩ (by simp) λi hi=>by have:=p.nx;rw[gan]
  have bk:(g.add (.cells ((ak T).map az))).E g.nx=some ((ak T).map az):=cas;have bp:=p.nx;have ej:g.nx<(g.add (.cells ((ak T).map az))).nx:=by simp
  simp[V0];rw[sk g T bd];generalize g.add (.cells ((ak T).map az))=h5 at*;have bs:h5.E k5=some [I 8,I 0,I 0,I 0,I 0,I 0,I 0,I 0,I 0,I 0,I 0,I 0,.bool false,.bool false,I 0,.D,I 0,I 0,I 0,I 0,I 0,.str [],I 15,.D,.D,.D,I 0,I 0,.bool false,I 0,I 0,I 0,I 0,I 0,I 0,.D,I 0]:=S.b;simp[bs];have dk:(AV.rsl g.nx 0 (ak T).length 1).one=true:=rfl;generalize cx:AV.rsl g.nx 0 (ak T).length 1=q at*;have bY:=S.lz e (bu 15 q 0 .D);have cb:(h5.set k5 (.cells (bu 15 q 0 .D))).E g.nx=some ((ak T).map az):=(csn).trans bk;have ek:(h5.set k5 (.cells (bu 15 q 0 .D))).nx=h5.nx:=rfl;have ar:h5.set k5 (.cells [I 8,I 0,I 0,I 0,I 0,I 0,I 0,I 0,I 0,I 0,I 0,I 0,.bool false,.bool false,I 0,.D,I 0,I 0,I 0,I 0,I 0,.str [],I 15,q,.D,.D,I 0,I 0,.bool false,I 0,I 0,I 0,I 0,I 0,I 0,.D,I 0])=h5.set k5 (.cells (bu 15 q 0 .D)):=rfl;rw[ar];generalize h5.set k5 (.cells (bu 15 q 0 .D))=h6 at*;refine sD (Kj (x:=⟨s,t3⟩) bY.a (gq o bY.nx) ⟨hs,b7.lt⟩) ?_;have b0:=bY.gM e (rdC ⟨s,bA s t3⟩);have ca:=jP s t3 b7.lt;have cc:(h6.set id (.cells (rdC ⟨s,bA s t3⟩))).E g.nx=some ((ak T).map az):=(csn).trans cb;have en:(h6.set id (.cells (rdC ⟨s,bA s t3⟩))).nx=h6.nx:=rfl;simp only at b0 ⊢;generalize h6.set id (.cells (rdC ⟨s,bA s t3⟩))=h7 at*;generalize dR s t3=N at*;generalize bA s t3=t4 at*;have cy:h7.E k5=some [I 8,I 0,I 0,I 0,I 0,I 0,I 0,I 0,I 0,I 0,I 0,I 0,.bool false,.bool false,I 0,.D,I 0,I 0,I 0,I 0,I 0,.str [],I 15,q,.D,.D,I 0,I 0,.bool false,I 0,I 0,I 0,I 0,I 0,I 0,.D,I 0]:=b0.b
  simp[S1,cy];have cN:=b0.lz e (bu 15 q N .D);have cd:(h7.set k5 (.cells (bu 15 q N .D))).E g.nx=some ((ak T).map az):=(csn).trans cc;have eo:(h7.set k5 (.cells (bu 15 q N .D))).nx=h7.nx:=rfl;have av:h7.set k5 (.cells [I 8,I 0,I 0,I 0,I 0,I 0,I 0,I 0,I 0,I 0,I 0,I 0,.bool false,.bool false,I 0,.D,I 0,I 0,I 0,I 0,I 0,.str [],I 15,q,.D,.D,I 0,I 0,.bool false,I 0,I 0,I 0,I 0,I 0,I N,.D,I 0])=h7.set k5 (.cells (bu 15 q N .D)):=rfl;rw[av];generalize h7.set k5 (.cells (bu 15 q N .D))=h8 at*;have b3:gn s (s.length+3) [] t4=sM s t4:=rfl;generalize ep:sM s t4=R at*;have ds:g.nx<h8.nx:=by omega
  refine⟨λm vs h'=>∃(acc:List Int) (t:RS) (lv:AV),vs=[.ptr id 0,.ptr k5 22]/\R2 h h' id k5 (rdC ⟨s,t⟩) (bu 15 q N lv)/\OL 2 h8 h' lv acc.length (iG acc).flatten/\h'.E g.nx=some ((ak T).map az)/\h8.nx<=h'.nx/\t.pos<=s.length+1/\ky s t<=m/\gn s m acc t=R/\(t.bad=false->acc.length+1<=t.pos),s.length+3,?_,?_⟩
  ·exact⟨[],t4,.D,rfl,cN,OL.start _ _ _,cd,ay _,ca.1.lt,by unfold ky;split<;>omega,b3,λK=>by have:=ca.2 K;simp;omega⟩
  rintro m vs h' ⟨acc,t,lv,rfl,J,hO,aw,er,b1,hm,hq,hlen⟩;have an:h'.E id=some [.str s,I t.pos,.bool t.bad]:=J.a;have aS:=gq o J.nx;simp[UD];refine⟨λvs z=>vs=[.ptr id 0,.ptr k5 22,.bool (!t.bad && !(decide (s.length<=t.pos)))]/\z=h',?_,?_⟩
  ·cases K:t.bad
   ·rw[K]at an;simp[EO,an];refine sD (IP (x:=⟨s,t⟩) J.a aS ⟨hs,b1⟩) ?_;simp[]
   rw[K]at an;simp[EO,an]
  rintro vs z ⟨rfl,rfl⟩;cases j:(!t.bad && !(decide (s.length<=t.pos)))
  ·have aT:gn s m acc t=(acc,t):=by
    cases m with
    |zero=>rfl
    |succ m=>
     unfold gn;cases K:t.bad
     ·rw[K]at j;simp at j;simp[j]
     simp
   rw[hq]at aT;subst aT;simp[E1,SR,G2];refine⟨_,J,kW ?_ ?_⟩
   ·rw[<-cx];exact wm aw bp
   have cR:OL 2 h8 z lv (iG acc).length (iG acc).flatten:=by rw[show(iG acc).length=acc.length by simp[iG]];exact hO
   exact rS (abM acc) (Ml acc) cR (by omega)
  simp only[aI,j7,jx]at j;obtain⟨K,cT⟩:=j;obtain⟨m,rfl⟩:∃k,m=k+1:=⟨m-1,by unfold ky at hm;rw[K]at hm;simp at hm;omega⟩;have ao:=hq;unfold gn at ao;rw[K]at ao;simp only[dT,bH,cT]at ao;have B:=jP s t b1;have c6:=F? s t;have hM:bh=1099511627776:=rfl;rw[hM]at c6;simp[E1];refine sD (Kj (x:=⟨s,t⟩) J.a aS ⟨hs,b1⟩) ?_;have ad:=J.gM e (rdC ⟨s,bA s t⟩);have cf:=hO.set (id:=id) (by omega) (.cells (rdC ⟨s,bA s t⟩));have b4:(z.set id (.cells (rdC ⟨s,bA s t⟩))).E g.nx=some ((ak T).map az):=(csn).trans aw;have eb:(z.set id (.cells (rdC ⟨s,bA s t⟩))).nx=z.nx:=rfl;simp only at ad ⊢;generalize z.set id (.cells (rdC ⟨s,bA s t⟩))=U at*;generalize dR s t=M at*;generalize bA s t=t5 at*;have cn:U.E k5=some [I 8,I 0,I 0,I 0,I 0,I 0,I 0,I 0,I 0,I 0,I 0,I 0,.bool false,.bool false,I 0,.D,I 0,I 0,I 0,I 0,I 0,.str [],I 15,q,.D,.D,I 0,I 0,.bool false,I 0,I 0,I 0,I 0,I 0,I N,lv,I 0]:=ad.b;obtain⟨V,W,cr,a1,ec,a6⟩:=kt (bytes:=16) (tc:=clC M) cf (by omega) rfl rfl (by have:=hlen K;omega) (by omega);have c7:jk U true (I M) (I (-M))=some (I (max M (-M)),U):=Am _ _ _;have c8:fy (U.add (.cells [I (max M (-M)),.bool (decide (M<0))])) 2 16 lv (.rsl U.nx 0 1 2)=some (V,W):=cr;simp(disch:=first|go_size|fail)[cn,c7,TC];rw[c8];have a7:=ad.new ⟨o,af⟩ (by omega) λi hi=>a6 i (by omega)
  have ct:W.E k5=some [I 8,I 0,I 0,I 0,I 0,I 0,I 0,I 0,I 0,I 0,I 0,I 0,.bool false,.bool false,I 0,.D,I 0,I 0,I 0,I 0,I 0,.str [],I 15,q,.D,.D,I 0,I 0,.bool false,I 0,I 0,I 0,I 0,I 0,I N,lv,I 0]:=a7.b;have b5:W.E g.nx=some ((ak T).map az):=by rw[aV (a6 g.nx (by omega))];exact b4
  have dc:kSt W 1 (.ptr k5 35) V=some (.undef,W.set k5 (.cells (bu 15 q N V))):=by
   have cu:=a1;rcases cu with⟨_,h0,_⟩|⟨k,dd,_⟩
   ·omega
   rw[dd];simp(disch:=first|go_size|fail)[ct];rfl
  simp[];rw[dc];simp[];refine⟨m,by omega,acc++[M],t5,V,a7.lz e (bu 15 q N V),?_,(by rw[ifn];exact b5),by omega,B.1.lt,?_,ao,?_⟩
  ·have e1:(acc++[M]).length=acc.length+1:=by simp
   have e2:(iG (acc++[M])).flatten=(iG acc).flatten++clC M:=by simp[iG]
   rw[e1,e2];exact a1.set (by omega) _
  ·unfold ky at hm ⊢;rw[K]at hm;simp only[dT,bH]at hm;cases b2:t5.bad
   ·have:=B.2 b2;have:=B.1.lt;simp only[dT,bH];omega
   simp
  intro b2;have:=B.2 b2;have:=hlen K;rw[au];simp only[dP];omega
 rw[O w4];have bx:¬w=[117,112,100,97,116,101]:=w4;have df:h2.E id=some [.str s,I t2.pos,.bool t2.bad]:=r.a;simp[a8,ba,bb,bx,Xk,df];exact⟨_,r.gM e _,kW .fo .fo⟩
def zIn:LA:=[I 0,I 0,I 0,I 0,I 0,I 0,I 0,I 0,I 0,I 0,I 0,I 0,.bool false,.bool false,I 0,.D,I 0,I 0,I 0,I 0,I 0,.str [],I 0,.D,.D,.D,I 0,I 0,.bool false,I 0,I 0,I 0,I 0,I 0,I 0,.D,I 0]
def stN(cs:LA)(off:Nat)(vs:LA):LA:=cs.take off++vs++cs.drop (off+vs.length)
variable {cs vs:LA}{off:Nat}
theorem nJ(h:off+vs.length<=cs.length):aP cs off vs=some (stN cs off vs):=by
 unfold aP stN;rw[Z h]
theorem wH{v:AV}(h:off<cs.length):aP cs off [v]=some (stN cs off [v]):=nJ (by simp;omega)
theorem ac2{a b:AV}(h:off+2<=cs.length):aP cs off [a,b]=some (stN cs off [a,b]):=nJ (by simp;omega)
theorem SD{a b c:AV}(h:off+3<=cs.length):aP cs off [a,b,c]=some (stN cs off [a,b,c]):=nJ (by simp;omega)
theorem adv{a b c d e f:AV}(h:off+6<=cs.length):aP cs off [a,b,c,d,e,f]=some (stN cs off [a,b,c,d,e,f]):=nJ (by simp;omega)
theorem Dm(h:off+vs.length<=cs.length):(stN cs off vs).length=cs.length:=by
 unfold stN;simp only[au,mv,bW];omega
theorem KZ(h1:aM cs=true)(h2:aM vs=true):aM (stN cs off vs)=true:=by
 unfold aM stN at*;rw[fi]at*;intro x e;simp only[nC]at e;rcases e with(e|e)|e
 ·exact h1 x (List.mem_of_mem_take e)
 ·exact h2 x e
 exact h1 x (List.mem_of_mem_drop e)
theorem B6{p j:LA}(h1:bU H false cs p)(h2:bU H false vs j):bU H false (stN cs off vs) (stN p off j):=by
 have q:vs.length=j.length:=((dW _ _ _ _).1 h2).1;have g:=(dW _ _ _ _).1 h1;unfold stN;rw[<-q];refine bU.app (bU.app ?_ h2) ?_
 ·rw[dW];refine⟨by simp[g.1],λi c d hi e=>?_⟩;rw[gN]at hi e;split at hi
  ·rename_i o;rw[Z o]at e;exact g.2 i c d hi e
  cases hi
 rw[dW];refine⟨by simp[g.1],λi c d hi e=>?_⟩;rw[ew]at hi e;exact g.2 _ c d hi e
theorem DE(H:AH):bU H false zIn zIn:=by
 unfold zIn;repeat' (first|exact trivial|refine And.intro ?_ ?_|exact .int _ _|exact .bool _|exact .str _|exact .fo)
structure L3(h h':AH)(c1 c2:LA):Prop where
 r:h'.E h.nx=some zIn
 a:h'.E (h.nx+1)=some c1
 b:h'.E (h.nx+2)=some c2
 nx:h.nx+3<=h'.nx
 get:∀i,i<h.nx->h'.H.get i=h.H.get i
 len:c2.length=37
 one:aM c2=true
theorem L3.gM(l:L3 h h' c1 c2)(d:LA):L3 h (h'.set (h.nx+1) (.cells d)) d c2:=
 ⟨by rw[csn];exact l.r,cse,by rw[csn];exact l.b,l.nx,λi hi=>by rw[gsn];exact l.get i hi,l.len,l.one⟩
theorem L3.lz(l:L3 h h' c1 c2)(d:LA)(e:d.length=37)(g:aM d=true):L3 h (h'.set (h.nx+2) (.cells d)) c1 d:=
 ⟨by rw[csn];exact l.r,by rw[csn];exact l.a,cse,l.nx,λi hi=>by rw[gsn];exact l.get i hi,e,g⟩
theorem L3.st(l:L3 h h' c1 c2)(off:Nat)(vs:LA)(e:off+vs.length<=37)(g:aM vs=true):L3 h (h'.set (h.nx+2) (.cells (stN c2 off vs))) c1 (stN c2 off vs):=
 l.lz _ (by rw[Dm (by rw[l.len];exact e)];exact l.len) (KZ l.one g)
variable {k:Nat}
theorem L3.bump(l:L3 h h' c1 c2)(e:h'.nx<=k):L3 h ⟨h'.H,k⟩ c1 c2:=⟨l.r,l.a,l.b,bf l.nx e,l.get,l.len,l.one⟩
theorem L3.new(l:L3 h h' c1 c2)(g:h'.nx<=h2.nx)(e:∀i,i<h'.nx->h2.H.get i=h'.H.get i):L3 h h2 c1 c2:=
 have n1:=l.nx
 ⟨by rw[aV (e _ (by omega))];exact l.r,by rw[aV (e _ (by omega))];exact l.a,by rw[aV (e _ (by omega))];exact l.b,by omega,λi hi=>by rw[e i (by omega)];exact l.get i hi,l.len,l.one⟩
def tq(h h':AH)(c2 d2:LA):Prop:=∀h2:AH,h'.nx<=h2.nx->(∀i,h.nx+3<=i->i<h'.nx->h2.H.get i=h'.H.get i)->bU (fresh h2 h.nx) false c2 d2
theorem tq.plain(h1:∀H:AH,bU H false c2 d2):tq h h' c2 d2:=λ_ _ _=>h1 _
def LM(h:AH)(s:Str)(x:List AV×RS):NT:=λvs h'=>vs=[.ptr h.nx 0,.ptr (h.nx+1) 0,.ptr (h.nx+2) 0]/\∃c2,L3 h h' (rdC ⟨s,x.2⟩) c2/\tq h h' c2 x.1
variable {t:RS}
theorem ach(i:s.length<=1000000000):(aJ s t).length<=1000000000/\∀c∈aJ s t,c≠32:=by
 unfold aJ;have:=ln (aH false) (s.drop t.pos);rw[bW]at this;refine⟨by omega,λc g=>?_⟩;have e:=List.all_takeWhile (l:=s.drop t.pos) (p:=aH false);rw[fi]at e;have:=e c g;rintro rfl;simp[aH]at this
def bL(t:RS)(b:Bool):RS:=⟨t.pos,t.bad||b⟩
def pln:AV->Bool
 |.int _ _=>true
 |.bool _=>true
 |.str _=>true
 |_=>false
theorem xX:∀ {vs:LA},vs.all pln=true->aM vs=true/\∀H,bU H false vs vs
 |[],_=>⟨rfl,λ_=>trivial⟩
 |v::l,h=>by
  rw[nE,aI]at h;have a:=xX h.2;cases v<;>first|exact⟨a.1,λH=>⟨.int _ _,a.2 H⟩⟩|exact⟨a.1,λH=>⟨.bool _,a.2 H⟩⟩|exact⟨a.1,λH=>⟨.str _,a.2 H⟩⟩|cases h.1
variable {n:Nat}
theorem spl:(∀a,n<cs.length->aP cs n [a]=some (stN cs n [a]))/\(∀a b,n+2<=cs.length->aP cs n [a,b]=some (stN cs n [a,b]))/\(∀a b c,n+3<=cs.length->aP cs n [a,b,c]=some (stN cs n [a,b,c]))/\
  ∀a b c d e f,n+6<=cs.length->aP cs n [a,b,c,d,e,f]=some (stN cs n [a,b,c,d,e,f]):=⟨λ_=>wH,λ_ _=>ac2,λ_ _ _=>SD,λ_ _ _ _ _ _=>adv⟩
@[simp] theorem akD:zIn.length=37:=ag rfl rfl
@[simp] theorem al5:(stN cs off vs).length=(if off<=cs.length then off else cs.length)+vs.length+(cs.length-(off+vs.length)):=by
 unfold stN;simp only[au,mv,bW];split<;>omega
structure Cel(cs:LA):Prop where
 len:cs.length=37
 one:aM cs=true
 frz:∀H:AH,bU H false cs cs
theorem Cel.st(c:Cel cs)(off:Nat)(vs:LA)(h:off+vs.length<=37)(e:aM vs=true)(g:∀H:AH,bU H false vs vs):Cel (stN cs off vs):=
 ⟨by rw[Dm (by rw[c.len];exact h)];exact c.len,KZ c.one e,λH=>B6 (c.frz H) (g H)⟩
theorem Cel.p(c:Cel cs)(h:off+vs.length<=37:=by simp)(e:vs.all pln=true:=by rfl):Cel (stN cs off vs):=c.st _ _ h (xX e).1 (xX e).2
theorem fu:Cel zIn:=⟨rfl,rfl,DE⟩
structure LS(C:LA)(s:Str)(p:Nat)(h h':AH)(c:LA):Prop where
 l:L3 h h' C c
 hs:s.length<=1000000000
 p:p<=s.length
 c:Cel c
variable {C c:LA}
theorem LS.st{p:Nat}(L:LS C s p h h' c)(e:off+vs.length<=37:=by simp)(g:vs.all pln=true:=by rfl):LS C s p h (h'.set (h.nx+2) (.cells (stN c off vs))) (stN c off vs):=
 ⟨L.l.st _ _ e (xX g).1,L.hs,L.p,L.c.p e g⟩
theorem LS.r{C':LA}{p e:Nat}(L:LS C s p h h' c)(g:e<=s.length):LS C' s e h (h'.set (h.nx+1) (.cells C')) c:=⟨L.l.gM _,L.hs,g,L.c⟩
theorem LS.fin{p:Nat}(L:LS C s p h h' c):∃c2,L3 h h' C c2/\tq h h' c2 c:=⟨_,L.l,.plain L.c.frz⟩
def LQ(C:LA)(s:Str)(p:Nat)(h h':AH)(c:LA)(G:Prop):Prop:=LS C s p h h' c->h'.E (h.nx+2)=some c->c.length=37->h.nx+3<=h'.nx->G
variable {G:Prop}
theorem LS.o{p:Nat}(L:LS C s p h h' c)(q:LQ C s p h h' c G):G:=q L L.l.b L.c.len L.l.nx
abbrev LR(h h':AH)(s:Str)(t:RS)(c:LA):Prop:=LS (rdC ⟨s,t⟩) s t.pos h h' c
theorem LS.ok(L:LR h h' s t c):h.nx+1<h'.nx/\(Rd.mk s t).Ok:=⟨by have:=L.l.nx;omega,L.hs,Nat.le_succ_of_le L.p⟩
theorem LS.num(L:LR h h' s t c)(q:∀h2,LQ (rdC ⟨s,bA s t⟩) s (bA s t).pos h h2 c (Q (I (dR s t)) h2)):tU prog 49 [.ptr (h.nx+1) 0] h' Q:=
 sD (Kj L.l.a L.ok.1 L.ok.2) ((L.r (afc s t L.p)).o (q _))
theorem LS.gap(L:LR h h' s t c)(q:∀h2,LQ (rdC ⟨s,ae s t⟩) s (ae s t).pos h h2 c (Q (.tup []) h2)):tU prog 47 [.ptr (h.nx+1) 0] h' Q:=
 sD (s_ L.l.a L.ok.1 L.ok.2) ((L.r (Fg s t L.p)).o (q _))
theorem LS.word(L:LR h h' s t c)(q:∀h2,LQ (rdC ⟨s,a_ s t⟩) s (a_ s t).pos h h2 c (Q (.str (aJ s t)) h2)):tU prog 46 [.ptr (h.nx+1) 0] h' Q:=
 sD (BU L.l.a L.ok.1 ⟨L.ok.2,L.p⟩) ((L.r (JG s t L.p).2).o (q _))
theorem LS.bad{x:LA}(L:LR h h' s t c)(b:Bool)(e:x=[.str s,I t.pos,.bool (t.bad||b)]):LR h (h'.set (h.nx+1) (.cells x)) s (bL t b) c:=by
 subst e;exact L.r L.p
abbrev Pt3(h:AH):LA:=[.ptr h.nx 0,.ptr (h.nx+1) 0,.ptr (h.nx+2) 0]
def LG(h h1:AH)(s w:Str)(x:List AV×RS):Prop:=lR (.ptr h.nx 0) (.ptr (h.nx+1) 0) (.ptr (h.nx+2) 0) (.str w) h1 (LM h s x)
def tb(s:Str)(t:RS):List AV×RS:=(stN (stN zIn 0 [I 3]) 9 [I (dR s t)],bA s t)
variable {h1:AH}
theorem afO(L:LR h h1 s t zIn):LG h h1 s gI (tb s t):=by
 refine L.o λL e g i=>?_
 simp[LG,lR,gI,e,spl];refine L.st.num λ_ L e g i=>?_
 simp[e,spl];exact⟨rfl,L.st.fin⟩
def sZ(s:Str)(t:RS):List AV×RS:=(stN (stN (stN zIn 0 [I 4]) 10 [I (dR s t)]) 11 [I (dR s (bA s t))],bA s (bA s t))
theorem aeT(L:LR h h1 s t zIn):LG h h1 s jj (sZ s t):=by
 refine L.o λL e g i=>?_
 simp[LG,lR,jj,e,spl];refine L.st.num λ_ L e g i=>?_
 simp[O2,e,spl];refine L.st.num λ_ L e g i=>?_
 simp[OI,e,spl];exact⟨rfl,L.st.fin⟩
def q_(s:Str)(t:RS):List AV×RS:=
 let t2:=ae s t
 let o:=fA gz (aJ s t2)
 let t3:=bL (a_ s t2) (decide (o<0))
 let t4:=bA s t3
 let t5:=bA s t4
 let t6:=bA s t5
 let t7:=bA s t6
 (stN (stN (stN (stN (stN (stN zIn 0 [I 1]) 1 [I o,I (dR s t3),I 0,I 0,I 0,I 0]) 3 [I (dR s t4)]) 4 [I (dR s t5)]) 5 [I (dR s t6)]) 6 [I (dR s t7)],bA s t7)
theorem agf(L:LR h h1 s t zIn):LG h h1 s ja (q_ s t):=by
 refine L.o λL e g i=>?_
 simp[LG,lR,ja,e,spl];refine L.st.gap λ_ L e g i=>?_
 refine sD (IA trivial) ?_;simp[Ug];refine L.word λp L e g i=>?_
 refine sD (N7 gz _ (by decide)) ?_;unfold q_;simp only;generalize fA gz _=o at*;generalize a_ s _=t at*;refine⟨λvs h'=>vs=Pt3 h++[I o]/\LR h h' s (bL t (decide (o<0))) (stN zIn 0 [I 1]),?_,?_⟩
 ·have j:p.E (h.nx+1)=some [.str s,I t.pos,.bool t.bad]:=L.l.a;cases e:t.bad<;>(rw[e]at j;simp[Xe,j];simp[WC,j];exact L.bad _ (by simp[e]))
 rintro vs h' ⟨rfl,L⟩;generalize bL t _=u at*;simp[VA];refine L.num λ_ L e g i=>?_
 simp[Tr,e,spl];refine L.st.num λ_ L e g i=>?_
 simp[Vt,e,spl];refine L.st.num λ_ L e g i=>?_
 simp[Vu,e,spl];refine L.st.num λ_ L e g i=>?_
 simp[S6,e,spl];refine L.st.num λ_ L e g i=>?_
 simp[Us,e,spl];exact⟨rfl,L.st.fin⟩
def ma(w:Str):LA:=[I (dU w).1,I (dU w).2.1]
def oi(w:Str):Bool:=decide (ph w≠0)||decide ((lf w).length≠1)
variable {w:Str}
theorem ahc(h:oi w=false):lf w=[ma w]:=by
 simp only[oi,kh,jx]at h;have h2:=h.2;unfold lf at h2 ⊢;split
 ·rfl
 rename_i e;rw[O e]at h2;simp at h2
def rb(s:Str)(t:RS):List AV×RS:=
 let t2:=ae s t
 let w:=aJ s t2
 let t3:=bL (a_ s t2) (oi w)
 (stN (if t3.bad=true then stN zIn 0 [I 2]else stN (stN zIn 0 [I 2]) 7 (ma w)) 9 [I (dR s t3)],bA s t3)
theorem agj{t:RS}(L:LR h h1 s t zIn):LG h h1 s gX (rb s t):=by
 refine L.o λL e g p=>?_
 simp[LG,lR,gX,e,spl];refine L.st.gap λ_ L e g p=>?_
 refine L.word λz L e g p=>?_
 simp[Q8];have hw:=ach (t:=ae s t) L.hs;refine sD (abv _ hw) ?_;simp[Wg];unfold rb;simp only;generalize aJ s _=w at*;generalize a_ s _=t at*;refine⟨λvs h'=>vs=Pt3 h++[.psl (lf w)]/\LR h h' s (bL t (oi w)) (stN zIn 0 [I 2]),?_,?_⟩
 ·have j:z.E (h.nx+1)=some [.str s,I t.pos,.bool t.bad]:=L.l.a;unfold oi;generalize lf w=M at*;generalize ph w=J at*;have A:((M.length:Int) != 1)=decide (M.length≠1):=by
   by_cases g:M.length=1
   ·simp[g]
   have:¬(M.length:Int)=1:=by omega
   simp[g,this]
  cases e:t.bad<;>by_cases B:J=0<;>(rw[e]at j;simp[W_,j,B];simp[Tv,j,A];exact L.bad _ (by simp[e]))
 rintro vs h' ⟨rfl,L⟩;have q:(bL t (oi w)).bad=false->lf w=[ma w]:=λy=>ahc (by simp only[bL,kh]at y;exact y.2)
 generalize bL t _=u at*;have j:h'.E (h.nx+1)=some [.str s,I u.pos,.bool u.bad]:=L.l.a;simp[U4,j];refine⟨λvs h2=>vs=Pt3 h/\LR h h2 s u (if u.bad=true then stN zIn 0 [I 2]else stN (stN zIn 0 [I 2]) 7 (ma w)),?_,?_⟩
 ·cases e:u.bad
  ·have r:∀h:AH,aC h 2 (.psl [ma w]) (I 0)=some (.ai (ma w),h):=λh=>gQ (i:=0) rfl rfl
   have x:∀h:AH,gh h 2 (.ai (ma w))=some (.agg (ma w),h):=λh=>rfl
   rw[q e];simp[Gq];rw[r];unfold ma at*;simp[x,L.l.b,spl];exact L.st
  simp[Gq];exact L
 rintro vs h2 ⟨rfl,L⟩;generalize ite (u.bad=true) _ _=c2 at*;simp[U9];refine L.num λ_ L e g p=>?_
 simp(disch:=first|go_size|fail)[e,spl];exact⟨rfl,L.st.fin⟩
def qQ(a b:Str):Bool:=(decide (a≠iy)&&decide (a≠kl))||(decide (b≠gU)&&decide (b≠jB))
def sH(s:Str)(t:RS):List AV×RS:=
 let t2:=ae s t
 let a:=aJ s t2
 let t3:=ae s (a_ s t2)
 let b:=aJ s t3
 let t4:=bL (a_ s t3) (qQ a b)
 (stN (stN (stN zIn 0 [I 5]) 12 [.bool (a==iy),.bool (b==gU),I 0]) 14 [I (dR s t4)],bA s t4)
theorem two{a b:Str}:w=a/\w=a\/¬w=a/\w=b\/¬w=a/\¬w=b:=by
 by_cases h:w=a
 ·exact .inl ⟨h,h⟩
 by_cases g:w=b
 ·exact .inr (.inl ⟨h,g⟩)
 exact .inr (.inr ⟨h,g⟩)
theorem aew(L:LR h h1 s t zIn):LG h h1 s jh (sH s t):=by
 refine L.o λL e g i=>?_
 simp[LG,lR,jh,e,spl];refine L.st.gap λ_ L e g i=>?_
 simp[Sj];refine L.word λ_ L e g i=>?_
 refine L.gap λ_ L e g i=>?_
 refine L.word λq L e g i=>?_
 unfold sH;simp only;generalize a_ s (ae s (a_ s (ae s t)))=t5 at*;generalize aJ s (ae s (a_ s (ae s t)))=b at*;generalize aJ s (ae s t)=a at*;simp[e,SD];rw[show([100,97,114,107]:Str)=iy from rfl,show([104,105,103,104]:Str)=gU from rfl];replace L:=L.st (off:=12) (vs:=[.bool (a==iy),.bool (b==gU),I 0])
 generalize q.set _ _=r at*;refine⟨λvs h'=>vs=Pt3 h/\LR h h' s (bL t5 (qQ a b)) (stN (stN zIn 0 [I 5]) 12 [.bool (a==iy),.bool (b==gU),I 0]),?_,?_⟩
 ·have j:r.E (h.nx+1)=some [.str s,I t5.pos,.bool t5.bad]:=L.l.a;generalize stN _ 12 _=c at*;simp only[qQ,iy,kl,gU,jB];rcases two (w:=a) (a:=[100,97,114,107]) (b:=[108,105,103,104,116])with⟨p,a2⟩|⟨p,a2⟩|⟨p,a2⟩<;>rcases two (w:=b) (a:=[104,105,103,104]) (b:=[110,111,114,109,97,108])with⟨b1,b2⟩|⟨b1,b2⟩|⟨b1,b2⟩<;>cases e:t5.bad <;>
   (rw[e]at j;simp[WQ,j,p,a2];simp[Sq,a2,b1,b2];simp[Qy,j];exact L.bad _ (by simp[e,b2]))
 rintro vs h' ⟨rfl,L⟩;generalize bL t5 _=u at*;simp[WO];refine L.num λ_ L e g i=>?_
 simp[Sz,e,spl];exact⟨rfl,L.st.fin⟩
theorem Ae(g:∀y∈ys,∀(j:Nat) (c:AV),y[j]?=some c->Frz H false c c):Frz H false (.psl ys) (.psl ys):=
 .psl rfl _ _ rfl (λi x y o g=>by rw[o]at g;cases g;rfl) λi x y j c d o e p q=>by
  rw[o]at e;cases e;rw[p]at q;cases q;exact g x (cQ o) j c p
theorem Mu(s:Str)(H:AH):Frz H false (.psl (iE s)) (.psl (iE s)):=Ae λy g j c e=>by
 obtain⟨n,_,rfl⟩:=eK.1 g;match j with
 |0=>simp at e;subst e;exact .int _ _
 |j+1=>simp at e
theorem ML(s:Str)(t:RS)(H:AH):bU H false (gC (eX s t).1) (gC (eX s t).1):=by
 unfold gC eX;simp only;split
 ·exact kW .fo .fo
 split
 ·exact kW .fo .fo
 split
 ·exact kW (Mu _ _) .fo
 split
 ·exact kW (Mu _ _) (Ae λy e j c g=>Ml _ y e H j c g)
 exact kW .fo .fo
theorem LW(s:Str)(t:RS):aM (gC (eX s t).1)=true:=by
 unfold gC eX;simp only;split
 ·rfl
 split
 ·rfl
 split
 ·rfl
 split<;>rfl
theorem aak(w:Str):-1<=fA dY w/\fA dY w<9:=by
 unfold fA;split
 ·omega
 exact⟨xy _ _,uN dY w⟩
theorem ad4(L:LR h h1 s t zIn)(e:w≠ja)(g:w≠gX)(i:w≠gI)(j:w≠jj)(o:w≠jh)(q:w≠cK)(x:w≠jc)(y:w≠iI):LG h h1 s w (zIn,⟨t.pos,true⟩):=by
 have z:h1.E (h.nx+1)=some [.str s,I t.pos,.bool t.bad]:=L.l.a;unfold ja at e;unfold gX at g;unfold gI at i;unfold jj at j;unfold jh at o;unfold cK at q;unfold jc at x;unfold iI at y;simp[LG,lR,e,g,i,j,o,q,x,Dn,y,z];exact⟨rfl,(L.r L.p).fin⟩
theorem Y!(L:LR h h1 s t zIn):LG h h1 s iI (gC (eX s t).1,(eX s t).2):=by
 refine L.o λL g i j=>?_
 simp[LG,lR,iI,Dn,g,spl];have e:=L.l.st 0 [I 8] (by simp) rfl;refine sD (J? e.a e.b (by simp;omega) (by simp;omega) (by omega) ⟨L.hs,L.p⟩) ?_;exact⟨rfl,_,(e.gM (rdC ⟨s,(eX s t).2⟩)).lz (gC (eX s t).1) rfl (LW _ _),.plain λH=>ML _ _ H⟩
def ow(s:Str)(t:RS):List AV×RS:=
 let t2:=bA s t
 let t3:=ae s (bA s t2)
 let o:=fA dY (aJ s t3)
 let t4:=bL (a_ s t3) (decide (o<0))
 let t5:=bA s t4
 let t6:=bA s t5
 (stN (stN (stN (stN (stN (stN (stN zIn 0 [I 7]) 16 [I (dR s t)]) 17 [I (dR s t2)]) 18 [I ((2:Int)^(max o 0).toNat)]) 19 [I (dR s t4)]) 20 [I (dR s t5)]) 21 [.str (jT s t6)],jF s t6)
theorem ag2(L:LR h h1 s t zIn):LG h h1 s jc (ow s t):=by
 refine L.o λL e i g=>?_
 simp[LG,lR,jc,QO,e,spl];refine L.st.num λ_ L e i g=>?_
 simp[RE,e,spl];refine L.st.num λ_ L e i g=>?_
 simp[O0,e,spl];refine L.st.gap λ_ L e i g=>?_
 refine sD (yZ trivial) ?_;simp[QD];refine L.word λr L e i g=>?_
 refine sD (N7 dY _ (by decide)) ?_;unfold ow;simp only;have ob:=aak (aJ s (ae s (bA s (bA s t))));generalize fA dY _=o at*;generalize a_ s _=t7 at*;refine⟨λvs h'=>vs=Pt3 h++[I o]/\LR h h' s (bL t7 (decide (o<0))) (stN (stN (stN zIn 0 [I 7]) 16 [I (dR s t)]) 17 [I (dR s (bA s t))]),?_,?_⟩
 ·have j:r.E (h.nx+1)=some [.str s,I t7.pos,.bool t7.bad]:=L.l.a;cases e:t7.bad<;>(rw[e]at j;simp[QS,j];simp[Rl,j];exact L.bad _ (by simp[e]))
 rintro vs h' ⟨rfl,L⟩;generalize bL t7 _=u at*;obtain⟨n,g⟩:∃n:Nat,n=(max o 0).toNat:=⟨_,rfl⟩;have hm:∀h:AH,jk h true (I o) (I 0)=some (I n,h):=λh=>by rw[Am,show max o 0=(n:Int)by omega]
 have q:n<9:=by omega
 rw[<-g];refine L.o λL e i g=>?_
 simp[RY];rw[hm];simp[sS n q];rw[XW _ n q];simp[e,spl];refine L.st.num λ_ L e i g=>?_
 simp[QQ,e,spl];refine L.st.num λ_ L e i g=>?_
 simp[Qv,e,spl];replace L:=L.st (off:=20) (vs:=[I (dR s (bA s u))])
 refine sD (Ce L.l.a L.ok.1 L.ok.2) ?_;have l:=L.l.gM (rdC ⟨s,jF s (bA s (bA s u))⟩);simp[OZ,l.b,spl];exact⟨rfl,_,l.st 21 _ (by simp) rfl,.plain L.c.p.frz⟩
open Go.Lib (itoa decDigits)
theorem Aq(n:Int)(cl:Bool):∀c∈itoa n,aH cl c=true:=by
 have g:∀u,∀c∈decDigits u,aH cl c=true:=λu c e=>by
  have:=rZ u c e;unfold aH;have h1:c≠32:=by rintro rfl;simp[fv]at this
  have h2:c≠93:=by rintro rfl;simp[fv]at this
  simp[h1,h2]
 unfold itoa;split
 ·intro c e;rcases cE.1 e with rfl|e
  ·cases cl<;>rfl
  exact g _ c e
 exact g _
theorem adO(n:Int):itoa n≠[]:=by
 unfold itoa;split
 ·simp
 exact so _
theorem N6(h:fO w=true):w.isEmpty=false:=by
 obtain⟨n,_,_,rfl,_⟩:=(rG w).1 h;cases hi:itoa n with
 |nil=>exact absurd hi (adO n)
 |cons c l=>rfl
theorem HU{p:UInt8->Bool}:∀(a r:Str),(∀c∈a,p c=true)->(∀c t,r=c::t->p c=false)->(a++r).takeWhile p=a
 |[],r,_,e=>by
  cases r with
  |nil=>rfl
  |cons c t=>simp[e c t rfl]
 |c::a,r,g,e=>by
  have:=HU a r (λd i=>g d (by simp[i])) e;simp[g c (by simp),this]
theorem rM(p:UInt8->Bool):∀x:Str,∃r,x=x.takeWhile p++r/\∀c t,r=c::t->p c=false
 |[]=>⟨[],rfl,by simp⟩
 |c::x=>by
  obtain⟨r,h1,h2⟩:=rM p x;by_cases e:p c=true
  ·refine⟨r,?_,h2⟩;rw[tL e,cp,<-h1]
  refine⟨c::x,?_,λd t h=>by cases h;simpa using e⟩;rw[vB e];rfl
variable {cl:Bool}
theorem aa0{c:UInt8}(h:aH cl c=false):fv c=false:=by
 unfold aH at h;cases e:fv c
 ·rfl
 exfalso;have h1:c≠32:=by rintro rfl;simp[fv]at e
 have h2:c≠93:=by rintro rfl;simp[fv]at e
 simp[h1,h2]at h
theorem abD(cl:Bool)(x:Str):(fO (x.takeWhile (aH cl))=true->jG x=true/\eg x=gw (x.takeWhile (aH cl))/\fq x=x.drop (x.takeWhile (aH cl)).length)/\
  (fO (x.takeWhile (aH cl))=false->jG x=false\/∃c r,fq x=c::r/\aH cl c=true):=by
 obtain⟨r,h1,h2⟩:=rM (aH cl) x;constructor
 ·intro g;obtain⟨n,o,n1,p,q⟩:=(rG _).1 g;have h:=adV (n:=n) (r:=r) o n1 λc t e=>aa0 (h2 c t e)
  rw[<-p,<-h1]at h;refine⟨h.2.2,by rw[h.1,q],?_⟩;rw[h.2.1];have:x.drop (x.takeWhile (aH cl)).length=(x.takeWhile (aH cl)++r).drop (x.takeWhile (aH cl)).length:=by rw[<-h1]
  rw[this,List.drop_left]
 intro g;cases y:jG x
 ·exact .inl rfl
 right;obtain⟨i,b1,b2,A⟩:=QU y;cases j:fq x with
 |nil=>
  exfalso;rw[j]at b2;have:x.takeWhile (aH cl)=itoa (eg x):=by
   rw[b2];rw[<-b2];exact(congrArg (List.takeWhile (aH cl)) b2).trans (HU _ [] (Aq _ cl) (by simp))
  rw[this]at g;have:=(rG (itoa (eg x))).2 ⟨_,i,b1,rfl,Z7 i b1⟩;rw[this]at g;cases g
 |cons c t=>
  refine⟨c,t,rfl,?_⟩;cases z:aH cl c
  ·exfalso;rw[j]at b2;have:x.takeWhile (aH cl)=itoa (eg x):=(congrArg (List.takeWhile (aH cl)) b2).trans (HU _ _ (Aq _ cl) λd u e=>by cases e;exact z);rw[this]at g;have:=(rG (itoa (eg x))).2 ⟨_,i,b1,rfl,Z7 i b1⟩;rw[this]at g;cases g
  rfl
theorem ae4(s:Str)(p:Nat):s[p+((s.drop p).length-(fq (s.drop p)).length)]?=(fq (s.drop p))[0]?:=by
 obtain⟨q,e⟩:=ZG (s.drop p);have i:(s.drop p).length=q.length+(fq (s.drop p)).length:=by
  have:=congrArg List.length e;rwa [au]at this
 rw[show(s.drop p).length-(fq (s.drop p)).length=q.length by omega,<-ew];have g:(s.drop p)[q.length]?=(q++fq (s.drop p))[q.length]?:=congrArg (λl:Str=>l[q.length]?) e;rw[g,iZ (ay _),rm]
structure At(s:Str)(t:PS)(u:RS):Prop where
 ok:t.ok=true
 bad:u.bad=false
 pos:t.pos=u.pos
 le:u.pos<=s.length
 first:t.first=false
def m_(s:Str)(cl:Bool)(u:RS):Prop:=∃c,s[u.pos]?=some c/\aH cl c=true
structure jK(s:Str)(cl:Bool)(t:PS)(u:RS):Prop where
 ok:t.ok=false
 lt:t.pos<=s.length
 ru:u.pos<=s.length+1
 off:u.bad=true\/m_ s cl u
variable {u:RS}
theorem m_.ri(h:m_ s cl u):m_ s false u:=by
 obtain⟨c,h1,h2⟩:=h;refine⟨c,h1,?_⟩;unfold aH at h2 ⊢;simp only[aI]at h2;simp[h2.1]
theorem jK.ri{t:PS}(h:jK s cl t u):jK s false t u:=⟨h.ok,h.lt,h.ru,h.off.imp id m_.ri⟩
theorem jK.of{t:PS}(h1:t.ok=false)(h2:t.pos<=s.length)(e:u.pos<=s.length+1)(g:u.bad=true):jK s cl t u:=⟨h1,h2,e,.inl g⟩
theorem pc(h:u.bad=true\/m_ s false u):(ae s u).bad=true:=by
 unfold ae;rcases h with h|⟨c,h1,h2⟩
 ·split
  ·exact h
  rfl
 have e:c≠32:=by rintro rfl;simp[aH]at h2
 rw[h1];simp[e]
theorem wz{t:PS}(h:At s t u):At s (bq s t) (ae s u)\/((bq s t).ok=false/\(ae s u).bad=true):=by
 unfold bq ae aD aO;rw[h.first,h.ok,h.pos];by_cases e:s[u.pos]?=some 32
 ·have g:=(aL.1 e).1;left;simp only[e,g,decide_true,Bool.and_self,and_self,bt,dT,bH];exact⟨rfl,h.bad,rfl,by simp only;omega,rfl⟩
 right;simp[e]
structure fH{α:Type}(s:Str)(cl:Bool)(fV:PS->α)(fT:PS->PS)(gV:RS->α)(gT:RS->RS):Prop where
 go:∀t u,At s t u->(At s (fT t) (gT u)/\fV t=gV u)\/jK s cl (fT t) (gT u)
 off:∀t u,jK s false t u->jK s false (fT t) (gT u)
theorem lK(s:Str)(t:PS)(g:t.pos<=s.length):bV s t (bK s t):=by
 have h:=oS s t g;refine⟨h.le,h.lt,λe=>h.ok ?_⟩;unfold bK at e;simp only[aI]at e;exact e.1
theorem _root_.Go.St.bV.nok{t u:PS}(h:bV s t u)(e:t.ok=false):u.ok=false:=by
 cases hu:u.ok
 ·rfl
 rw[h.ok hu]at e;cases e
theorem cq.bb(h:cq s t u)(e:t.bad=true):u.bad=true:=by
 cases hu:u.bad
 ·rw[h.ok hu]at e;cases e
 rfl
theorem ac4{t:PS}(h:jK s cl t u):jK s false (bK s t) (bA s u):=by
 have e:=lK s t h.lt;have g:=jP s u h.ru;refine .of (e.nok h.ok) e.lt g.1.lt ?_;have i:=pc (h.off.imp id m_.ri);unfold bA ef;simp[i]
theorem NU(i:u.bad=false)(o:u.pos<=s.length):
  (fO ((s.drop u.pos).takeWhile (aH cl))=true/\(ef s u).bad=false/\eg (s.drop u.pos)=gw ((s.drop u.pos).takeWhile (aH cl))/\(ef s u).pos=u.pos+((s.drop u.pos).takeWhile (aH cl)).length/\u.pos+((s.drop u.pos).takeWhile (aH cl)).length<=s.length)\/
  (fO ((s.drop u.pos).takeWhile (aH cl))=false/\((ef s u).bad=true\/m_ s cl (ef s u))):=by
 have e:=abD cl (s.drop u.pos);have hw:=ln (aH cl) (s.drop u.pos);have p:(s.drop u.pos).length=s.length-u.pos:=bW;cases g:fO ((s.drop u.pos).takeWhile (aH cl))
 ·right;refine⟨rfl,?_⟩;rcases e.2 g with h|⟨c,r,h1,h2⟩
  ·left;unfold ef;rw[h];simp
  right;refine⟨c,?_,h2⟩;show s[u.pos+_]?=some c
  rw[ae4,h1];rfl
 left;obtain⟨h1,h2,j⟩:=e.1 g;refine⟨rfl,?_,h2,?_,by omega⟩
 ·unfold ef;rw[h1,i];rfl
 unfold ef;rw[j];simp only[bW];omega
theorem jA(s:Str):fH s false (dB s) (bK s) (dR s) (bA s):=by
 refine⟨λt u h=>?_,λt u h=>ac4 h⟩;have g:=lK s t (by rw[h.pos];exact h.le);have i:=jP s u (by have:=h.le;omega);rcases wz h with h1|⟨h1,h2⟩
 ·have e:b9 s t=(s.drop (ae s u).pos).takeWhile (aH false):=by unfold b9 bX;rw[h1.pos]
  rcases NU (cl:=false) h1.bad h1.le with⟨d1,d2,d3,d4,d5⟩|⟨d1,d2⟩
  ·left;rw[<-e]at d1 d3 d4 d5;refine⟨⟨?_,d2,?_,?_,?_⟩,?_⟩
   ·unfold bK bm dn;have:=N6 d1;simp only[h1.ok,d1,p5,Bool.and_true];unfold b9 at this;rw[this];rfl
   ·show(bm s t).pos=(ef s (ae s u)).pos
    rw[d4];show(bq s t).pos+(bX s false (bq s t)).length=_
    rw[h1.pos];rfl
   ·show(ef s (ae s u)).pos<=_
    rw[d4];exact d5
   ·show(bq s t).first=false
    exact h1.first
   unfold dB dR;rw[d3]
  right;rw[<-e]at d1;refine⟨?_,g.lt,i.1.lt,d2⟩;unfold bK;rw[d1];simp
 right;refine .of ?_ g.lt i.1.lt ?_
 ·unfold bK bm dn;rw[h1];simp
 unfold bA ef;rw[h2];simp
theorem RO:∀(n m:Nat) (out:Str) (t:PS) (u:RS),At s t u->s.length-u.pos<=n->s.length-u.pos<=m->
  (At s (pQL s n out t).2 (rQL s m out u).2/\(pQL s n out t).1=(rQL s m out u).1/\(s[(rQL s m out u).2.pos]?=some 34\/s[(rQL s m out u).2.pos]?=none))\/((pQL s n out t).2.ok=false/\(rQL s m out u).2.bad=true)
 |n,m,out,t,u,h,B,hm=>by
  have o:aO s t=decide (u.pos<s.length):=by unfold aO;rw[h.ok,h.pos];simp
  by_cases g:u.pos<s.length
  ·obtain⟨c,j⟩:∃c,s[u.pos]?=some c:=⟨s[u.pos],bF g⟩;obtain⟨n,rfl⟩:∃k,n=k+1:=⟨n-1,by omega⟩;obtain⟨m,rfl⟩:∃k,m=k+1:=⟨m-1,by omega⟩;unfold pQL rQL;rw[o,h.pos,j];simp only[g,decide_true,bt];by_cases i:c=34
   ·simp only[i,bt];exact .inl ⟨h,trivial,.inl (by rw[j,i])⟩
   simp only[i,bH];have q:=AN s c t (by rw[h.pos];exact j);have A:=Lj s c u j;have key:(At s (pQ1 s c t).2 (rQ1 s c u).2/\(pQ1 s c t).1=(rQ1 s c u).1/\u.pos<(rQ1 s c u).2.pos)\/((pQ1 s c t).2.ok=false/\(rQ1 s c u).2.bad=true):=by
    unfold pQ1 rQ1;by_cases p:c=92
    ·simp only[p,bt];unfold lj fb aO;rw[h.ok,h.pos];cases x:s[u.pos+1]? with
     |none=>
      right;have:¬u.pos+1<s.length:=by rw[jO]at x;omega
      simp[this]
     |some d=>
      have r:=(aL.1 x).1;simp only[r,decide_true,Bool.and_self,bt];cases he:jI d
      ·right;simp
      left;refine⟨⟨rfl,by simp[h.bad],rfl,by show u.pos+2<=_;omega,h.first⟩,?_,by show u.pos<u.pos+2;omega⟩;unfold jI at he;unfold oE;simp only[iY,fR]at he;rcases he with(rfl|rfl)|rfl<;>rfl
    simp only[p,bH];left;exact⟨⟨h.ok,h.bad,by simp[h.pos],by simp only;omega,h.first⟩,trivial,by simp⟩
   rcases key with⟨k1,k2,J⟩|⟨k1,k2⟩
   ·rw[k2];exact RO n m _ _ _ k1 (by omega) (by omega)
   right;refine⟨?_,?_⟩
   ·exact(AM s n _ _ q.lt).nok k1
   have:=xH s c u j;exact((J4 s m _ _ this.1).1).bb k2
  have e:s[u.pos]?=none:=by rw[jO];omega
  have y:pQL s n out t=(out,t):=by
   cases n with
   |zero=>rfl
   |succ n=>unfold pQL;rw[o];simp[g]
  have z:rQL s m out u=(out,u):=by
   cases m with
   |zero=>rfl
   |succ m=>unfold rQL;rw[e]
  rw[y,z];exact .inl ⟨h,rfl,.inr e⟩
 termination_by n=>n
theorem T?{t:PS}(h:t.ok=false)(e:t.pos<=s.length):(fk s t).ok=false:=(JU s t e).1.nok h
theorem Me{t:PS}(h:At s t u):(At s (fk s t) (iQ s u)/\ku s t=mD s u)\/((fk s t).ok=false/\(iQ s u).bad=true):=by
 by_cases e:s[u.pos]?=some 34
 ·have j:=(aL.1 e).1;have r:aD s 34 t=⟨t.pos+1,t.first,t.ok⟩:=by
   unfold aD aO;rw[h.ok,h.pos,e];simp[j]
  have h1:At s (aD s 34 t) ⟨u.pos+1,u.bad⟩:=by
   rw[r];exact⟨h.ok,h.bad,by simp[h.pos],by simp only;omega,h.first⟩
  have p:=RO s.length s.length [] _ _ h1 (by omega) (by omega);unfold iQ mD fk ku je;rw[Z e,Z e];generalize pQL s s.length [] (aD s 34 t)=A at*;generalize rQL s s.length [] ⟨u.pos+1,u.bad⟩=B at*;obtain⟨o1,t1⟩:=A;obtain⟨o2,q⟩:=B;simp only at p ⊢;rcases p with⟨q1,rfl,q3⟩|⟨q1,q2⟩
  ·rcases q3 with q3|q3
   ·have i:=(aL.1 q3).1;have g:aD s 34 t1=⟨t1.pos+1,t1.first,t1.ok⟩:=by
     unfold aD aO;rw[q1.ok,q1.pos,q3];simp[i]
    have x:decide (s.length<=q.pos)=false:=by simp;omega
    rw[g,q1.ok,q1.bad,x];simp only[Bool.or_self,p5,Bool.false_or];cases z:Lib.validD o1
    ·right;simp
    left;exact⟨⟨rfl,rfl,by simp[q1.pos],by simp only;omega,q1.first⟩,trivial⟩
   have o:s.length<=q.pos:=by rw[jO]at q3;omega
   right;have g:(aD s 34 t1).ok=false:=by
    unfold aD aO;rw[q1.pos,q3];simp
   rw[g];simp[o]
  right;have g:(aD s 34 t1).ok=false:=by
   unfold aD aO;rw[q1];simp
  rw[g,q2];simp
 right;constructor
 ·have:(aD s 34 t).ok=false:=by
   unfold aD aO;rw[h.pos];simp[e]
  have y:=nH s 34 t (by rw[h.pos];exact h.le);unfold fk je;have h2:=(AM s s.length [] _ y.1.lt).nok this;generalize pQL s s.length [] (aD s 34 t)=B at*;have:(aD s 34 B.2).ok=false:=by
   unfold aD aO;rw[h2];simp
  rw[this];rfl
 unfold iQ;rw[O e]
theorem tY(s:Str)(t:PS)(e:t.pos<=s.length):bV s t (fY s t):=(mw s t e).trans (JU s _ (mw s t e).lt).1
theorem Kg(s:Str)(cl:Bool):fH s cl (iv s) (fY s) (jT s) (jF s):=by
 refine⟨λt u h=>?_,λt u h=>?_⟩
 ·have e:=tY s t (by rw[h.pos];exact h.le);have g:=tZ s u (by have:=h.le;omega);have hs:=mw s t (by rw[h.pos];exact h.le);have i:=gu s u (by have:=h.le;omega);rcases wz h with h1|⟨h1,h2⟩
  ·rcases Me h1 with j|⟨j,o⟩
   ·exact .inl j
   exact .inr (.of j e.lt g.lt o)
  exact .inr (.of (T? h1 hs.lt) e.lt g.lt ((zX s _ i.lt).1.bb h2))
 have e:=tY s t h.lt;have g:=tZ s u h.ru;have i:=gu s u h.ru;exact .of (e.nok h.ok) e.lt g.lt ((zX s _ i.lt).1.bb (pc h.off))
open Go.Lib (itoa decDigits)
mutual
def dep:Val->Nat
 |.mk k _ _ l=>if k=4 then 1+jY l else 0
def jY:List Val->Nat
 |[]=>0
 |v::l=>max (dep v) (jY l)
end
theorem KC(a:List Val)(v:Val):jY (a++[v])=max (jY a) (dep v):=by
 induction a with
 |nil=>simp[jY]
 |cons x a e=>simp[jY,e,Nat.max_assoc]
def VSm(s:Str)(k:Nat)(v:Val)(t:PS)(w:Val)(u:RS):Prop:=
 (At s t u/\v=w/\dep v<=k)\/(t.ok=false/\(u.bad=true\/m_ s true u))\/(t.ok=true/\u.bad=true/\k<dep v)
def ISm(s:Str)(k:Nat)(e:List Val)(t:PS)(g:List Val)(u:RS):Prop:=
 (At s (aD s 93 t) u/\e=g/\jY e<=k)\/((aD s 93 t).ok=false/\u.bad=true)\/((aD s 93 t).ok=true/\u.bad=true/\k<jY e)
theorem uZ(s:Str)(b:UInt8)(u:RS):cP s [b] u=true↔s[u.pos]?=some b:=by
 unfold cP;constructor
 ·intro h;simp only[aI,ck,fR,dP]at h;have h2:=congrArg (λl:Str=>l[0]?) h.2;simp only[gN,ew]at h2;simpa using h2
 intro h;have e:=(aL.1 h).1;simp only[aI,ck,fR,dP];refine⟨by omega,?_⟩;rw[ig e];have:=(aL.1 h).2;simp[this]
theorem Qp(h:cP s w u=true):∃r,s.drop u.pos=w++r/\u.pos+w.length<=s.length:=by
 unfold cP at h;simp only[aI,ck,fR]at h;refine⟨(s.drop u.pos).drop w.length,?_,h.1⟩;conv=>lhs;rw[<-pV w.length (s.drop u.pos)]
 rw[h.2]
theorem Oy{r:Str}(h:s.drop u.pos=w++r)(g:u.pos<=s.length):cP s w u=true:=by
 unfold cP;have e:=congrArg List.length h;rw[bW,au]at e;simp only[aI,ck,fR];refine⟨by omega,?_⟩;rw[h,tV];rfl
variable {b:UInt8}
theorem Ri(h:cP s (b::w) u=true):s[u.pos]?=some b:=by
 obtain⟨r,h1,_⟩:=Qp h;have:=congrArg (λl:Str=>l[0]?) h1;simpa[ew]using this
theorem ZO(s:Str)(V:PS->Val×PS):∀(n:Nat) (acc:List Val) (t:PS),jY acc<=jY (f_ s V n acc t).1
 |0,acc,t=>ay _
 |n+1,acc,t=>by
  unfold f_;split
  ·refine bf ?_ (ZO s V n _ _);rw[KC];omega
  exact ay _
theorem NZ{t:PS}(h:t.ok=false):(aD s b t).ok=false:=by
 unfold aD aO;rw[h];simp
variable {VP:PS->Val×PS}{VR:RS->Val×RS}
theorem i?(hV:∀t u,At s t u->VSm s k (VP t).1 (VP t).2 (VR u).1 (VR u).2)(J:xq s VP)(i:wM s VR):
  ∀(n m:Nat) (acc:List Val) (t:PS) (u:RS),At s t u->s.length-u.pos+1<=n->s.length-u.pos+2<=m->jY acc<=k->ISm s k (f_ s VP n acc t).1 (f_ s VP n acc t).2 (iu s VR m acc u).1 (iu s VR m acc u).2
 |n,m,acc,t,u,h,hn,hm,hd=>by
  obtain⟨n,rfl⟩:∃x,n=x+1:=⟨n-1,by omega⟩;obtain⟨m,rfl⟩:∃x,m=x+1:=⟨m-1,by omega⟩;have y:aO s t=decide (u.pos<s.length):=by unfold aO;rw[h.ok,h.pos];simp
  have z:t.pos<=s.length:=by rw[h.pos];exact h.le
  have j:u.pos<=s.length+1:=by have:=h.le;omega
  have A:bq s t=aD s 32 t:=by unfold bq;rw[h.first];rfl
  unfold f_ iu;rw[y,h.bad,h.pos];simp only[dT,bH];by_cases g:s[u.pos]?=some 93
  ·have N:=(uZ s 93 u).2 g;have o:=(aL.1 g).1;rw[Z N,O (by simp[g])];left;have e:aD s 93 t=⟨t.pos+1,t.first,t.ok⟩:=by
    unfold aD;rw[y,h.pos,g];simp[o]
   have S:bE s [93] u=⟨u.pos+1,u.bad⟩:=by unfold bE;rw[Z N];rfl
   simp only;rw[e,S];exact⟨⟨h.ok,h.bad,by simp[h.pos],by simp only;omega,h.first⟩,trivial,hd⟩
  have N:¬cP s [93] u=true:=λe=>g ((uZ s 93 u).1 e)
  rw[O N];by_cases o:u.pos<s.length
  ·rw[Z ⟨by simp[o],g⟩];have h1:(At s (if acc=[]then t else aD s 32 t) (if acc=[]then u else ae s u)\/((if acc=[]then t else aD s 32 t).ok=false/\(if acc=[]then u else ae s u).bad=true))/\bV s t (if acc=[]then t else aD s 32 t)/\cq s u (if acc=[]then u else ae s u):=by
    by_cases r:acc=[]
    ·rw[Z r,Z r];exact⟨.inl h,.refl z,.refl j⟩
    rw[O r,O r,<-A];exact⟨wz h,mw s t z,gu s u j⟩
   generalize(if acc=[]then t else aD s 32 t)=t1 at*;generalize(if acc=[]then u else ae s u)=K at*;obtain⟨h1,kP,W⟩:=h1;have p:=J t1 kP.lt;have M:=i K W.lt;rcases h1 with h1|⟨h1,h2⟩
   ·rcases hV t1 K h1 with⟨g1,g2,g3⟩|⟨g1,g2⟩|⟨g1,g2,g3⟩
    ·rw[g2];have:=p.2 g1.ok;have e1:=h1.pos;have S:=g1.pos;have e3:=g1.le;have e4:=W.le;refine i? hV J i n m _ _ _ g1 (by omega) (by omega) ?_;rw[KC,<-g2];omega
    ·right;left;refine⟨NZ ((zY J n _ _ p.1.lt).nok g1),?_⟩;rcases g2 with g2|g2
     ·exact(rr i m _ _ M.1.lt).bb g2
     obtain⟨m,rfl⟩:∃x,m=x+1:=⟨m-1,by omega⟩;have T:(ae s (VR K).2).bad=true:=pc (.inr g2.ri);have U:=gu s _ M.1.lt;unfold iu;split
     ·assumption
     rw[O (λe=>by
      obtain⟨c,q1,q2⟩:=g2;rw[(uZ s 93 _).1 e]at q1;cases q1;simp[aH]at q2)]
     rw[O (by simp)];have h3:=i _ U.lt;exact(rr i m _ _ h3.1.lt).bb (h3.1.bb T)
    right;have q:(iu s VR m (acc++[(VR K).1]) (VR K).2).2.bad=true:=(rr i m _ _ M.1.lt).bb g2;have V:=ZO s VP n (acc++[(VP t1).1]) (VP t1).2;rw[KC]at V;cases ad:(aD s 93 (f_ s VP n (acc++[(VP t1).1]) (VP t1).2).2).ok
    ·exact .inl ⟨rfl,q⟩
    exact .inr ⟨rfl,q,by omega⟩
   right;left;refine⟨NZ ((zY J n _ _ p.1.lt).nok (p.1.nok h1)),(rr i m _ _ M.1.lt).bb (M.1.bb h2)⟩
  rw[O (by simp[o])];right;left;have B:s[u.pos]?=none:=by rw[jO];omega
  refine⟨by unfold aD;rw[y];simp[o],?_⟩;have h1:(VR (if acc=[]then u else ae s u)).2.bad=true/\(VR (if acc=[]then u else ae s u)).2.pos<=s.length+1:=by
   by_cases r:acc=[]
   ·rw[Z r];refine⟨?_,(i u j).1.lt⟩;have p:=J t z;have e1:=h.pos;have S:=p.1.lt;rcases hV t u h with⟨g1,_⟩|⟨_,g2|⟨c,q1,_⟩⟩|⟨g1,_⟩
    ·have:=p.2 g1.ok;omega
    ·exact g2
    ·have:=(i u j).1.le;have:=(aL.1 q1).1;omega
    have:=p.2 g1;omega
   rw[O r];have T:(ae s u).bad=true:=by unfold ae;rw[B];simp
   have hk:=i _ (gu s u j).lt;exact⟨hk.1.bb T,hk.1.lt⟩
  exact(rr i m _ _ h1.2).bb h1.1
 termination_by n=>n
theorem ae8{p:UInt8->Bool}(a r:Str)(e:∀c∈a,p c=true):(a++r).takeWhile p=a++r.takeWhile p:=by
 induction a with
 |nil=>rfl
 |cons c a g=>
  have:=g λd i=>e d (by simp[i])
  simp[e c (by simp),this]
theorem UY{c:UInt8}(g:fv c=false)(e:c≠45):fO (c::w)=false:=by
 cases h:fO (c::w)
 ·rfl
 exfalso;obtain⟨n,_,_,h2,_⟩:=(rG _).1 h;unfold Lib.itoa at h2;split at h2
 ·simp at h2;exact e h2.1
 have:=rZ n.toNat c (by rw[<-h2];simp);rw[this]at g;cases g
theorem Li{t:PS}(h:At s t u)(o:∀c∈(b::w),aH true c=true)(i:cP s (b::w) u=true):
  (bX s true t=b::w/\At s (dn s true t) (bE s (b::w) u))\/(bX s true t≠b::w/\(∃r,bX s true t=(b::w)++r)/\m_ s true (bE s (b::w) u)):=by
 obtain⟨r,h1,h2⟩:=Qp i;have e:bX s true t=(b::w)++r.takeWhile (aH true):=by
  unfold bX;rw[h.pos,h1];exact ae8 _ _ o
 have j:bE s (b::w) u=⟨u.pos+(b::w).length,u.bad⟩:=by unfold bE;rw[Z i]
 cases g:r.takeWhile (aH true)with
 |nil=>
  left;rw[g,bO]at e;refine⟨e,?_⟩;rw[j];unfold dn;rw[e,h.ok];exact⟨rfl,h.bad,by simp[h.pos],h2,h.first⟩
 |cons c q=>
  right;rw[g]at e;refine⟨?_,⟨_,e⟩,?_⟩
  ·rw[e];intro he;have:=congrArg List.length he;simp at this
  rw[j];cases r with
  |nil=>simp at g
  |cons d p=>
   have x:aH true d=true:=by
    cases y:aH true d
    ·rw[vB (by simp[y])]at g;cases g
    rfl
   refine⟨d,?_,x⟩;have this:(s.drop u.pos)[(b::w).length]?=((b::w)++d::p)[(b::w).length]?:=congrArg (λl:Str=>l[(b::w).length]?) h1;rw[ew,iZ (ay _),rm]at this;exact this
variable {L:RS->Val×RS}
theorem Mo(V:∀t u,At s t u->s[u.pos]?=some 91->VSm s k (mE s VP t) (iO s VP t) (L (bE s [91] u)).1 (L (bE s [91] u)).2){t:PS}(h:At s t u):
  VSm s k (if aO s t=true then(if s[t.pos]?=some 34 then((.mk 3 0 (ku s t) []:Val),fk s t)else if s[t.pos]?=some 91 then(mE s VP t,iO s VP t)else(lP s t,jD s t))else(Val.zero,⟨t.pos,t.first,false⟩)).1
   (if aO s t=true then(if s[t.pos]?=some 34 then((.mk 3 0 (ku s t) []:Val),fk s t)else if s[t.pos]?=some 91 then(mE s VP t,iO s VP t)else(lP s t,jD s t))else(Val.zero,⟨t.pos,t.first,false⟩)).2 (mN s L u).1 (mN s L u).2:=by
 have K:aO s t=decide (u.pos<s.length):=by unfold aO;rw[h.ok,h.pos];simp
 unfold mN;rw[K,h.bad,h.pos];simp only[dT,bH];have j:∀ {b c:UInt8} {w:Str},s[u.pos]?=some c->c≠b->¬cP s (b::w) u=true:=λi M e=>by
  have:=Ri e;rw[i]at this;cases this;exact M rfl
 cases i:s[u.pos]? with
 |none=>
  have N:s.length<=u.pos:=by rw[jO]at i;omega
  have J:∀ {b:UInt8} {w:Str},¬cP s (b::w) u=true:=λe=>by have:=Ri e;rw[i]at this;cases this
  rw[O (by simp;omega),O (show ¬cP s eI u=true from J),O (show ¬cP s ed u=true from J),O (by simp),O (show ¬cP s [91] u=true from J)];right;left;refine⟨rfl,.inl ?_⟩;have e:s.drop u.pos=[]:=gp N;unfold ef jG;rw[e];simp[fq,fw,eZ]
 |some c=>
  have S:=(aL.1 i).1;rw[Z (by simp[S])];by_cases x:c=34
  ·subst x;rw[Z rfl,O (show ¬cP s eI u=true from j i (by decide)),O (show ¬cP s ed u=true from j i (by decide)),Z rfl];rcases Me h with⟨q1,q2⟩|⟨q1,q2⟩
   ·exact .inl ⟨q1,by rw[q2],by simp[dep]⟩
   exact .inr (.inl ⟨q1,.inl q2⟩)
  by_cases p:c=91
  ·subst p;rw[O (by simp),Z rfl,O (show ¬cP s eI u=true from j i (by decide)),O (show ¬cP s ed u=true from j i (by decide)),O (by simp),Z ((uZ s 91 u).2 i)];exact V t u h i
  have y:¬some c=some 34:=by simpa using x
  have T:¬some c=some 91:=by simpa using p
  have U:¬cP s [91] u=true:=j i p;rw[O y,O T];have z:bX s true t=(s.drop u.pos).takeWhile (aH true):=by unfold bX;rw[h.pos]
  by_cases A:cP s eI u=true
  ·rw[Z A];rcases Li (b:=116) h (by decide) A with⟨q1,q2⟩|⟨q1,⟨r,q2⟩,q3⟩
   ·left;have g:bX s true t=eI:=q1;refine⟨?_,?_,by simp[lP,g,dep]⟩
    ·unfold jD;rw[Z g];exact q2
    unfold lP;rw[Z g]
   right;left;have g:¬bX s true t=eI:=q1;have W:¬bX s true t=ed:=by rw[q2];intro e;simp[ed]at e
   refine⟨?_,.inr q3⟩;unfold jD;rw[O g,O W,q2];rw[show((116:UInt8)::[114,117,101])++r=116::([114,117,101]++r)from rfl,UY (by decide) (by decide)];simp
  rw[O A];have o:¬bX s true t=eI:=λe=>A (by
   obtain⟨r,q1,_⟩:=rM (aH true) (s.drop u.pos);rw[<-z,e]at q1;exact Oy q1 h.le)
  by_cases B:cP s ed u=true
  ·rw[Z B];rcases Li (b:=102) h (by decide) B with⟨q1,q2⟩|⟨q1,⟨r,q2⟩,q3⟩
   ·left;have g:bX s true t=ed:=q1;refine⟨?_,?_,by simp[lP,g,ed,eI,dep]⟩
    ·unfold jD;rw[O o,Z g];exact q2
    unfold lP;rw[O o,Z g]
   right;left;have g:¬bX s true t=ed:=q1;refine⟨?_,.inr q3⟩;unfold jD;rw[O o,O g,q2];rw[show((102:UInt8)::[97,108,115,101])++r=102::([97,108,115,101]++r)from rfl,UY (by decide) (by decide)];simp
  rw[O B,O y,O U];have q:¬bX s true t=ed:=λe=>B (by
   obtain⟨r,q1,_⟩:=rM (aH true) (s.drop u.pos);rw[<-z,e]at q1;exact Oy q1 h.le)
  rcases NU (cl:=true) h.bad h.le with⟨d1,d2,d3,d4,d5⟩|⟨d1,d2⟩
  ·rw[<-z]at d1 d3 d4 d5;left;refine⟨⟨?_,d2,?_,by rw[d4];exact d5,?_⟩,?_,?_⟩
   ·unfold jD;rw[O o,O q];unfold dn;simp[h.ok,N6 d1,d1]
   ·unfold jD;rw[O o,O q,d4];show t.pos+_=_
    rw[h.pos]
   ·unfold jD;rw[O o,O q];exact h.first
   ·unfold lP;rw[O o,O q,d3]
   unfold lP;rw[O o,O q];simp[dep]
  right;left;rw[<-z]at d1;refine⟨?_,d2⟩;unfold jD;rw[O o,O q,d1];simp
theorem Oj(s:Str):∀(k:Nat) (t:PS) (u:RS),At s t u->VSm s k (fe s (k+1) t).1 (fe s (k+1) t).2 (dF s k u).1 (dF s k u).2
 |0,t,u,h=>by
  have h2:=Mo (k:=0) (VP:=fe s 0) (L:=λt=>(.mk 4 0 [] [],⟨t.pos,true⟩)) (λt u h g=>by
   cases j:(iO s (fe s 0) t).ok
   ·exact .inr (.inl ⟨j,.inl rfl⟩)
   exact .inr (.inr ⟨j,rfl,by simp[mE,dep];omega⟩)) h
  exact h2
 |k+1,t,u,h=>by
  have h2:=Mo (k:=k+1) (VP:=fe s (k+1)) (L:=λt=>(.mk 4 0 [] (mM s (dF s k) t).1,(mM s (dF s k) t).2)) (λt u h g=>by
   have i:=(aL.1 g).1;have e:aD s 91 t=⟨t.pos+1,t.first,t.ok⟩:=by
    unfold aD aO;rw[h.ok,h.pos,g];simp[i]
   have o:bE s [91] u=⟨u.pos+1,u.bad⟩:=by unfold bE;rw[Z ((uZ s 91 u).2 g)];rfl
   have p:At s (aD s 91 t) (bE s [91] u):=by
    rw[e,o];exact⟨h.ok,h.bad,by simp[h.pos],by simp only;omega,h.first⟩
   have hi:=i? (Oj s k) (ui s (k+1)) (oV s k) (s.length+2) (s.length+3) [] _ _ p (by omega) (by omega) (by simp[jY]);unfold mE iO n5 mM;rcases hi with⟨i1,i2,i3⟩|⟨i1,i2⟩|⟨i1,i2,i3⟩
   ·exact .inl ⟨i1,by rw[i2],by simp only[dep,bt];omega⟩
   ·exact .inr (.inl ⟨i1,.inl i2⟩)
   exact .inr (.inr ⟨i1,i2,by simp only[dep,bt];omega⟩)) h
  exact h2
open Go.Eng Go.St
theorem U?(k n:Int)(s:Str)(l:List Val):iJ k n s l = !(nU k n s l):=by
 unfold iJ nU;by_cases k1:k=1
 ·subst k1;by_cases hs:s=[]<;>by_cases e:l.length=0<;>simp[hs,e]<;>omega
 by_cases k2:k=2
 ·subst k2;by_cases hs:s=[]<;>by_cases e:l.length=0<;>simp[hs,e]<;>omega
 by_cases i:k=3
 ·subst i;by_cases g:n=0<;>by_cases e:l.length=0<;>simp[g,e]<;>omega
 by_cases k4:k=4
 ·subst k4;by_cases g:n=0<;>by_cases hs:s=[]<;>simp[g,hs]
 rw[ifn,O i,O k4];have:k<1\/4<k:=by omega
 rcases this with h|h<;>simp[h]
theorem abf(k n:Int):kZ k n=qG k n:=by
 unfold kZ qG;have e:(!(decide (-1099511627776<=n)&&decide (n<=1099511627776)))=(decide (n < -1099511627776)||decide (1099511627776<n)):=by
  by_cases a : -1099511627776<=n<;>by_cases b:n<=1099511627776<;>simp[a,b]<;>omega
 rw[e]
def TyM(ts:List Ty)(o:Option Ty×Bool):Prop:=
 match ts with
 |[]=>o=(none,true)
 |t::l=>match jJ l t with
  |some x=>o=(some x,true)
  |none=>o.2=false
theorem L9:∀(l:List Ty) (t x:Ty),jJ (l++[x]) t=match jJ l t with|some y=>cF y x|none=>none
 |[],t,x=>by
  simp only[cD,jJ];cases cF t x<;>rfl
 |u::l,t,x=>by
  simp only[cp,jJ];cases cF t u with
  |none=>rfl
  |some v=>exact L9 l v x
variable {ts:List Ty}
theorem adU{o:Option Ty×Bool}(h:TyM ts o)(t:Ty):TyM (ts++[t]) (if o.2=false then o else mZ o.1 t):=by
 cases ts with
 |nil=>
  have h':o=(none,true):=h;subst h';rfl
 |cons t0 l=>
  unfold TyM at h ⊢;simp only[cp]at h ⊢;rw[L9];cases e:jJ l t0 with
  |none=>
   rw[e]at h;have h':o.2=false:=h;rw[Z h'];exact h'
  |some x=>
   rw[e]at h;have h':o=(some x,true):=h;subst h';simp only[vP,bH];unfold mZ;simp only;cases g:cF x t with
   |none=>simp
   |some y=>simp
mutual
theorem Kv:∀(v:Val) (d m:Int),((chk d v m).1=0/\(bM (d+1) v m).1=0/\(chk d v m).2=(bM (d+1) v m).2)\/((chk d v m).1≠0/\(bM (d+1) v m).1≠0)
 |.mk k n s l,d,m=>by
  unfold Go.St.chk bM;by_cases h1:k=4/\16<=d
  ·rw[Z h1,Z ⟨h1.1,by omega⟩];right;simp
  rw[O h1,O (show ¬(k=4/\16<d+1)from λe=>h1 ⟨e.1,by omega⟩),U?,abf];cases h2:nU k n s l;case true=>right;simp
  cases h3:qG k n;case true=>right;simp
  simp only[Bool.not_false,vP,dT,bH];by_cases h4:2000<s.length\/100<l.length\/1000<m+1
  ·rw[Z h4,Z h4];right;simp
  rw[O h4,O h4];cases h5:Lib.validD s
  ·right;simp
  simp only[vP,bH];by_cases h6:k=4
  ·subst h6;simp only[ne_eq,zN,bH];rcases L4 l (d+1) (m+1) [] (none,true) rfl with⟨q1,q2,q3,q4⟩|⟨q1,q2⟩
   ·unfold mh;rw[O (by simp[q1]),O (by simp[q2]),q4];generalize(ea (d+1) l (m+1) []).2.1=ts at*;generalize(eM (d+1+1) l (m+1) (none,true)).2.1=o at*;cases ts with
    |nil=>
     have q3':o=(none,true):=q3;subst q3';left;exact⟨rfl,by simp,by simp[nT]⟩
    |cons t0 l0=>
     unfold TyM at q3;simp only at q3;unfold nT;cases hj:jJ l0 t0 with
     |none=>
      rw[hj]at q3;have q3':o.2=false:=q3;rw[Z q3'];right;simp[hj]
     |some x=>
      rw[hj]at q3;have q3':o=(some x,true):=q3;subst q3';left;simp[hj]
   right;unfold mh;rw[Z q1,Z q2];exact⟨q1,q2⟩
  have hl:l=[]:=by
   unfold nU at h2;simp only[kh]at h2;have:=h2.2;simp only[pW,jx]at this;rcases this with h|h
   ·cases l with
    |nil=>rfl
    |cons a b=>simp at h
   exact absurd h6 h
  subst hl;left;simp[h6,eM,mh]
theorem L4:∀(l:List Val) (d m:Int) (ts:List Ty) (o:Option Ty×Bool),TyM ts o->
  ((ea d l m ts).1=0/\(eM (d+1) l m o).1=0/\TyM (ea d l m ts).2.1 (eM (d+1) l m o).2.1/\(ea d l m ts).2.2=(eM (d+1) l m o).2.2)\/((ea d l m ts).1≠0/\(eM (d+1) l m o).1≠0)
 |[],d,m,ts,o,h=>.inl ⟨rfl,rfl,h,rfl⟩
 |v::l,d,m,ts,o,h=>by
  unfold ea eM;rcases Kv v d m with⟨q1,q2,q3⟩|⟨q1,q2⟩
  ·rw[O (by simp[q1]),O (by simp[q2]),q3];have:=adU h (bM (d+1) v m).2.1;have e:(if o.2=false then eM (d+1) l (bM (d+1) v m).2.2 o else eM (d+1) l (bM (d+1) v m).2.2 (mZ o.1 (bM (d+1) v m).2.1))=eM (d+1) l (bM (d+1) v m).2.2 (if o.2=false then o else mZ o.1 (bM (d+1) v m).2.1):=by
    split<;>rfl
   rw[e];exact L4 l d _ _ _ this
  rw[Z q1,Z q2];exact .inr ⟨q1,q2⟩
end
mutual
theorem QR:∀(v:Val) (d m:Int),(chk d v m).1=0->dep v=0\/d+dep v<=16
 |.mk k n s l,d,m,h=>by
  unfold Go.St.chk at h;by_cases h6:k=4
  ·subst h6;right;by_cases h1:16<=d
   ·rw[Z ⟨rfl,h1⟩]at h;simp at h
   rw[O (λe=>h1 e.2)]at h;have hL:(ea (d+1) l (m+1) []).1=0:=by
    split at h
    ·simp at h
    split at h
    ·simp at h
    split at h
    ·simp at h
    split at h
    ·simp at h
    simp only[ne_eq,zN,bH]at h;split at h
    ·simpa using h
    rename_i hh;simpa using hh
   have:=Nx l (d+1) (m+1) [] hL;simp only[dep,bt];rcases this with h|h<;>omega
  left;simp[dep,h6]
theorem Nx:∀(l:List Val) (d m:Int) (ts:List Ty),(ea d l m ts).1=0->jY l=0\/d+jY l<=16
 |[],d,m,ts,h=>.inl rfl
 |v::l,d,m,ts,h=>by
  unfold ea at h;by_cases h1:(chk d v m).1=0
  ·rw[O (by simp[h1])]at h;have q1:=QR v d m h1;have q2:=Nx l d _ _ h;simp only[jY];rcases q1 with q1|q1<;>rcases q2 with q2|q2<;>omega
  rw[Z h1]at h;exact absurd h h1
end
theorem wi(v:Val):gE v=0↔(bM 1 v 0).1=0:=by
 have:=Kv v 0 0;rw[show(0:Int)+1=1 from rfl]at this;unfold gE;rcases this with⟨h1,h2,_⟩|⟨h1,h2⟩
 ·rw[h1,h2]
 exact⟨λh=>absurd h h1,λh=>absurd h h2⟩
theorem aaL(h:16<dep v):gE v≠0:=λe=>by
 have:=QR v 0 0 e;omega
def dX(s:Str)(t:RS):RS:=bL (dF s 16 (ae s t)).2 (decide ((bM 1 (dF s 16 (ae s t)).1 0).1≠0))
def fM(s:Str):Nat->List Val->RS->List Val×RS
 |0,acc,t=>(acc,t)
 |n+1,acc,t=>if t.bad=true then(acc,t)else if s.length<=t.pos then(acc,t)else fM s n (acc++[(dF s 16 (ae s t)).1]) (dX s t)
def s8(s:Str)(t:RS):List Val×RS:=fM s (s.length+3) [] t
theorem uc(s:Str)(t:RS)(e:t.pos<=s.length+1):cq s t (dX s t)/\((dX s t).bad=false->t.pos<(dX s t).pos):=by
 have h1:=gu s t e;have h2:=oV s 16 _ h1.lt;refine⟨⟨bf h1.le h2.1.le,h2.1.lt,λh=>?_⟩,λh=>?_⟩
 ·unfold dX bL at h;simp only[kh]at h;exact h1.ok (h2.1.ok h.1)
 unfold dX bL at h;simp only[kh]at h;exact vN h1.le (h2.2 h.1)
theorem rA(s:Str):∀(n:Nat) (acc:List Val) (t:RS),t.pos<=s.length+1->cq s t (fM s n acc t).2
 |0,acc,t,e=>cq.refl e
 |n+1,acc,t,e=>by
  unfold fM;split
  ·exact cq.refl e
  split
  ·exact cq.refl e
  exact(uc s t e).1.trans (rA s n _ _ (uc s t e).1.lt)
theorem My(s:Str):∀(n m:Nat) (acc:List Val) (t:PS) (u:RS),At s t u->s.length-u.pos+1<=n->s.length-u.pos+2<=m->
  (At s (g_ s n acc t).2 (fM s m acc u).2/\(g_ s n acc t).1=(fM s m acc u).1)\/((g_ s n acc t).2.ok=false/\(fM s m acc u).2.bad=true)
 |n,m,acc,t,u,h,V,hm=>by
  obtain⟨n,rfl⟩:∃x,n=x+1:=⟨n-1,by omega⟩;obtain⟨m,rfl⟩:∃x,m=x+1:=⟨m-1,by omega⟩;have B:aO s t=decide (u.pos<s.length):=by unfold aO;rw[h.ok,h.pos];simp
  have g:t.pos<=s.length:=by rw[h.pos];exact h.le
  have i:u.pos<=s.length+1:=by have:=h.le;omega
  unfold g_ fM;rw[B,h.bad];simp only[dT,bH];by_cases j:u.pos<s.length
  ·rw[Z (by simp[j]),ifn];have r:=Af s t g;have y:=uc s u i;have off:(gf s t).ok=false->(dX s u).bad=true->((g_ s n (acc++[mf s (bq s t)]) (gf s t)).2.ok=false/\(fM s m (acc++[(dF s 16 (ae s u)).1]) (dX s u)).2.bad=true):=λa b=>
    ⟨(wa s n _ _ r.1.lt).nok a,(rA s m _ _ y.1.lt).bb b⟩
   rcases wz h with h1|⟨h1,h2⟩
   ·have T:=Oj s 16 _ _ h1;have J:VSm s 16 (mf s (bq s t)) (lr s (bq s t)) (dF s 16 (ae s u)).1 (dF s 16 (ae s u)).2:=T;rcases J with⟨g1,g2,g3⟩|⟨g1,g2⟩|⟨g1,g2,g3⟩
    ·by_cases p:gE (mf s (bq s t))=0
     ·have K:=(wi _).1 p;have q:At s (gf s t) (dX s u):=by
       unfold gf dX bL;rw[<-g2,p,K];exact⟨by simp[g1.ok],by simp[g1.bad],g1.pos,g1.le,g1.first⟩
      have:=r.2 q.ok;have W:=h.pos;have e2:=q.pos;have e3:=q.le;rw[<-g2];exact My s n m _ _ _ q (by omega) (by omega)
     right;refine off ?_ ?_
     ·unfold gf;simp[p]
     unfold dX bL;have:¬(bM 1 (dF s 16 (ae s u)).1 0).1=0:=λe=>p ((wi _).2 (by rw[g2];exact e))
     simp[this]
    ·right;have z:(gf s t).ok=false:=by unfold gf;simp[g1]
     rcases g2 with g2|g2
     ·exact off z (by unfold dX bL;simp[g2])
     by_cases N:(dX s u).bad=true
     ·exact off z N
     refine⟨(wa s n _ _ r.1.lt).nok z,?_⟩;obtain⟨m,rfl⟩:∃x,m=x+1:=⟨m-1,by omega⟩;have S:m_ s true (dX s u):=g2;have U:(ae s (dX s u)).bad=true:=pc (.inr S.ri);have M:=gu s _ y.1.lt;have o:¬s.length<=(dX s u).pos:=by
      obtain⟨c,q1,_⟩:=S;have:=(aL.1 q1).1;omega
     unfold fM;rw[O N,O o];have A:=uc s (dX s u) y.1.lt;refine(rA s m _ _ A.1.lt).bb ?_;have k4:=oV s 16 _ M.lt;have:=k4.1.bb U;unfold dX bL at this ⊢;simp only at this ⊢;rw[this];rfl
    right;refine off ?_ ?_
    ·have:¬gE (mf s (bq s t))=0:=aaL g3;unfold gf;simp[this]
    unfold dX bL;simp[g2]
   right;have k1:=mw s t g;have k2:=gu s u i;have A:=(ui s 17 _ k1.lt).1.nok h1;have k4:=(oV s 16 _ k2.lt).1.bb h2;refine off ?_ ?_
   ·unfold gf lr;simp[A]
   unfold dX bL;simp[k4]
  rw[O (by simp[j]),ifp];exact .inl ⟨h,rfl⟩
 termination_by n=>n
