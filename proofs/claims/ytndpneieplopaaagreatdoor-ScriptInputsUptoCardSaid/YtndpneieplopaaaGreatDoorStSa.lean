/- The reference's Quote. -/
import Derived.Test.YtndpneieplopaaaGreatDoorStGv
set_option linter.unusedSimpArgs false
set_option linter.unusedVariables false
noncomputable section
namespace Go.Proofs.YtndpneieplopaaaGreatDoor
open Go.Eng Go.St Tryz
variable {z:Nat}{h:AH}{lv:AV}{cs:LA}
theorem Pp{bytes:Nat}{h0:AH}{n m:Nat}{tc:LA}(o:OL z h0 h lv n cs)(aS:h0.nx<=h.nx)(hm:m≠0)(af:tc.length=m*z)(aj:aM tc=true)(hn:n+m<=2000000000)(hb:bytes<=1000):
  ∃al h2,fy (h.add (.cells tc)) z bytes lv (.rsl h.nx 0 m z)=some (al,h2)/\OL z h0 h2 al (n+m) (cs++tc)/\h2.nx=h.nx+2/\∀i,i<h0.nx->h2.H.get i=h.H.get i:=by
 have G:cut tc 0 (m*z)=some tc:=by
  have:=cS (α:=tc) (b:=[]) (n:=m*z) (by omega);rwa [bO]at this
 have an:iC (n+m) bytes=true:=by
  refine KK _ _ ?_ (by omega);have:(n+m)*bytes<=2000000000*1000:=Nat.mul_le_mul (by omega) hb;omega
 rcases o with⟨rfl,rfl,rfl⟩|⟨k,rfl,aT,a1,hk,aw,hlen⟩
 ·refine⟨.rsl (h.nx+1) 0 (0+m) z,(h.add (.cells tc)).add (.cells tc),?_,.inr ⟨h.nx+1,rfl,by omega,by omega,by simp,?_,by simp[af]⟩,by simp,λi hi=>?_⟩
  ·rw[Dt _ _ _ _ _ _ hm];have ar:iC m bytes=true:=by simpa using an
   have ao:(h.add (.cells tc)).E h.nx=some tc:=cas;simp[G,aj,ar]
  ·have:(h.add (.cells tc)).nx=h.nx+1:=by simp
   rw[<-this,cD];exact cas
  rw[gan,gan]
 have av:(h.add (.cells tc)).E k=some cs:=by rw[can];exact aw
 have ao:(h.add (.cells tc)).E h.nx=some tc:=cas;have ad:cut cs 0 (n*z)=some cs:=by
  have:=cS (α:=cs) (b:=[]) (n:=n*z) hlen;rwa [bO]at this
 refine⟨.rsl (h.nx+1) 0 (n+m) z,((h.add (.cells tc)).kill k).add (.cells (cs++tc)),?_,.inr ⟨h.nx+1,rfl,by omega,by omega,by simp,?_,?_⟩,by simp,λi hi=>?_⟩
 ·rw[Cx];simp[G,aj,an,av,ad,ao]
 ·have:((h.add (.cells tc)).kill k).nx=h.nx+1:=by simp
  rw[<-this];exact cas
 ·rw[au,hlen,af,ie]
 rw[gan,my,ifn,gan]
def qtE(c:UInt8):Str:=if c=92\/c=34 then [92,c]else if c=10 then [92,110]else [c]
def qtB:Str->Str
 |[]=>[]
 |c::s=>qtE c++qtB s
def gy(s:Str):Str:=34::(qtB s++[34])
theorem Rz(c:UInt8):(qtE c).length<=2:=by unfold qtE;(repeat' split)<;>simp
theorem RZ:∀s:Str,(qtB s).length<=2*s.length
 |[]=>by simp[qtB]
 |c::s=>by
  have:=RZ s;have:=Rz c;simp only[qtB,au,aF];omega
theorem rE(s:Str):(gy s).length<=2*s.length+2:=by
 have:=RZ s;simp[gy];omega
inductive Q45(h hb:AH)(s:Str):Nat->List AV->AH->Prop
 |mk {m:Nat} {h':AH} (i:Nat) (acc:Str) (lv:AV):i+m=s.length->acc++qtB (s.drop i)=34::qtB s->acc.length<=2*i+1->OL 1 hb h' lv acc.length (aK acc)->Fr h h'->hb.nx<=h'.nx->Q45 h hb s m [.str s,lv,I i] h'
inductive I7(h hb:AH)(s:Str)(i:Nat)(out:Str):List AV->AH->Prop
 |mk {h':AH} (lv:AV):OL 1 hb h' lv out.length (aK out)->Fr h h'->hb.nx<=h'.nx->I7 h hb s i out [.str s,lv,I i] h'
theorem f?(a b:Str):aK (a++b)=aK a++aK b:=by simp[aK]
theorem Bo{h:AH}(s:Str)(hs:s.length<=400000000):ab prog 45 [.str s] h (.str (gy s)) h:=by
 refine dj (λ_=>.str _) (C45 ?_);have al:aQ [.int .u8 0] [(0,1,.int .u8 34)]=some [.int .u8 34]:=rfl;simp[g45,al];have aS:OL 1 h (h.add (.cells [.int .u8 34])) (.rsl h.nx 0 1 1) ([34]:Str).length (aK [34]):=.inr ⟨h.nx,rfl,by simp,ay _,by simp,cas,rfl⟩;have av:Fr h (h.add (.cells [.int .u8 34])):=(Fr.refl h).add _;have aw:h.nx<=(h.add (.cells [.int .u8 34])).nx:=av.nx;generalize h.add (.cells [.int .u8 34])=h1 at*;refine⟨Q45 h h s,s.length,.mk 0 [34] _ (by simp) (by simp) (by simp) aS av aw,?_⟩;rintro m vs h' ⟨i,acc,lv,a7,hA,hl,ol,fr,hbn⟩;cases m with
 |zero=>
  have an:¬(i:Int)<s.length:=by omega
  have hd:s.drop i=[]:=gp (by omega);rw[hd]at hA;simp only[qtB,bO]at hA;obtain⟨G,h2,k1,ad,aT,ao⟩:=Pp (m:=1) (bytes:=1) ol hbn (tc:=[.int .u8 34]) (by omega) rfl rfl (by omega) (by omega);have e1:aK acc++[.int .u8 34]=aK (acc++[34]):=by rw[f?];rfl
  have e2:acc.length+1=(acc++[34]).length:=by simp
  rw[e1,e2]at ad;have hb:=Hr ad;simp[Gy,an,Ut,Gz,al,k1];rw[hb];simp[];refine⟨by rw[hA];rfl,by have:=fr.nx;omega,λi hi=>by rw[ao i hi];exact fr.get i hi⟩
 |succ m=>
  have hi:i<s.length:=by omega
  have an:(i:Int)<s.length:=by omega
  have ar:=λh=>dA (h:=h) (show s[i]?=some s[i]by simp[hi])
  rw[ig hi]at hA;simp only[qtB]at hA;generalize s[i]=c at*;have b1:=zb c;have b2:=za c;have b3:=af1 c;simp[Gy,an];refine⟨I7 h h s i (acc++qtE c),?_,?_⟩
  ·obtain⟨fl,af⟩:∃fl,fl=decide (c=92\/c=34):=⟨_,rfl⟩;simp[U_,ar,b1];refine⟨λvs h2=>vs=[.str s,lv,I i,.int .u8 c.toNat,.bool fl]/\h2=h',?_,?_⟩
   ·by_cases q1:c=92
    ·subst q1;simp[yB,af]
    by_cases q2:c=34
    ·subst q2;simp[yB,af]
    simp[yB,af,q1,q2,b2]
   rintro vs h2 ⟨rfl,rfl⟩;have fin:∀(t:Str),qtE c=t->t.length≠0->t.length<=2->∃G h3,fy (h2.add (.cells (aK t))) 1 1 lv (.rsl h2.nx 0 t.length 1)=some (G,h3)/\I7 h h s i (acc++qtE c) [.str s,G,I i] h3:=by
    intro t ht a1 a8;obtain⟨G,h3,k1,ad,aT,ao⟩:=Pp (m:=t.length) (bytes:=1) ol hbn (tc:=aK t) a1 (by simp[aK]) (by simp[aM,aK,AV.one]) (by omega) (by omega);refine⟨G,h3,k1,.mk G ?_ ⟨by have:=fr.nx;omega,λi hi=>by rw[ao i hi];exact fr.get i hi⟩ (by omega)⟩;rw[ht,f?,au];exact ad
   by_cases q:c=92\/c=34
   ·rw[af,eD q];obtain⟨G,h3,k1,hq⟩:=fin [92,c] (by unfold qtE;rw[Z q]) (by simp) (by simp);have aj:aQ [.int .u8 0,.int .u8 0] [(0,1,.int .u8 92),(1,1,.int .u8 c.toNat)]=some (aK [92,c]):=rfl;have k1:fy (h2.add (.cells (aK [92,c]))) 1 1 lv (.rsl h2.nx 0 2 1)=some (G,h3):=k1;simp[yj,ar,aj,k1];exact hq
   rw[af,dx q];by_cases q3:c=10
   ·subst q3;obtain⟨G,h3,k1,hq⟩:=fin [92,110] (by decide) (by simp) (by simp);have aj:aQ [.int .u8 0,.int .u8 0] [(0,1,.int .u8 92),(1,1,.int .u8 110)]=some (aK [92,110]):=rfl;have k1:fy (h2.add (.cells (aK [92,110]))) 1 1 lv (.rsl h2.nx 0 2 1)=some (G,h3):=k1;simp[yj,aj,k1];exact hq
   obtain⟨G,h3,k1,hq⟩:=fin [c] (by unfold qtE;rw[O q,O q3]) (by simp) (by simp);have aj:aQ [.int .u8 0] [(0,1,.int .u8 c.toNat)]=some (aK [c]):=rfl;have k1:fy (h2.add (.cells (aK [c]))) 1 1 lv (.rsl h2.nx 0 1 1)=some (G,h3):=k1;simp[yj,ar,aj,k1,b3,q3];exact hq
  rintro vs h2 ⟨G,ad,a6,nh⟩;simp(disch:=first|go_size|fail)[Tt];refine⟨m,by omega,?_⟩;have e:=Rz c;exact .mk (i+1) (acc++qtE c) G (show i+1+m=s.length by omega) (by rw[<-hA,gr]) (by rw[au];omega) ad a6 nh
theorem we:∀(k u:Nat),u<10^(k+1)->(Lib.decDigits u).length<=k+1
 |0,u,h=>by
  rw[Lib.decDigits,dif_pos (by simpa using h)];simp
 |k+1,u,h=>by
  by_cases G:u<10
  ·rw[Lib.decDigits,dif_pos G];simp
  rw[Lib.decDigits,dif_neg G,au,dP];have:=we k (u/10) (by
   have e:(10:Nat)^(k+1+1)=10^(k+1)*10:=tP ..;rw[e]at h;exact Nat.div_lt_of_lt_mul (by omega))
  omega
variable {n:Int}
theorem AF(G : -1000000000000000000<=n)(h2:n<=1000000000000000000):(Lib.itoa n).length<=20:=by
 have e:(10:Nat)^(18+1)=10000000000000000000:=by decide
 unfold Lib.itoa;split
 ·have:=we 18 n.natAbs (by rw[e];omega);simp;omega
 have:=we 18 n.toNat (by rw[e];omega);omega
def inR(n:Int):Bool:=decide (-1099511627776<=n/\n<=1099511627776)
def me:List Int->Str
 |[]=>[]
 |n::l=>32::(Lib.itoa n++me l)
def cz(l:List Int):Str:=if l.all inR=true then me l else [33]
theorem LD:∀l:List Int,l.all inR=true->(me l).length<=21*l.length
 |[],_=>by simp[me]
 |n::l,h=>by
  simp only[nE,aI]at h;have G:=LD l h.2;have h2:=h.1;unfold inR at h2;have:=AF (n:=n) (by simp at h2;omega) (by simp at h2;omega);simp only[me,aF,au];omega
theorem fB(l:List Int):(cz l).length<=21*l.length+1:=by
 unfold cz;split
 ·rename_i h;have:=LD l h;omega
 simp
def NSl(h:AH)(A:AV)(L:List Int):Prop:=∃k,A =.rsl k 0 L.length 1/\h.E k=some (L.map λn=>I n)/\k<h.nx
inductive Q40(h:AH)(A:AV)(L:List Int):Nat->List AV->AH->Prop
 |mk {m:Nat} {h':AH} (i:Nat) (acc:Str):i+m=L.length->(L.take i).all inR=true->acc++me (L.drop i)=me L->acc.length<=21*i->Fr h h'->Q40 h A L m [A,.str acc,I i] h'
theorem oY{h:AH}(A:AV)(L:List Int)(hx:NSl h A L/\L.length<=1000):ab prog 40 [A] h (.str (cz L)) h:=by
 obtain⟨⟨k,rfl,ao,ar⟩,hL⟩:=hx;refine dj (λ_=>.str _) (C40 ?_);simp[g40];refine⟨Q40 h (.rsl k 0 L.length 1) L,L.length,.mk 0 [] (by simp) (by simp) (by simp) (by simp) (Fr.refl h),?_⟩;rintro m vs h' ⟨i,acc,aS,ad,hA,hl,fr⟩;have G:h'.E k=some (L.map λn=>I n):=by rw[aV (fr.get k ar)];exact ao
 cases m with
 |zero=>
  have al:¬(i:Int)<L.length:=by omega
  rw[dH (by omega)]at ad;rw[gp (by omega)]at hA;simp only[me,bO]at hA;simp[Gg,al,Ga,H4];exact⟨by unfold cz;rw[Z ad,hA],fr⟩
 |succ m=>
  have hi:i<L.length:=by omega
  have al:(i:Int)<L.length:=by omega
  have af:=λh=>uT h k L.length i hi
  have aj:(L.map λn=>I n)[i]?=some (I L[i]):=by simp[hi]
  have av:(L.take (i+1)).all inR=inR L[i]:=by
   rw[vD hi,List.all_append,ad];simp
  have an:inR L[i]=false->L.all inR=false:=λe=>by
   rw[vG];intro hc;rw[fi]at hc;have:=hc _ (gG hi);rw[e]at this;cases this
  rw[ig hi]at hA;simp only[me]at hA;generalize hn:L[i]=n at*;generalize(L.map λn=>I n)=LL at*;simp[Gg,al];refine⟨λvs h2=>vs=[.rsl k 0 L.length 1,.str acc,I i,.bool (!(inR n))]/\h2=h',?_,?_⟩
  ·by_cases q1:n < -1099511627776
   ·have e:inR n=false:=by unfold inR;rw[dx];omega
    simp[xU,af,G,aj,q1,e,yN]
   by_cases q2:1099511627776<n
   ·have e:inR n=false:=by unfold inR;rw[dx];omega
    simp[xU,af,G,aj,q1,q2,e,yN]
   have e:inR n=true:=by unfold inR;rw[eD];omega
   simp[xU,af,G,aj,q1,q2,e,yN]
  rintro vs h2 ⟨rfl,rfl⟩;cases hr:inR n
  ·simp[HJ,Ga];exact⟨by unfold cz;rw[an hr];rfl,fr⟩
  have hb : -1099511627776<=n/\n<=1099511627776:=by unfold inR at hr;simpa using hr
  simp[HJ,af,G,aj];refine sD (J2 n (by omega)) ?_;have aT:=AF (n:=n) (by omega) (by omega);have k1:=aU (h:=h2) (a:=[32]) (b:=Lib.itoa n) (by simp;omega);have k2:=aU (h:=h2) (a:=acc) (b:=[32]++Lib.itoa n) (by simp;omega);unfold Th;simp only[sC,iT,IY];rw[k1];simp[];have aw:aG h2 .add (.str acc) (.str (32::Lib.itoa n))=some (.str (acc++([32]++Lib.itoa n)),h2):=k2;rw[aw];simp(disch:=first|go_size|fail)[];refine⟨m,by omega,?_⟩;exact .mk (i+1) (acc++(32::Lib.itoa n)) (show i+1+m=L.length by omega) (by rw[av];exact hr) (by rw[<-hA];simp) (by simp;omega) fr
mutual
def eU:Val->Str
 |.mk k n s l=>if k=1 then Lib.itoa n else if k=2 then(if n=1 then eI else ed)else if k=3 then gy s else 91::(cZ true l++[93])
def cZ:Bool->List Val->Str
 |_,[]=>[]
 |b,v::r=>(if b=true then []else [32])++(eU v++cZ false r)
end
inductive VW:Val->Prop
 |mk (k n:Int) (s:Str) (l:List Val):(-1000000000000000000<=n/\n<=1000000000000000000)->s.length<=400000000->l.length<=2000000000->(∀v∈l,VW v)->(eU (.mk k n s l)).length<=1000000000000->VW (.mk k n s l)
def zo(v:Val):Prop:=∀(h:AH),ab prog 43 [.agg (vC v)] h (.str (eU v)) h
variable {l:List Val}{Q:QT}
theorem age(G:∀v∈l,zo v)(v:Val)(hm:v∈l)(hq:Q (.str (eU v)) h):tU prog 43 [.agg (vC v)] h Q:=sD (G v hm h) hq
inductive Q43(h:AH)(v:Val)(l:List Val):Nat->List AV->AH->Prop
 |mk {m:Nat} {h':AH} (i:Nat) (acc:Str):i+m=l.length->acc++cZ (decide (i=0)) (l.drop i)=91::cZ true l->Fr h h'->h'.E h.nx=some (vC v)->h.nx+1<=h'.nx->Q43 h v l m [.ptr h.nx 0,.str acc,I i] h'
theorem acg(k n:Int)(s:Str)(l:List Val)(hn : -1000000000000000000<=n/\n<=1000000000000000000)(hs:s.length<=400000000)(hl:l.length<=2000000000)(hv:∀v∈l,zo v)(a6:(eU (.mk k n s l)).length<=1000000000000):zo (.mk k n s l):=by
 intro h;refine dj (λ_=>.str _) (C43 ?_);have aj:vC (.mk k n s l)=[I k,I n,.str s,.psl (vCs l)]:=by simp[vC]
 have G:eU (.mk k n s l)=if k=1 then Lib.itoa n else if k=2 then(if n=1 then eI else ed)else if k=3 then gy s else 91::(cZ true l++[93]):=by simp only[eU]
 simp[g43];have fr:Fr h (h.add (.cells (vC (.mk k n s l)))):=(Fr.refl h).add _;have c1:(h.add (.cells (vC (.mk k n s l)))).E h.nx=some (vC (.mk k n s l)):=cas;have al:h.nx+1<=(h.add (.cells (vC (.mk k n s l)))).nx:=by simp
 have ad:(vC (.mk k n s l))[0]?=some (I k):=by rw[aj];rfl
 have ao:(vC (.mk k n s l))[1]?=some (I n):=by rw[aj];rfl
 have a1:(vC (.mk k n s l))[2]?=some (.str s):=by rw[aj];rfl
 have ar:(vC (.mk k n s l))[3]?=some (.psl (vCs l)):=by rw[aj];rfl
 generalize h.add (.cells (vC (.mk k n s l)))=h1 at*;generalize a7:eU (.mk k n s l)=TT at*;by_cases k1:k=1
 ·rw[Z k1]at G;subst k1;simp[ad,c1,ao];refine sD (J2 n hn) ?_;simp[];exact⟨G.symm,fr⟩
 rw[O k1]at G;by_cases k2:k=2
 ·rw[Z k2]at G;subst k2;by_cases n1:n=1
  ·rw[Z n1]at G;subst n1;simp[ad,c1,ao,S8];exact⟨G.symm,fr⟩
  rw[O n1]at G;simp[ad,c1,ao,n1,Vb];exact⟨G.symm,fr⟩
 rw[O k2]at G;by_cases k3:k=3
 ·rw[Z k3]at G;subst k3;simp[ad,c1,a1];unfold Vh;simp[];refine sD (Bo s hs) ?_;simp[];exact⟨G.symm,fr⟩
 rw[O k3]at G;simp[ad,k1,k2,k3];refine⟨Q43 h (.mk k n s l) l,l.length,.mk 0 [91] (by simp) (by simp) fr c1 al,?_⟩;clear fr c1 al;rintro m vs h' ⟨i,acc,a8,hA,fr,c1,al⟩;have l1:(vCs l).length=l.length:=gP l;have hlen:(91::cZ true l).length+1=TT.length:=by rw[G];simp
 cases m with
 |zero=>
  have av:¬(i:Int)<l.length:=by omega
  rw[gp (by omega)]at hA;simp only[cZ,bO]at hA;simp[GZ,c1,ar,l1,av];have k1:=aU (h:=h') (a:=acc) (b:=[93]) (by rw[hA];simp at hlen ⊢; omega);simp[WR];unfold H9;simp only[sC,iT,IY];rw[k1];simp[];exact⟨by rw[hA,G];simp,fr⟩
 |succ m=>
  have hi:i<l.length:=by omega
  have av:(i:Int)<l.length:=by omega
  have i1:∀h:AH,aC h 4 (.psl (vCs l)) (I i)=some (.ai (vC l[i]),h):=λh=>gQ (mC hi) (ch _)
  have k1:cut (vC l[i]) 0 4=some (vC l[i]):=by
   have:=cS (α:=vC l[i]) (b:=[]) (n:=4) (ch _);rwa [bO]at this
  have aS:=gG hi;rw[ig hi]at hA;simp only[cZ]at hA;generalize l[i]=v at*;have an:=congrArg List.length hA;simp only[au]at an;obtain⟨sep,af⟩:∃sep:Str,sep=if decide (i=0)=true then []else [32]:=⟨_,rfl⟩
  rw[<-af]at hA an;simp[GZ,c1,ar,l1,av];refine⟨λvs h2=>vs=[.ptr h.nx 0,.str (acc++sep),I i]/\h2=h',?_,?_⟩
  ·by_cases aw:i=0
   ·subst aw;simp[H0,af]
   have aT:0<i:=by omega
   have k2:=aU (h:=h') (a:=acc) (b:=[32]) (by simp only[aF,bz]at hlen an ⊢; omega);simp[H0,aT];rw[k2];simp[af,aw]
  rintro vs h2 ⟨rfl,rfl⟩;simp(disch:=first|go_size|fail)[SO,c1,ar,i1,k1];refine age hv v aS ?_;have k3:=aU (h:=h2) (a:=acc++sep) (b:=eU v) (by simp only[au,aF]at hlen an ⊢; omega);rw[k3];simp(disch:=first|go_size|fail)[];refine⟨m,by omega,?_⟩;have hd:decide (i+1=0)=false:=by simp
  exact .mk (i+1) (acc++(sep++eU v)) (show i+1+m=l.length by omega) (by rw[hd,<-hA];simp) fr c1 al
theorem agU:∀ {v:Val},VW v->zo v:=λG=>by
 induction G with
 |mk k n s l h1 h2 h3 _ h5 ih=>exact acg k n s l h1 h2 h3 ih h5
theorem acb(v:Val)(G:VW v):ab prog 43 [.agg (vC v)] h (.str (eU v)) h:=agU G h
open Go.Eng Go.St Tryz
def oD(m:Int)(i:Nat):Bool:=(m.toNat >>> i)%2==1
def ff(m:Int):Nat->Str
 |0=>[]
 |i+1=>ff m i++(if oD m i=true then bl.getD i []++[43]else [])
def fF(k m:Int):Str:=ff m 4++eQ k
variable {m:Int}{i:Nat}
theorem afa(h:AH)(h0:0<=m)(h1:m<=15)(hi:i<4):∃x y:Int,aG h .shr (I m) (.int .u64 i)=some (I x,h)/\aG h .and (I x) (I 1)=some (I y,h)/\(y==1)=oD m i:=by
 have hm:m=0\/m=1\/m=2\/m=3\/m=4\/m=5\/m=6\/m=7\/m=8\/m=9\/m=10\/m=11\/m=12\/m=13\/m=14\/m=15:=by omega
 have G:i=0\/i=1\/i=2\/i=3:=by omega
 rcases hm with rfl|rfl|rfl|rfl|rfl|rfl|rfl|rfl|rfl|rfl|rfl|rfl|rfl|rfl|rfl|rfl<;>rcases G with rfl|rfl|rfl|rfl<;>exact⟨_,_,rfl,rfl,rfl⟩
theorem KU{i:Nat}:(bl.getD i []).length<=10:=by
 by_cases h:i<4
 ·have:i=0\/i=1\/i=2\/i=3:=by omega
  rcases this with rfl|rfl|rfl|rfl<;>decide
 have:bl.getD i []=[]:=by
  rw[gF,j_ (by show 4<=i;omega)];rfl
 rw[this];simp
theorem wG(m:Int):∀i,(ff m i).length<=11*i
 |0=>by simp[ff]
 |i+1=>by
  have G:=wG m i;have h2:= @KU i;simp only[ff,au];split
  ·simp only[au,dP];omega
  simp only[bz];omega
theorem U!{k:Int}:(eQ k).length<=1000:=by
 unfold eQ;split
 ·by_cases h:k.toNat<24
  ·have:=cQ (ik (l:=dS) (i:=k.toNat) h);exact(by decide:∀w∈dS,w.length<=1000) _ this
  rw[gF,j_ (by show 24<=k.toNat;omega)];simp
 split
 ·decide
 have:=wx k;omega
theorem z7(k m:Int):(fF k m).length<=1044:=by
 have G:=wG m 4;have h2:= @U! k;simp only[fF,au];omega
inductive Q83(h:AH)(k m:Int):Nat->List AV->AH->Prop
 |mk {n:Nat} {h':AH} (i:Nat):i+n=4->h'.E h.nx=some [I k,I m]->Fr h h'->Q83 h k m n [.ptr h.nx 0,.str (ff m i),I i] h'
theorem ada{h:AH}(k m:Int)(hk:ga k m=true):ab prog 83 [.agg [I k,I m]] h (.str (fF k m)) h:=by
 have hk:=hk;rw[kQ]at hk;have hk:0<=m/\m<=15/\((1<=k/\k<=23)\/(32<=k/\k<=1114111/\(k<55296\/57343<k)/\(k<65\/90<k))):=by simpa using hk
 refine dj (λ_=>.str _) (C83 ?_);simp[g83];have G:(h.add (.cells [I k,I m])).E h.nx=some [I k,I m]:=cas;have fr:Fr h (h.add (.cells [I k,I m])):=(Fr.refl h).add _;generalize h.add (.cells [I k,I m])=h1 at*;refine⟨Q83 h k m,4,.mk 0 rfl G fr,?_⟩;clear G fr;rintro n vs h' ⟨i,aw,G,fr⟩;have ar:=wG m i;cases n with
 |succ n=>
  have av:(i:Int)<4:=by omega
  simp[xp,av];refine⟨λvs h2=>vs=[.ptr h.nx 0,.str (ff m (i+1)),I i]/\h2=h',?_,?_⟩
  ·obtain⟨x,y,b1,b2,b3⟩:=afa h' hk.1 hk.2.1 (i:=i) (by omega);have ad:ff m (i+1)=ff m i++(if oD m i=true then bl.getD i []++[43]else []):=rfl;cases hb:oD m i
   ·rw[hb]at b3 ad;have al:¬y=1:=by simpa using b3
    simp[yd,G,sS i (by omega),b1,b2,al];rw[ad];simp
   rw[hb]at b3 ad;have al:y=1:=by simpa using b3
   subst al;simp[yd,G,sS i (by omega),b1,b2];refine sD (V7 trivial) ?_;have hx:=ki h' bl i _ (ik (show i<bl.length by show i<4;omega));have hl:= @KU i;have k1:=aU (h:=h') (a:=bl.getD i []) (b:=[43]) (by simp only[dP];omega);have k2:=aU (h:=h') (a:=ff m i) (b:=bl.getD i []++[43]) (by simp only[au,dP];omega);rw[ad];generalize bl.getD i []=W at*;simp[Ui];rw[hx];simp[];rw[k1];simp[];rw[k2];simp(disch:=first|go_size|fail)[]
  rintro vs h2 ⟨rfl,rfl⟩;simp(disch:=first|go_size|fail)[Fc];exact⟨n,by omega,.mk (i+1) (show i+1+n=4 by omega) G fr⟩
 |zero=>
  obtain rfl:i=4:=by omega
  simp[xp,EA];have ar:=wG m 4;unfold fF;generalize ff m 4=MP at*;by_cases af:k<=23
  ·have aj:k.toNat<dS.length:=by show k.toNat<24;omega
   have hx:=ki ⟨h'.H,h'.nx+8⟩ dS k.toNat _ (ik aj);have e:((k.toNat:Nat):Int)=k:=by omega
   rw[e]at hx;simp[qI,G,af];refine sD (Fu trivial) ?_;simp[G];rw[hx];have hw:(dS.getD k.toNat []).length<=1000:=by
    have:=cQ (ik aj);exact(by decide:∀w∈dS,w.length<=1000) _ this
   have eS:eQ k=dS.getD k.toNat []:=by unfold eQ;rw[Z af]
   rw[eS];generalize dS.getD k.toNat []=W at*;simp[Er];rw[aU (by omega)];simp[];exact fr.bump (by omega)
  by_cases an:k=32
  ·subst an;simp[qI,G];rw[aU (by simp;omega)];simp[];exact⟨rfl,fr⟩
  have eS:eQ k=e_ k:=by unfold eQ;rw[O af,O an]
  rw[eS];have ao:IntKind.i32.wrap k=k:=by simp only[IntKind.wrap,IntKind.bits,IntKind.signed];simp;omega
  have hX:∀h:AH,kX h .i2s [.int .i32 k]=some (.str (e_ k),h):=λh=>rfl
  simp[qI,G,af,an,EE,ao,hX];rw[aU (by have:=wx k;omega)];simp[];exact fr
theorem abF{k:Int}(G:ga k m=true):eQ k≠[]:=by
 rw[kQ]at G;have G:0<=m/\m<=15/\((1<=k/\k<=23)\/(32<=k/\k<=1114111/\(k<55296\/57343<k)/\(k<65\/90<k))):=by simpa using G
 unfold eQ;split
 ·rename_i ad;have e:∀q<24,0<q->dS.getD q []≠[]:=by decide
  exact e k.toNat (by omega) (by omega)
 split
 ·decide
 rw[nR];have:=Lib.encodeRuneZ_length k;unfold Lib.encodeRune;intro e;have e2:=congrArg List.length e;rw[kK]at e2;simp at e2;have:=this.1;simp[e2]at this
theorem Lh{k:Int}(G:ga k m=true):fF k m≠[]:=λe=>by
 unfold fF at e;exact abF G (List.append_eq_nil_iff.1 e).2
def chF(k m:Int):Str×Int:=if ga k m=true then(fF k m,0)else([],1)
theorem wR(k m:Int):(chF k m).1.length<=1044:=by
 unfold chF;split
 ·exact z7 k m
 simp
inductive Q41(h:AH)(A:AV)(k m:Int):Nat->List AV->AH->Prop
 |zero {h':AH}:Fr h h'->Q41 h A k m 1 [A,.str [],I 0] h'
 |one {h':AH}:ga k m=true->Fr h h'->Q41 h A k m 0 [A,.str (fF k m),I 1] h'
theorem ade{h:AH}(kk:Nat)(k m:Int)(hx:h.E kk=some [I k,I m]/\kk<h.nx):ab prog 41 [.rsl kk 0 1 2] h (.tup [.str (chF k m).1,I (chF k m).2]) h:=by
 obtain⟨hc,aj⟩:=hx;refine dj (λH=>kU (.str _) (.int _ _)) (C41 ?_);simp[g41];refine⟨Q41 h (.rsl kk 0 1 2) k m,1,.zero (Fr.refl h),?_⟩;rintro n vs h' hq;cases hq with
 |zero fr=>
  have ad:h'.E kk=some [I k,I m]:=by rw[aV (fr.get kk aj)];exact hc
  have af:∀h:AH,aC h 2 (.rsl kk 0 1 2) (I 0)=some (.ptr kk 0,h):=λh=>gO (i:=0) (by omega) (by omega)
  simp[G7,af,ad];refine sD (Np k m trivial) ?_;cases G:ga k m
  ·simp[ER];unfold chF;rw[G];exact⟨⟨rfl,rfl⟩,fr⟩
  simp[];refine⟨λvs h2=>vs=[.rsl kk 0 1 2,.str [],I 0]/\h2=h',?_,?_⟩
  ·simp[Wp]
  rintro vs h2 ⟨rfl,rfl⟩;simp[TX,af,ad];refine sD (ada k m G) ?_;have k1:=aU (h:=h2) (a:=[]) (b:=fF k m) (by have:=z7 k m;simp;omega);rw[k1];simp[];exact .one G fr
 |one G fr=>
  have al:=Lh G;simp[G7,ER,FL,al];unfold chF;rw[Z G];exact⟨⟨rfl,rfl⟩,fr⟩
def prA:Str->List Val->Str
 |acc,[]=>acc
 |acc,v::r=>if(bM 1 v 0).1≠0 then []else prA (acc++32::eU v) r
def jv(G:Int):Nat->Str
 |0=>[]
 |k+1=>if G=2^k then dY.getD k []else jv G k
def prC:Str->List (Int×Bool)->Str
 |acc,[]=>acc
 |acc,p::r=>if p.1<0 then []else prC (acc++cz [if p.2=true then -p.1 else p.1]) r
def A1:Str:=[99,111,109,112,111,115,101,32,98,101,103,105,110]
def AD:Str:=[99,111,109,112,111,115,101,32,99,97,110,99,101,108]
def uv:Str:=[99,111,109,112,111,115,101,32,99,111,109,109,105,116,32]
def lM:Str:=[99,111,109,112,111,115,101,32,117,112,100,97,116,101,32]
def pr1(i:Inp):Str:=if i.pk<1\/7<=i.pk then []else([112,111,105,110,116,101,114,32]++gz.getD i.pk.toNat [])++cz [i.pid,i.px,i.py,i.pt,i.pw]
def pr2(i:Inp):Str:=([107,101,121,32]++(chF i.key i.cH).1)++cz [i.time]
def pr3(i:Inp):Str:=[116,105,109,101]++cz [i.time]
def pr4(i:Inp):Str:=[115,105,122,101]++cz [i.sw,i.sh]
def pr5(i:Inp):Str:=((([109,111,100,101,32]++(if i.dv=true then iy else kl))++[32])++(if i.high=true then gU else jB))++cz [i.scale]
def pr6(i:Inp):Str:=prA [97,114,103,115] i.args
def pr7(i:Inp):Str:=(((([97,99,99,101,115,115]++cz [i.ver,i.node])++[32])++jv i.act 9)++cz [i.frm,i.too])++[32]++gy i.rt
def pr8(i:Inp):Str:=if i.tk=14 then A1 else if i.tk=17 then AD else if i.tk=16 then uv++gy (bD i.t)else prC ((lM++gy (bD i.t))++cz [i.dE]) i.cls
def prT(i:Inp):Str:=
 if i.kind=1 then pr1 i else if i.kind=2 then pr2 i else if i.kind=3 then pr3 i else if i.kind=4 then pr4 i else if i.kind=5 then pr5 i else if i.kind=6 then pr6 i else if i.kind=7 then pr7 i else if i.kind=8 then pr8 i else []
structure PrB(i:Inp):Prop where
 na:i.args.length<=1000
 vw:∀v∈i.args,(bM 1 v 0).1=0->VW v
 t:i.t.length<=100000
 rt:i.rt.length<=400000000
 nc:i.cls.length<=10000
 cl:∀p∈i.cls,p.1<=9223372036854775807
def PRQ(h:AH)(s:Str):QT:=λv h'=>v =.str s/\Fr h h'
theorem SN(h:AH)(L:List Int):NSl (h.add (.cells (L.map λn=>I n))) (.rsl h.nx 0 L.length 1) L:=⟨h.nx,rfl,cas,by simp⟩
theorem uB(h:AH)(n:Int):NSl (h.add (.cells [I n])) (.rsl h.nx 0 1 1) [n]:=SN h [n]
theorem QH(h:AH)(n m:Int):NSl (h.add (.cells [I n,I m])) (.rsl h.nx 0 2 1) [n,m]:=SN h [n,m]
structure BX(h h':AH)(cs:LA):Prop where
 fr:Fr h h'
 b:h'.E h.nx=some cs
 nx:h.nx+1<=h'.nx
variable {h':AH}
theorem BX.add(g:BX h h' cs)(o:bg):BX h (h'.add o) cs:=⟨g.fr.add o,by have:=g.nx;rw[can];exact g.b,by have:=g.nx;simp;omega⟩
variable {k:Nat}
theorem BX.bump(g:BX h h' cs)(G:h'.nx<=k):BX h ⟨h'.H,k⟩ cs:=⟨g.fr.bump G,g.b,bf g.nx G⟩
theorem BX.set(g:BX h h' cs)(G:h.nx+1<=k)(o:bg):BX h (h'.set k o) cs:=⟨g.fr.set (by omega) o,by rw[csn];exact g.b,g.nx⟩
theorem q_3{h G:AH}(i:Inp)(fr:Fr h G):HW (I i.time) G (PRQ h (pr3 i)):=by
 unfold pr3;generalize i.time=n;have ad:aQ [I 0] [(0,1,I n)]=some [I n]:=rfl;unfold HW;simp[ad];refine sD (oY _ [n] ⟨uB G n,by simp⟩) ?_;have hl:=fB [n];have af:=fr.add (.cells [I n]);have k1:=aU (h:=G.add (.cells [I n])) (a:=[116,105,109,101]) (b:=cz [n]) (by simp at hl ⊢; omega);generalize G.add (.cells [I n])=h2 at*;generalize cz [n]=N at*;try simp only[cp,cD]at k1
 simp[k1];exact⟨rfl,af⟩
variable {A T CT CR C:AV}
theorem q_4{h G:AH}(i:Inp)(g:BX h G (inG i A T CT CR C)):DG (.ptr h.nx 0) (.ptr h.nx 10) G (PRQ h (pr4 i)):=by
 unfold pr4;have i10:(inG i A T CT CR C)[10]?=some (I i.sw):=rfl;have i11:(inG i A T CT CR C)[11]?=some (I i.sh):=rfl;have hb:=g.b;generalize inG i A T CT CR C=X at*;generalize i.sw=n at*;generalize i.sh=m at*;have ad:aQ [I 0,I 0] [(0,1,I n),(1,1,I m)]=some [I n,I m]:=rfl;unfold DG;simp[hb,i10,i11,ad];refine sD (oY _ [n,m] ⟨QH G n m,by simp⟩) ?_;have hl:=fB [n,m];have af:=g.fr.add (.cells [I n,I m]);have k1:=aU (h:=G.add (.cells [I n,I m])) (a:=[115,105,122,101]) (b:=cz [n,m]) (by simp at hl ⊢; omega);generalize G.add (.cells [I n,I m])=h2 at*;generalize cz [n,m]=N at*;try simp only[cp,cD]at k1
 unfold Wi;simp[k1];exact⟨rfl,af⟩
variable {kk:Nat}
theorem q_2{h G:AH}(i:Inp)(g:BX h G (inG i A T CT CR C))(hk:G.E kk=some [I i.key,I i.cH])(ad:kk<G.nx):Gd (.ptr h.nx 0) (.rsl kk 0 1 2) G (PRQ h (pr2 i)):=by
 unfold pr2;have i9:(inG i A T CT CR C)[9]?=some (I i.time):=rfl;have hb:=g.b;generalize inG i A T CT CR C=X at*;generalize i.time=n at*;generalize i.key=k at*;generalize i.cH=m at*;have af:aQ [I 0] [(0,1,I n)]=some [I n]:=rfl;unfold Gd;simp[];refine sD (ade kk k m ⟨hk,ad⟩) ?_;have aj:=wR k m;have k0:=aU (h:=G) (a:=[107,101,121,32]) (b:=(chF k m).1) (by simp;omega);generalize chF k m=cf at*;obtain⟨W,e⟩:=cf;try simp only[cp,cD]at k0
 simp only at aj;simp[UR,k0,hb,i9,af];refine sD (oY _ [n] ⟨uB G n,by simp⟩) ?_;have hl:=fB [n];have al:=g.fr.add (.cells [I n]);have k1:=aU (h:=G.add (.cells [I n])) (a:=107::101::121::32::W) (b:=cz [n]) (by simp at hl ⊢; omega);generalize G.add (.cells [I n])=h2 at*;generalize cz [n]=N at*;try simp only[cp]at k1
 unfold V5;simp[k1];exact⟨rfl,al⟩
theorem q_5{h h1:AH}(i:Inp)(g:BX h h1 (inG i A T CT CR C))(k5:i.kind=5):nQ (.ptr h.nx 0) (.str []) (I 5) (.bool true) h1 (PRQ h (pr5 i)):=by
 unfold pr5;have i12:(inG i A T CT CR C)[12]?=some (.bool i.dv):=rfl;have i13:(inG i A T CT CR C)[13]?=some (.bool i.high):=rfl;have i14:(inG i A T CT CR C)[14]?=some (I i.scale):=rfl;have hb:=g.b;generalize inG i A T CT CR C=X at*;generalize i.scale=n at*;obtain⟨DD,G⟩:∃DD:Str,DD=if i.dv=true then iy else kl:=⟨_,rfl⟩
 obtain⟨HH,ad⟩:∃HH:Str,HH=if i.high=true then gU else jB:=⟨_,rfl⟩
 rw[<-G,<-ad];have lD:DD.length<=100:=by rw[G];split<;>decide
 have lH:HH.length<=100:=by rw[ad];split<;>decide
 have af:aQ [I 0] [(0,1,I n)]=some [I n]:=rfl;unfold nQ;simp[hb,i12];refine⟨λvs h2=>vs=[.ptr h.nx 0,.str DD,.str jB]/\h2=h1,?_,?_⟩
 ·cases hd:i.dv
  ·rw[hd]at G;simp[HX,G];exact⟨rfl,rfl⟩
  rw[hd]at G;simp[HX,G];exact⟨rfl,rfl⟩
 rintro vs h2 ⟨rfl,rfl⟩;simp[TA,hb,i13];refine⟨λvs h3=>vs=[.ptr h.nx 0,.str DD,.str HH]/\h3=h2,?_,?_⟩
 ·cases hd:i.high
  ·rw[hd]at ad;simp[FR,ad]
  rw[hd]at ad;simp[FR,ad];rfl
 rintro vs h3 ⟨rfl,rfl⟩;have k1:=aU (h:=h3) (a:=[109,111,100,101,32]) (b:=DD) (by simp;omega);have k2:=aU (h:=h3) (a:=[109,111,100,101,32]++DD) (b:=[32]) (by simp;omega);have k3:=aU (h:=h3) (a:=([109,111,100,101,32]++DD)++[32]) (b:=HH) (by simp;omega);have al:((([109,111,100,101,32]++DD)++[32])++HH).length<=1000:=by simp;omega
 have hl:=fB [n];have k4:∀h:AH,aG h .add (.str (((([109,111,100,101,32]++DD)++[32])++HH))) (.str (cz [n]))=some (.str (((([109,111,100,101,32]++DD)++[32])++HH)++cz [n]),h):=λh=>aU (by simp only[dP]at hl;omega)
 simp only[cp,cD,gr]at k1 k2 k3 k4 ⊢;unfold TI;simp[k1,k2,k3,hb,i14,af];refine sD (oY _ [n] ⟨uB h3 n,by simp⟩) ?_;have aj:=g.fr.add (.cells [I n]);generalize h3.add (.cells [I n])=h4 at*;generalize cz [n]=N at*;simp[PU,k4];exact⟨rfl,aj⟩
set_option maxRecDepth 100000
section
variable (x:AX)(r:Nat)(c0 c1 c2 c3 c4 c5 c8 c10 c14 c16 c17 c18 c22:Rec)(K a c b y v5 H z j v9 v10 o g p f d M A m v19 i v22 l t e v26 B w v29 v31 u v v35 T v37 P N v41 v42 v45 v46 q v52 s v55 v56 R v63 v65 v67 U v71 v75 v76 v77 v78 v80 V v85 v89 S W v102 v106 v108 C L v137 v142 v144 v145 v150 v153:AV)(h:AH)(Q:QT)(k:NT)(J:KT)
def HT:=(Pk u xt T λv37=>k [y,z,p,f,d,v37]) h
def GF:=(wS (Un .not v9) λw=>wS (Pk w xt (Cg false w 29 [(qm false w z),(xs' [10])])) λu=>UnG false u .not (Cg false u 30 [(LnG false u 37 H),(LnG false u 37 j)]) λT=>(HT y z p f d u T · k)) h
def E7:=(wI v37 (J .ret [y,p,f,d] [.str [],I 1,y]) (Ca 31 [y,Ar .add z (xs' [10])] λN=>Ar .add d (xi 1) λv41=>J .nrm [y,p,f,v41] [.undef,.undef,y])) h
def Up:=(Ex 0 l λt=>Ex 1 l λe=>Nw z37 λj=>St 37 j t λ_=>wJ (GF y H z j e p f d) (nJ6 E7 J)) h
def Gi:=(wI (Ar .lss d f) (Ln 37 (Ix 37 p d) λm=>Nw z37 λH=>St 37 H m λ_=>Ca 28 [Ln 37 H] λi=>Ca 27 [i] λl=>(Up y H i p f d l · J)) (J (.exit 0) [y,p,f,d] [.undef,.undef,y])) h
def Gj:=(Ca 32 [y] λv42=>Q (.tup [v42,I 0])) h
def FF:=(wX x ((Gj y · Q)) [(0,(Gj y · Q))] (Q (.tup [c,b]))) h
def g17:=(wI (Ar .gtr (Le K) (xi 200)) (Q (.tup [.str [],I 2])) (o0 (λh=>kX h (.nB 85 [.dh,.D]) []) λy=>Le K λf=>wL (nL4 Gi) [y,K,f,I 0] (nX3 FF Q))) h
def Xf(r:Nat)(c0 c3 c5 c10 G c16 ad:Rec)(a c v22 e w v31 af:AV)(h:AH)(Q:QT):=(FaY 5 .n (FaY 1 .n a) λT _=>LdY .n T λv37 c22=>wdA (r+23) (ij 1 5 [I 0,I 0,I 0,I 0,I 0] [(0,1,e),(1,1,w),(2,1,v31),(3,1,af),(4,1,v37)]) λv38 c23=>MvY .n (ArY .add .n v22 (CaY 65 [v38])) λc _=>wK c0 c3 <| wK c0 c10 <| wK c5 c10 <| wK c0 G <| wK c5 G <| wK c0 c16 <| wK c5 c16 <| wK c0 ad <| wK c5 ad <| wK c0 c22 <| wK c5 c22 <| wK c3 c23 <| Q c) h
def S5:=(FaY 2 .n v26 λB _=>LdY .n B λw c13=>FaY 3 .n (FaY 1 .n a) λv30 _=>LdY .n v30 λv31 c16=>FaY 4 .n (FaY 1 .n a) λv _=>LdY .n v λv34 c19=>(Xf r c0 c3 c5 c10 c13 c16 c19 a c v22 e w v31 v34 · Q)) h
def Tp:=(CaY 64 [d,ArY .sub .n m (yi 1)] λi c5=>ArY .add .n (ArY .add .n (ys [112,111,105,110,116,101,114,32]) i) (ys [32]) λv22 _=>FaY 1 .n (FaY 1 .n a) λt _=>LdY .n t λe c10=>FaY 1 .n a λv26 _=>(S5 r c0 c3 c5 c10 a c v22 e v26 · Q)) h
def UQ:=(Ar .add v52 v56 λv57=>Q v57) h
def Wm:=(Ex 0 q λv48=>Ex 1 q λv49=>Ar .add (Ar .add (xs' [107,101,121,32]) v48) (xs' [32]) λv52=>Ld (Fa 9 a) λs=>Ca 65 [Bs 1 1 [I 0] [(0,1,s)]] λv56=>(UQ v52 v56 · Q)) h
def GM:=(Ca 66 [v46] λq=>(Wm a q · Q)) h
def EK:=(Ar .add (xs' [116,105,109,101,32]) (Ca 65 [Bs 1 1 [I 0] [(0,1,R)]]) λv64=>Q v64) h
def Uy:=(Q v75) h
def F8:=(Ld (Fa 0 v67) λU=>Ld (Fa 1 (Fa 10 a)) λv72=>Ar .add (xs' [115,105,122,101,32]) (Ca 65 [Bs 1 2 [I 0,I 0] [(0,1,U),(1,1,v72)]]) λv75=>(Uy v75 · Q)) h
def SA(c2 c3 c8 c9 c14 G:Rec)(c v89 ad:AV)(h:AH)(Q:QT):=(MvY .n (ArY .add .n v89 (CaY 65 [ad])) λc _=>wK c3 c8 <| wK c3 c14 <| wK c9 c14 <| wK c2 G <| wK c8 G <| Q c) h
def Qq:=(LdY .n v85 λv86 c8=>CaY 67 [v86,ys [110,111,114,109,97,108],ys [104,105,103,104]] λv87 c9=>ArY .add .n (ArY .add .n V v87) (ys [32]) λv89 _=>FaY 2 .n (FaY 12 .n a) λv91 _=>LdY .n v91 λv92 c14=>wdA (r+15) (ij 1 1 [I 0] [(0,1,v92)]) λv93 c15=>(SA c2 c3 c8 c9 c14 c15 c v89 v93 · Q)) h
def Pq:=(Ap 1 16 v106 (Bs 1 1 [.str []] [(0,1,v108)]) λv110=>Ar .add v102 (xi 1) λv111=>J .nrm [v110,S,W,v111] [v110]) h
def Gc:=(wI (Ar .lss v102 W) (Ln 4 (Ix 4 S v102) λv105=>Nw [I 0,I 0,.str [],.D] λz=>St 4 z v105 λ_=>Ca 68 [Ln 4 z] λv108=>(Pq S W v102 v5 v108 · J)) (J (.exit 1) [v5,S,W,v102] [v5])) h
def EV:=(Ca 69 [v5,xs' [32]] λv113=>Q v113) h
def WU:=(wX x ((EV v5 · Q)) [(1,(EV v5 · Q)),(0,Q (.str []))] (Q .undef)) h
def Fm:=(wdR 5 λr=>FaY 2 .n j λv123 _=>ArY .eql .n (LdY .n v123) (ArY .shl .n (yi 1) (MvY .n L)) λv127 _=>wI v127 (k [j,L,C,L]) (k [j,v9,C,L])) h
def S2:=(Ar .add L (xi 1) λv129=>J .nrm [j,v9,C,v129] [j,v9]) h
def E2:=(wI (Ar .lss L C) (wJ (Fm j v9 C L) (nJ4 S2 J)) (J (.exit 3) [j,v9,C,L] [j,v9])) h
def P0:=(MvY .n (ArY .add .n v150 v153) λc _=>wK c4 c14 <| wK c5 c14 <| wK c8 c14 <| wK c10 c14 <| wK c4 c16 <| wK c5 c16 <| wK c8 c16 <| wK c10 c16 <| wK c1 c17 <| wK c3 c17 <| wK c4 c22 <| wK c5 c22 <| wK c8 c22 <| wK c10 c22 <| wK c17 c22 <| wK c18 c22 <| Q c) h
def Q4:=(LdY .n v145 λv146 c16=>wdA (r+17) (ij 1 2 [I 0,I 0] [(0,1,v144),(1,1,v146)]) λv147 c17=>CaY 65 [v147] λv148 c18=>ArY .add .n (ArY .add .n v142 v148) (ys [32]) λv150 _=>FaY 5 .n j λv151 _=>LdY .n v151 λv152 c22=>CaY 70 [v152] λv153 _=>(P0 c1 c3 c4 c5 c8 c10 c14 c16 c17 c18 c22 v150 v153 · Q)) h
def O9:=(CaY 61 [] λv138 c8=>CaY 64 [v138,MvY .n v9] λv140 c10=>ArY .add .n (ArY .add .n v137 v140) (ys [32]) λv142 _=>FaY 3 .n j λv143 _=>LdY .n v143 λv144 c14=>FaY 4 .n j λv145 _=>(Q4 r c1 c3 c4 c5 c8 c10 c14 j v142 v144 v145 · Q)) h
def Hf:=(wdR 26 λr=>FaY 0 .n j λv130 _=>LdY .n v130 λv131 c1=>FaY 1 .n j λv132 _=>LdY .n v132 λv133 c3=>wdA (r+4) (ij 1 2 [I 0,I 0] [(0,1,v131),(1,1,v133)]) λv134 c4=>CaY 65 [v134] λv135 c5=>ArY .add .n (ArY .add .n (ys [97,99,99,101,115,115,32]) v135) (ys [32]) λv137 _=>(O9 r c1 c3 c4 c5 j v9 v137 · Q)) h
def Vf:=(wX x ((Hf j v9 · Q)) [(3,(Hf j v9 · Q)),(0,Q (.str []))] (Q .undef)) h
def SC:=(wL (nL4 E2) [j,v9,C,I 0] (nX2 Vf Q)) h
def pf:=(wI v77 (wdR 19 λr=>FaY 0 .n (FaY 12 .n a) λv79 _=>LdY .n v79 λv80 c2=>CaY 67 [v80,ys [108,105,103,104,116],ys [100,97,114,107]] λv81 c3=>ArY .add .n (ArY .add .n (ys [109,111,100,101,32]) v81) (ys [32]) λV _=>FaY 1 .n (FaY 12 .n a) λv85 _=>(Qq r c2 c3 a c V v85 · Q)) (wI (Ar .eql g (xi 6)) (Bs 1 1 [.str []] [(0,1,.str [97,114,103,115])] λv98=>Ld (Fa 15 a) λS=>Le S λW=>wL (nL4 Gc) [v98,S,W,I 0] (nX1 WU Q)) (wI (Ar .eql g (xi 7)) (Ln 6 (Fa 16 a) λv117=>Nw [I 0,I 0,I 0,I 0,I 0,.str []] λj=>St 6 j v117 λ_=>Le (Ca 61 []) λC=>(SC j (I (-1)) C · Q)) (wI (Ar .eql g (xi 8)) (Ar .add (xs' [99,111,109,112,111,115,101,32]) (Ca 71 [Ln 15 (Fa 22 a)]) λv160=>Q v160) (Q (.str [])))))) h
def g28:=(Bx K λa=>Ld (Fa 0 a) λg=>wI (Ar .eql g (xi 1)) (wdR 27 λr=>CaY 57 [] λd c0=>FaY 0 .n (FaY 1 .n a) λA _=>LdY .n A λm c3=>(Tp r c0 c3 a (.str []) d m · Q)) (wI (Ar .eql g (xi 2)) (Ln 2 (Fa 7 a) λv45=>Bs 2 1 [I 0,I 0] [(0,2,v45)] λv46=>(GM a v46 · Q)) (wI (Ar .eql g (xi 3)) (Ld (Fa 9 a) λR=>(EK R · Q)) (wI (Ar .eql g (xi 4)) (Fa 10 a λv67=>(F8 a v67 · Q)) (Ar .eql g (xi 5) λv77=>(pf a (.str []) g v77 · Q)))))) h
def qs:=(Pk P (EfG true P false [.bool,.bool,.int .i64] v41 (LnG true P 3 v42)) xf λv45=>k [c,b,v45]) h
def qF:=(wS (Pk u (EfG true u false [.int .i64,.int .i64] (LnG true u 2 v) (LnG true u 2 (FaG true u 10 b))) xf) λP=>LnG true P 3 (FaG true P 12 c) λv41=>FaG true P 12 b λv42=>(qs c b P v41 v42 · k)) h
def qC:=(wS (Pk m l xf) λe=>wS (Pk e (ArG true e .eql (LdG true e (FaG true e 9 c)) (LdG true e (FaG true e 9 b))) xf) λu=>FaG true u 10 c λv=>(qF c b u v · k)) h
def qt:=(wS (Pk o (EfG true o false [.int .i64,.int .i64,.int .i64,.int .i64,.int .i64,.int .i64] p (LnG true o 6 f)) xf) λm=>EfG true m false [.int .i64,.int .i64] (LnG true m 2 (FaG true m 7 c)) (LnG true m 2 (FaG true m 7 b)) λl=>(qC c b m l · k)) h
def pz:=(wS (Ar .eql (Ld (Fa 0 c)) (Ld (Fa 0 b))) λo=>LnG true o 6 (FaG true o 1 c) λp=>FaG true o 1 b λf=>(qt c b o p f · k)) h
def xG:=(Pk R (Cg true R 75 [v63,v65]) xf λv67=>Q v67) h
def yQ:=(wS (Pk s (Cg true s 73 [v56,(LdG true s (FaG true s 15 b)),(AV.func (.func 74) [] [])]) xf) λR=>LnG true R 15 (FaG true R 22 c) λv63=>LnG true R 15 (FaG true R 22 b) λv65=>(xG R v63 v65 · Q)) h
def x_:=(wS v5 λq=>wS (Pk q (EfG true q false [.int .i64,.int .i64,.int .i64,.int .i64,.int .i64,.str] (LnG true q 6 (FaG true q 16 c)) (LnG true q 6 (FaG true q 16 b))) xf) λs=>LdG true s (FaG true s 15 c) λv56=>(yQ c b s v56 · Q)) h
def g30:=(Bx K λc=>Bx a λb=>wJ (pz c b) (nJ3 x_ Q)) h
def yg:=(wS (Ar .lss a (xi 0)) λz=>Pk z xt (ArG false z .geq (qm false z a) (LeG false z (qm false z K))) λg=>k [K,a,g]) h
def GN:=(wI g (Q (.str [])) (Ld (Ix 1 K a) λM=>Q M)) h
def g64:=(wJ (yg K a) (nJ3 GN Q)) h
def UK:=(Ap 1 16 g (Bs 1 1 [.str []] [(0,1,f)]) λM=>Ar .add j (xi 1) λA=>J .nrm [M,H,z,A] [M]) h
def Ey:=(wI (Ar .lss j z) (Ca 99 [Ld (Ix 1 H j)] λf=>(UK H z j b f · J)) (J (.exit 0) [b,H,z,j] [b])) h
def Hq:=(Ca 69 [b,xs' [32]] λv19=>Q v19) h
def Vo:=(wX x ((Hq b · Q)) [(0,(Hq b · Q))] (Q .undef)) h
def g65:=(Le K λz=>wL (nL4 Ey) [.D,K,z,I 0] (nX1 Vo Q)) h
def Vs:=(J .ret [y,p,f,d] [.str [],I 1,y]) h
def SY:=(Ap 1 16 v22 (Bs 1 1 [.str []] [(0,1,t)]) λv26=>Ar .add d (xi 1) λB=>J .nrm [v26,p,f,B] [.undef,.undef,v26]) h
def Xc:=(Ca 101 [Ln 2 H] λt=>(SY p f d y t · J)) h
def H6:=(wI (Ar .lss d f) (Ln 2 (Ix 2 p d) λm=>Nw [I 0,I 0] λH=>St 2 H m λ_=>wI (Un .not (Ca 100 [Ln 2 H])) ((Vs y p f d · J)) ((Xc y H p f d · J))) (J (.exit 0) [y,p,f,d] [.undef,.undef,y])) h
def Hz:=(Ca 69 [y,xs' [32]] λv29=>Q (.tup [v29,I 0])) h
def EM:=(wX x ((Hz y · Q)) [(0,(Hz y · Q))] (Q (.tup [c,b]))) h
def g66:=(wI (Ar .gtr (Le K) (xi 3)) (Q (.tup [.str [],I 2])) (wI (Ar .eql (Le K) (xi 0)) (Q (.tup [.str [],I 1])) (Le K λf=>wL (nL4 H6) [.D,K,f,I 0] (nX3 EM Q)))) h
def g67:=(wI K (Q c) (Q a)) h
def WE:=(Ca 102 [A] λm=>Q m) h
def Wh:=(Ca 70 [v22] λl=>Q l) h
def Wo:=(Ap 1 16 v (Bs 1 1 [.str []] [(0,1,v35)]) λv37=>Ar .add v29 (xi 1) λv38=>J .nrm [v37,B,w,v38] [v37]) h
def Ib:=(wI (Ar .lss v29 w) (Ln 4 (Ix 4 B v29) λu=>Nw [I 0,I 0,.str [],.D] λv5=>St 4 v5 u λ_=>Ca 68 [Ln 4 v5] λv35=>(Wo B w v29 b v35 · J)) (J (.exit 1) [b,B,w,v29] [b])) h
def VU:=(Ar .add (Ar .add (xs' [91]) N) (xs' [93]) λv42=>Q v42) h
def Fj:=(Ca 69 [b,xs' [32]] λN=>(VU N · Q)) h
def Vq:=(wX x ((Fj b · Q)) [(1,(Fj b · Q)),(0,Q (.str []))] (Q .undef)) h
def Wt:=(Ld v26 λB=>Le B λw=>wL (nL4 Ib) [b,B,w,I 0] (nX1 Vq Q)) h
def g68:=(Bx K λa=>Ld (Fa 0 a) λz=>wI (Ar .eql z (xi 1)) (Ca 99 [Ld (Fa 1 a)] λg=>Q g) (wI (Ar .eql z (xi 2)) (Ar .eql (Ld (Fa 1 a)) (xi 1) λA=>(WE A · Q)) (wI (Ar .eql z (xi 3)) (Ld (Fa 2 a) λv22=>(Wh v22 · Q)) (wI (Ar .eql z (xi 4)) (Fa 3 a λv26=>(Wt .D v26 · Q)) (Q (.str [])))))) h
def Wl:=(Ar .add (Ar .add (xs' [34]) H) (xs' [34]) λj=>Q j) h
def Xg:=(Ca 105 [y,K] λH=>(Wl H · Q)) h
def g70:=(Ca 104 [Bs 1 6 [.str [],.str [],.str [],.str [],.str [],.str []] [(0,1,.str [92]),(1,1,.str [92,92]),(2,1,.str [34]),(3,1,.str [92,34]),(4,1,.str [10]),(5,1,.str [92,110])]] λy=>(Xg K y · Q)) h
def TH:=(Ar .add (xs' [99,111,109,109,105,116,32]) (Ca 70 [o0 (λh=>kX h .r2s [d])]) λm=>Q m) h
def Xm:=(Un .neg v λv34=>Ap 1 8 v31 (Bs 1 1 [I 0] [(0,1,v34)]) λT=>k [a,T,l,t,e]) h
def UG:=(Ap 1 8 v37 (Bs 1 1 [I 0] [(0,1,P)]) λv41=>k [a,v41,l,t,e]) h
def To:=(Ln 2 (Ix 2 l e) λw=>Nw [I 0,.bool false] λv5=>St 2 v5 w λ_=>wI (Ld (Fa 1 v5)) (Ld (Fa 0 v5) λv=>(Xm a l t e b v · k)) (Ld (Fa 0 v5) λP=>(UG a l t e b P · k))) h
def TW:=(Ar .add e (xi 1) λv42=>J .nrm [a,b,l,t,v42] [a,b]) h
def Gb:=(wI (Ar .lss e t) (wJ (To a b l t e) (nJ5 TW J)) (J (.exit 1) [a,b,l,t,e] [a,b])) h
def Wv:=(Ar .add (Ar .add (Ar .add (xs' [117,112,100,97,116,101,32]) v46) (xs' [32])) (Ca 65 [b]) λv51=>Q v51) h
def FM:=(Ld (Fa 1 a) λv44=>Ca 70 [o0 (λh=>kX h .r2s [v44])] λv46=>(Wv b v46 · Q)) h
def Xa:=(wX x ((FM a b · Q)) [(1,(FM a b · Q))] (Q .undef)) h
def VZ:=(Bs 1 1 [I 0] [(0,1,i)] λv21=>Ld (Fa 13 a) λl=>Le l λt=>wL (nL5 Gb) [a,v21,l,t,I 0] (nX2 Xa Q)) h
def g71:=(Bx K λa=>Ld (Fa 0 a) λz=>wI (Ar .eql z (xi 14)) (Q (.str [98,101,103,105,110])) (wI (Ar .eql z (xi 17)) (Q (.str [99,97,110,99,101,108])) (wI (Ar .eql z (xi 16)) (Ld (Fa 1 a) λd=>(TH d · Q)) (Ld (Fa 12 a) λi=>(VZ a i · Q))))) h
def VX:=(St 4 v9 e λ_=>wI (Un .not (Cw c [(Ln 4 j),(Ln 4 v9)])) (J .ret [a,c,d,M,A] [.bool false]) (Ar .add A (xi 1) λv31=>J .nrm [a,c,d,M,v31] [.undef])) h
def FI:=(wI (Ar .lss A M) (Ln 4 (Ix 4 d A) λv21=>Nw [I 0,I 0,.str [],.D] λj=>St 4 j v21 λ_=>Ln 4 (Ix 4 a A) λe=>Nw [I 0,I 0,.str [],.D] λv9=>(VX a c j v9 d M A e · J)) (J (.exit 0) [a,c,d,M,A] [.undef])) h
def G9:=(Q (.bool true)) h
def HO:=(wX x ((G9 · Q)) [(0,(G9 · Q))] (Q H)) h
def g73:=(wI (Ar .neq (Le K) (Le a)) (Q (.bool false)) (Le K λM=>wL (nL5 FI) [a,c,K,M,I 0] (nX1 HO Q))) h
def EH:=(wS (Ar .eql H (xi 0)) λj=>Pk j (Cg true j 106 [(LnG true j 4 c),(LnG true j 4 b)]) xf λg=>Q g) h
def g74:=(Bx K λc=>Bx a λb=>Ca 97 [Ln 4 c] λH=>(EH c b H · Q)) h
def ym:=(wS v19 λi=>Pk i xt (UnG false i .not (Cg false i 109 [(LdG false i (FaG false i 13 c)),(LdG false i (FaG false i 13 b))])) λB=>k [c,b,B]) h
def FP:=(wS (Un .not v10) λg=>Pk g xt (UnG false g .not (Cg false g 108 [(LnG false g 2 (FaG false g 2 c)),(LnG false g 2 (FaG false g 2 b))])) λv19=>(ym c b v19 · k)) h
def Tg:=(Ca 107 [Ld (Fa 1 c),Ld (Fa 1 b)] λv10=>(FP c b v10 · k)) h
def r8:=(Pk s (ArG true s .eql (LdG true s v55) (LdG true s (FaG true s 7 b))) xf λv60=>k [c,b,v60]) h
def r7:=(wS (Pk N v45 xf) λq=>wS (Pk q (EsG true q false (LdG true q (FaG true q 6 c)) (LdG true q (FaG true q 6 b))) xf) λs=>FaG true s 7 c λv55=>(r8 c b s v55 · k)) h
def sg:=(wS (Pk v (ArG true v .eql v35 (LdG true v T)) xf) λN=>ArG true N .eql (LdG true N (FaG true N 5 c)) (LdG true N (FaG true N 5 b)) λv45=>(r7 c b N v45 · k)) h
def qA:=(wS (Ar .eql (Ld (Fa 0 c)) (Ld (Fa 0 b))) λv=>LdG true v (FaG true v 4 c) λv35=>FaG true v 4 b λT=>(sg c b v v35 T · k)) h
def ql:=(wS v89 λv90=>Pk v90 (ArG true v90 .eql (LdG true v90 (FaG true v90 14 c)) (LdG true v90 (FaG true v90 14 b))) xf λv96=>Q v96) h
def qx:=(wS (Pk v76 (EfG true v76 false [.int .i64,.int .i64] v78 v80) xf) λV=>Pk V (ArG true V .eql (LdG true V (FaG true V 12 c)) (LdG true V (FaG true V 12 b))) xf λv89=>(ql c b v89 · Q)) h
def qE:=(wS (Pk U (ArG true U .eql v71 (LdG true U (FaG true U 9 b))) xf) λv76=>LnG true v76 2 (FaG true v76 10 c) λv78=>LnG true v76 2 (FaG true v76 10 b) λv80=>(qx c b v76 v78 v80 · Q)) h
def nZ:=(wS v5 λv62=>wS (Pk v62 (ArG true v62 .eql (LdG true v62 (FaG true v62 8 c)) (LdG true v62 (FaG true v62 8 b))) xf) λU=>LdG true U (FaG true U 9 c) λv71=>(qE c b U v71 · Q)) h
def FU:=(wI B (Q (.bool false)) (wJ (qA c b) (nJ3 nZ Q))) h
def g75:=(Bx K λc=>Bx a λb=>wJ (Tg c b) (nJ3 FU Q)) h
def uC:=(wS (qm true o v19) λi=>Pk o (PkG true o i xt (Cg false i 132 [(LdG false i (FaG false i 0 a))])) xf λe=>Q e) h
def ux:=(wS v10 λo=>ArG true o .geq (LdG true o (FaG true o 0 a)) (xi 1) λf=>wS (qm true o f) λd=>PkG true o d (ArG true d .leq (LdG true d (FaG true d 0 a)) (xi 23)) xf λv19=>(uC a o v19 · Q)) h
def tr:=(Bx K λa=>wS (Ar .geq (Ld (Fa 1 a)) (xi 0)) λH=>Pk H (ArG true H .leq (LdG true H (FaG true H 1 a)) (xi 15)) xf λv10=>(ux a v10 · Q)) h
end
section
variable {a b c:AV}{h:AH}{Q:QT}
theorem C17(G:g17 a h Q):ah prog 17 [a] h Q:=ax [(7,.l [4,13,14,15] [2,3,4]),(14,.jn [4,7,13,14,15,37])] func17 G
theorem C28(G:g28 a h Q):ah prog 28 [a] h Q:=ax [(24,.l [5,100,101,102] [5]),(38,.l [8,9,119,120] [8,9]),(41,.jn [8,9,119,120])] func28 G
theorem C30(G:g30 a b h Q):ah prog 30 [a,b] h Q:=ax [(1,.jn [2,3,5])] func30 G
theorem C64(G:g64 a b h Q):ah prog 64 [a,b] h Q:=ax [(1,.jn [0,1,12])] func64 G
theorem C65(G:g65 a h Q):ah prog 65 [a] h Q:=ax [(4,.l [3,6,7,8] [3])] func65 G
theorem C66(G:g66 a h Q):ah prog 66 [a] h Q:=ax [(10,.l [4,13,14,15] [2,3,4])] func66 G
theorem C67(G:g67 a b c h Q):ah prog 67 [a,b,c] h Q:=ax [] func67 G
theorem C68(G:g68 a h Q):ah prog 68 [a] h Q:=ax [(17,.l [3,27,28,29] [3])] func68 G
theorem C70(G:g70 a h Q):ah prog 70 [a] h Q:=ax [] func70 G
theorem C71(G:g71 a h Q):ah prog 71 [a] h Q:=ax [(15,.l [1,3,23,24,25] [1,3]),(18,.jn [1,3,23,24,25])] func71 G
theorem C73(G:g73 a b c h Q):ah prog 73 [a,b,c] h Q:=ax [(6,.l [1,2,15,16,17] [6])] func73 G
theorem C74(G:g74 a b h Q):ah prog 74 [a,b] h Q:=ax [] func74 G
theorem C75(G:g75 a b h Q):ah prog 75 [a,b] h Q:=ax [(1,.jn [2,3,27]),(4,.jn [2,3,5])] func75 G
end
theorem ahI{v0 h Q}(G:tr v0 h Q):ah prog 100 [v0] h Q:=ax [] func100 G
section
variable (x:AX)(c0 c2:Rec)(t b a u c d e f g:AV)(h:AH)(Q:QT)(k:NT)(J:KT)
def Rc:=(Ca 31 [a,Ar .add u (xs' [43])] λv=>k [b,a,c,d,e]) h
def Cf:=(Ld (Ix 1 c e) λi=>wdR 6 λr=>FaY 1 .n b λj _=>ArY .neq .n (ArY .and .n (LdY .n j) (ArY .shl .n (yi 1) (MvY .n e))) (yi 0) λl _=>wI l ((Rc b a i c d e · k)) (k [b,a,c,d,e])) h
def O1:=(Ar .add e (xi 1) λm=>J .nrm [b,a,c,d,m] [b,a]) h
def DM:=(wI (Ar .lss e d) (wJ (Cf b a c d e) (nJ5 O1 J)) (J (.exit 0) [b,a,c,d,e] [b,a])) h
def Rx:=(CaY 31 [a,LdY .n g] λw _=>wK c0 c2 <| k [a]) h
def PV:=(Ca 135 [a,Cv .i32 f] λy=>k [a]) h
def BB:=(wI (Ar .leq (Ld (Fa 0 b)) (xi 23)) (wdR 7 λr=>CaY 134 [] λo c0=>FaY 0 .n b λp _=>LdY .n p λq c2=>IxY 1 .n o (ArY .sub .n q (yi 1)) λg _=>(Rx c0 c2 a g · k)) (wI (Ar .eql (Ld (Fa 0 b)) (xi 32)) (Ca 31 [a,xs' [115,112,97,99,101]] λz=>k [a]) (Ld (Fa 0 b) λf=>(PV a f · k)))) h
def RH:=(Ca 32 [a] λs=>Q s) h
def Dl:=(wJ (BB b a) (nJ1 RH Q)) h
def QE:=(wX x ((Dl b a · Q)) [(0,(Dl b a · Q))] (Q .undef)) h
def YI:=(Bx t λb=>o0 (λh=>kX h (.nB 85 [.dh,.D]) []) λa=>Ca 133 [] λc=>Le c λd=>wL (nL5 DM) [b,a,c,d,I 0] (nX2 QE Q)) h
end
theorem ail{v0 h Q}(G:YI v0 h Q):ah prog 101 [v0] h Q:=ax [(4,.l [1,3,6,7,8] [1,3]),(7,.jn [1,3,6,7,8]),(13,.jn [3])] func101 G
def A4(G ad:AV)(h:AH)(Q:QT):=(Pk G ad xf λv17=>Q v17) h
def Ef(v2 G v6:AV)(h:AH)(Q:QT):=(wS (Ar .eql v6 (xi 0)) λv8=>wS (Pk v8 (ArG true v8 .eql (Cg true v8 97 [(LnG true v8 4 G)]) (xi 0)) xf) λv13=>Cg true v13 140 [(LnG true v13 4 v2),(LnG true v13 4 G)] λv16=>(A4 v13 v16 · Q)) h
def Ys(v0 G:AV)(h:AH)(Q:QT):=(Bx v0 λv2=>Bx G λv3=>Ca 97 [Ln 4 v2] λv6=>(Ef v2 v3 v6 · Q)) h
theorem ais{v0 v1 h Q}(G:Ys v0 v1 h Q):ah prog 106 [v0,v1] h Q:=ax [] func106 G
def DQ(v0 v1 G ad v19 v22:AV)(h:AH)(k:KT):=(ArY .neq .n v19 (LdY .n v22) λv24 _=>wI v24 (k .ret [v0,v1,G,ad] [.bool false]) (Ar .add ad (xi 1) λv25=>k .nrm [v0,v1,G,v25] [.undef])) h
def A7(v0 v1 ad G:AV)(h:AH)(k:KT):=(wI (Ar .lss G ad) (wdR 9 λr=>IxY 1 .n (MvY .n v0) (MvY .n G) λv18 _=>LdY .n v18 λv19 _=>IxY 1 .n (MvY .n v1) (MvY .n G) λv22 _=>(DQ v0 v1 ad G v19 v22 · k)) (k (.exit 0) [v0,v1,ad,G] [.undef])) h
def CY(h:AH)(Q:QT):=(Q (.bool true)) h
def Cp(x:AX)(G:AV)(h:AH)(Q:QT):=(wX x ((CY · Q)) [(0,(CY · Q))] (Q G)) h
def I8(v0 G:AV)(h:AH)(Q:QT):=(wI (Ar .neq (Le v0) (Le G)) (Q (.bool false)) (Le v0 λv12=>wL (nL4 A7) [v0,G,v12,I 0] (nX1 Cp Q))) h
theorem ah2{v0 v1 h Q}(G:I8 v0 v1 h Q):ah prog 107 [v0,v1] h Q:=ax [(6,.l [0,1,12,13] [4])] func107 G
section
variable (x:AX)(C H c a B q b l m d e f g i j o p:AV)(h:AH)(Q:QT)(k:NT)(J:KT)
def Bb:=(Pk b xt (ArG false b .neq (LeG false b (LdG false b l)) (LeG false b (LdG false b (FaG false b 1 a)))) λm=>k [c,a,m]) h
def BF:=(wS (Ar .neq (Le (Ld (Fa 0 c))) (Le (Ld (Fa 0 a)))) λb=>FaG false b 1 c λl=>(Bb c a b l · k)) h
def RG:=(J .ret [c,a,d,e,f] [c,a,.bool false]) h
def OP:=(Ar .add f (xi 1) λs=>J .nrm [c,a,d,e,s] [c,a,.undef]) h
def Be:=(wI (Ar .lss f e) (Ld (Ix 1 d f) λt=>Ld (Ix 1 (Ld (Fa 0 a)) f) λu=>wI (Ar .neq u t) ((RG c a d e f · J)) ((OP c a d e f · J))) (J (.exit 0) [c,a,d,e,f] [c,a,.undef])) h
def B4:=(IxY 2 .n o p λv _=>EfY true [.int .i64,.int .i64] .n (LnY 2 .n v) (LnY 2 .n q) λw _=>wI w (J .ret [a,g,i,j] [.bool false]) (Ar .add j (xi 1) λy=>J .nrm [a,g,i,y] [.undef])) h
def B7:=(wI (Ar .lss j i) (Ln 2 (Ix 2 g j) λz=>Nw [I 0,I 0] λq=>St 2 q z λ_=>wdR 7 λr=>FaY 1 .n a λA _=>LdY .n A λo _=>MvY .n j λp _=>(B4 a q g i j o p · J)) (J (.exit 2) [a,g,i,j] [.undef])) h
def DI:=(Q (.bool true)) h
def Dw:=(wX x ((DI · Q)) [(2,(DI · Q))] (Q B)) h
def Ee:=(Ld (Fa 1 c) λg=>Le g λi=>wL (nL4 B7) [a,g,i,I 0] (nX1 Dw Q)) h
def Co:=(wX x ((Ee c a · Q)) [(0,(Ee c a · Q))] (Q B)) h
def Dp:=(wI m (Q (.bool false)) (Ld (Fa 0 c) λd=>Le d λe=>wL (nL5 Be) [c,a,d,e,I 0] (nX3 Co Q))) h
def YH:=(Bx C λc=>Bx H λa=>wJ (BF c a) (nJ3 Dp Q)) h
end
theorem ah5{v0 v1 h Q}(G:YH v0 v1 h Q):ah prog 108 [v0,v1] h Q:=ax [(1,.jn [2,3,24]),(6,.l [2,3,26,27,28] [2,3,4]),(17,.l [3,42,43,44] [4])] func108 G
def Db(v0 v1 G ad v19 v22:AV)(h:AH)(k:KT):=(EfY true [.int .i64,.bool] .n v19 (LnY 2 .n v22) λv24 _=>wI v24 (k .ret [v0,v1,G,ad] [.bool false]) (Ar .add ad (xi 1) λv25=>k .nrm [v0,v1,G,v25] [.undef])) h
def A5(v0 v1 ad G:AV)(h:AH)(k:KT):=(wI (Ar .lss G ad) (wdR 9 λr=>IxY 2 .n (MvY .n v0) (MvY .n G) λv18 _=>LnY 2 .n v18 λv19 _=>IxY 2 .n (MvY .n v1) (MvY .n G) λv22 _=>(Db v0 v1 ad G v19 v22 · k)) (k (.exit 0) [v0,v1,ad,G] [.undef])) h
def DB(h:AH)(Q:QT):=(Q (.bool true)) h
def CH(x:AX)(G:AV)(h:AH)(Q:QT):=(wX x ((DB · Q)) [(0,(DB · Q))] (Q G)) h
def Jo(v0 G:AV)(h:AH)(Q:QT):=(wI (Ar .neq (Le v0) (Le G)) (Q (.bool false)) (Le v0 λv12=>wL (nL4 A5) [v0,G,v12,I 0] (nX1 CH Q))) h
theorem ahM{v0 v1 h Q}(G:Jo v0 v1 h Q):ah prog 109 [v0,v1] h Q:=ax [(6,.l [0,1,12,13] [4])] func109 G
def wN(G v29:AV)(h:AH)(Q:QT):=(Pk G v29 xf λv30=>Q v30) h
def wY(v2 v3 G v19 ad:AV)(h:AH)(Q:QT):=(wS (Pk G (ArG true G .eql v19 (LdG true G ad)) xf) λv24=>Cg true v24 73 [(LdG true v24 (FaG true v24 3 v2)),(LdG true v24 (FaG true v24 3 v3)),(AV.func (.func 140) [] [])] λv29=>(wN v24 v29 · Q)) h
def w_(v2 G v10 ad:AV)(h:AH)(Q:QT):=(wS (Pk v10 (ArG true v10 .eql (LdG true v10 ad) (LdG true v10 (FaG true v10 1 G))) xf) λv17=>LdG true v17 (FaG true v17 2 v2) λv19=>FaG true v17 2 G λv20=>(wY v2 G v17 v19 v20 · Q)) h
def Ym(v0 G:AV)(h:AH)(Q:QT):=(Bx v0 λv2=>Bx G λv3=>wS (Ar .eql (Ld (Fa 0 v2)) (Ld (Fa 0 v3))) λv10=>FaG true v10 1 v2 λv11=>(w_ v2 v3 v10 v11 · Q)) h
theorem ahy{v0 v1 h Q}(G:Ym v0 v1 h Q):ah prog 140 [v0,v1] h Q:=ax [] func140 G
def PH(v0 G:AV)(h:AH)(k:NT):=(wI G (o0 (λh=>kX h (.ni 9) [.str [115,116,114,105,110,103,115,46,78,101,119,82,101,112,108,97,99,101,114,58,32,111,100,100,32,97,114,103,117,109,101,110,116,32,99,111,117,110,116]]) λv7=>wF) (k [v0])) h
def Q3(v0:AV)(h:AH)(Q:QT):=(Ap 1 16 xl v0 λv9=>Bx (Bd [.int .u32 0,.int .i32 0,.int .u32 0,.bR,.D] [(4,1,v9)]) λv11=>Q v11) h
def Yl(v0:AV)(h:AH)(Q:QT):=(Ar .eql (Ar .rem (Le v0) (xi 2)) (xi 1) λv6=>wJ (PH v0 v6) (nJ1 Q3 Q)) h
theorem aip{v0 h Q}(G:Yl v0 h Q):ah prog 104 [v0] h Q:=ax [(2,.jn [0])] func104 G
section
variable (x:AX)(v0 y a e g c z v9 b d i p s t u l v w A m o:AV)(h:AH)(Q:QT)(k:NT)(J:KT)(Y:JT)
def PI:=(wS (Ar .eql (Le a) (xi 2)) λf=>Pk f (ArG true f .gtr (LsG true f (LdG true f (IxG true f 1 (qm true f a) (xi 0)))) (xi 1)) xf λs=>k [a,s]) h
def ab8:=(MvY .n t λy _=>Q y) h
def Qj:=(wI (Ar .neq u (xi 1)) (Y .nrm [.undef,a,.bool false,g]) (Y .nrm [.undef,a,e,g])) h
def Sw:=(wI (Ar .neq (Ls (Ld (Ix 1 a g))) (xi 1)) (Ca 182 [a] λU=>o0 (λh=>kX h (.ni 224) [U]) λV=>Y .ret [V,a,e,g]) (Ls (Ld (Ix 1 a (Ar .add g (xi 1)))) λu=>(Qj a e g u · Y))) h
def Qr:=(λh=>xs x (wk (aG h .add g (I 2)) (λW h=>J .nrm [a,e,W] [y,a,e] h)) (λj=>J (.exit j) [a,e,g] [y,a,e] h) (J .ret [a,e,g] [y,a,e] h)) h
def Ci:=(wI (Ar .lss g (Le a)) (wJx (Sw a e g) (nX4 Qr J)) (J (.exit 0) [a,e,g] [.undef,a,e])) h
def acU:=(wI (Ar .lss l (xi 256)) (Cv .u8 l λv66=>Ir 256 1 c l λv67=>St 1 v67 v66 λ_=>Ar .add l (xi 1) λv68=>J .nrm [a,c,v68] [a,c]) (J (.exit 2) [a,c,l] [a,c])) h
def adi:=(St 1 (Ir 256 1 c v9) v λ_=>Ar .sub z (xi 2) λv75=>J .nrm [a,c,v75] [c]) h
def aca:=(wI (Ar .geq z (xi 0)) (Is (Ld (Ix 1 a z)) (xi 0) λv80=>Is (Ld (Ix 1 a (Ar .add z (xi 1)))) (xi 0) λv=>(adi a c z v80 v · J)) (J (.exit 4) [a,c,z] [c])) h
def OO:=(o0 (λh=>kX h (.ni 227) [c]) λv90=>Q v90) h
def adz:=(wX x ((OO c · Q)) [(4,(OO c · Q))] (Q .undef)) h
def RU:=(Ar .sub (Le a) (xi 2) λv71=>wL (nL3 aca) [a,c,v71] (nX1 adz Q)) h
def aa5:=(wX x ((RU a c · Q)) [(2,(RU a c · Q))] (Q .undef)) h
def M4:=(wI o (Ld (Fa 256 b) λB=>Bs 1 1 [.int .u8 0] [(0,1,i)] λC=>o0 (λh=>kX h .b2s [C]) λH=>Ap 1 16 B (Bs 1 1 [.str []] [(0,1,H)]) λK=>Fa 256 b λL=>St 1 L K λ_=>k [a,b,d,i,p]) (k [a,b,d,i,p])) h
def N_:=(o0 (λh=>kX h .s2b [p]) λM=>Ir 256 1 (Fa 0 b) i λN=>St 1 N M λ_=>Ar .sub d (xi 2) λP=>J .nrm [a,b,P] [b]) h
def Qw:=(En .sl false (Ld (Ir 256 1 m A)) xl λo=>wJ (M4 a b d i p o) (nJ5 N_ J)) h
def Aw:=(wI (Ar .geq d (xi 0)) (Is (Ld (Ix 1 a d)) (xi 0) λq=>Ld (Ix 1 a (Ar .add d (xi 1))) λR=>Fa 0 b λm=>(Qw a b d q R q m · J)) (J (.exit 6) [a,b,d] [b])) h
def KQ:=(o0 (λh=>kX h (.ni 231) [b]) λS=>Q S) h
def MJ:=(wX x ((KQ b · Q)) [(6,(KQ b · Q))] (Q .undef)) h
def Pw:=(wL (nL3 Aw) [a,b,w] (nX1 MJ Q)) h
def KF:=(wI e (Bd Yx [] λv60=>Nw Yx λc=>St 256 c v60 λ_=>wL (nL3 acU) [a,c,I 0] (nX2 aa5 Q)) (Ar .quo (Le a) (xi 2) λv93=>Mk 1 16 [.str []] (I 0) v93 λv94=>Bd tw [(256,1,v94)] λv95=>Nw tw λb=>St 257 b v95 λ_=>Ar .sub (Le a) (xi 2) λw=>(Pw a b w · Q))) h
def MZ:=(wX x ((KF a e · Q)) [(0,(KF a e · Q))] (Q y)) h
def Oc:=(wI s (wdR 9 λr=>IxY 1 .n (MvY .n a) (yi 0) λv30 _=>LdY .n v30 λv31 _=>IxY 1 .n (MvY .n a) (yi 1) λv33 _=>CaY 181 [v31,LdY .n v33] λT _=>λh=>wdp h (kX h (.ni 222) [T]) (rdK (xRd (.ni 222) [T])) λt c7 h=>((ab8 t · Q)) h) (wL (nL3 Ci) [a,.bool true,I 0] (nX3 MZ Q))) h
def Yq:=(Ld (Fa 4 (Nc v0)) λv18=>wJ (PI v18) (nJ2 Oc Q)) h
end
theorem aij{v0 h Q}(G:Yq v0 h Q):ah prog 157 [v0] h Q:=ax [(2,.jn [3,28]),(8,.l [3,4,5] [2,3,4]),(11,.j [2,3,4,5]),(24,.l [3,6,61] [3,6]),(33,.l [3,6,8] [6]),(45,.l [3,11,12] [11]),(52,.jn [3,11,12,13,14])] func157 G
def PF(v0 G v4:AV)(h:AH)(Q:QT):=(St 1 (Fa 3 (Nc G)) v4 λ_=>St 1 (Fa 4 (Nc v0)) xl λ_=>Q (.tup [])) h
def Yv(v0:AV)(h:AH)(Q:QT):=(Ca 157 [v0] λv4=>(PF v0 v0 v4 · Q)) h
theorem aht{v0 h Q}(G:Yv v0 h Q):ah prog 139 [v0] h Q:=ax [] func139 G
set_option maxRecDepth 100000
section
variable (x:AX)(b a d j m c e g U u f i l p v w y V W z o q:AV)(h:AH)(Q:QT)(k:NT)(J:KT)
def Qm(b a d f i l p A:AV)(h:AH)(k:NT):=(MvY .n (ArY .add .n p A) λd _=>k [b,a,d,.bool true,f,i,l]) h
def QV:=(IsY .n y (yi 0) λv45 _=>FaY 0 .n (NcY .n w) λv47 _=>IrY 256 1 .n v47 v45 λv48 _=>ArY .mul .n v (ArY .sub .n (LeY .n (LdY .n v48)) (yi 1)) λA _=>(Qm b a d f i l p A · k)) h
def PE:=(Ld (Ix 1 f l) λC=>Ca 164 [a,C] λH=>wI (Ar .neq H (xi 0)) (wdR 14 λr=>MvY .n d λp _=>MvY .n H λv _=>MvY .n b λw _=>MvY .n C λy _=>(QV b a d f i l p v w y · k)) (k [b,a,d,j,f,i,l])) h
def Q2:=(Ar .add l (xi 1) λv54=>J .nrm [b,a,d,j,f,i,v54] [b,a,d,j]) h
def DY:=(wI (Ar .lss l i) (wJ (PE b a d j f i l) (nJ7 Q2 J)) (J (.exit 0) [b,a,d,j,f,i,l] [b,a,d,j])) h
def Ck:=(k [b,a,d,j]) h
def PW:=(wX x ((Ck b a d j · k)) [(0,(Ck b a d j · k))] (wF)) h
def PC:=(Ar .add V (Ar .sub (Le (Ld (Ir 256 1 z W))) (xi 1)) λv80=>k [b,a,v80,.bool true,m]) h
def CB:=(Is a m λK=>wI (En .sl true (Ld (Ir 256 1 (Fa 0 (Nc b)) K)) xl) (Fa 0 (Nc b) λz=>(PC b a m d K z · k)) (k [b,a,d,j,m])) h
def Qi:=(Ar .add m (xi 1) λv60=>J .nrm [b,a,d,j,v60] [b,a,d,j]) h
def B3:=(wI (Ar .lss m (Ls a)) (wJ (CB b a d j m) (nJ5 Qi J)) (J (.exit 2) [b,a,d,j,m] [b,a,d,j])) h
def CD:=(k [b,a,d,j]) h
def Nh:=(wX x ((CD b a d j · k)) [(2,(CD b a d j · k))] (wF)) h
def AA:=(wI u (Ld (Fa 256 (Nc b)) λf=>Le f λi=>wL (nL7 DY) [b,a,d,j,f,i,I 0] (nX4 PW k)) (wL (nL5 B3) [b,a,d,j,I 0] (nX4 Nh k))) h
def Qf(b a c e g o s t:AV)(h:AH)(k:NT):=(λh=>wde h (od h 1 s t) λL c10 h=>(MvY .n (ArY .add .n o L) λe _=>k [b,a,c,e,g]) h) h
def Qt:=(MvY .n e λM _=>vf 1 (some M) none none .n q λs _=>MvY .n b λN _=>MvY .n U λP _=>IrY 256 1 .n (FaY 0 .n (NcY .n N)) P λR _=>LdY .n R λt _=>(Qf b a c e g o s t · k)) h
def QC:=(Ar .add e (xi 1) λS=>k [b,a,c,S,g]) h
def Kr:=(Is a g λB=>wI (En .sl true (Ld (Ir 256 1 (Fa 0 (Nc b)) B)) xl) (wdR 13 λr=>MvY .n e λo _=>MvY .n c λq _=>(Qt b a c e g B o q · k)) (St 1 (Ix 1 c e) B λ_=>(QC b a c e g · k))) h
def MU:=(Ar .add g (xi 1) λv91=>J .nrm [b,a,c,e,v91] [c]) h
def KO:=(wI (Ar .lss g (Ls a)) (wJ (Kr b a c e g) (nJ5 MU J)) (J (.exit 4) [b,a,c,e,g] [c])) h
def Kt:=(o0 (λh=>kX h .b2s [c]) λT=>Q T) h
def N9:=(wX x ((Kt c · Q)) [(4,(Kt c · Q))] (Q .undef)) h
def KR:=(wI (Un .not j) (Q a) (Mk 1 1 [.int .u8 0] d d λv85=>wL (nL5 KO) [b,a,v85,I 0,I 0] (nX1 N9 Q))) h
def Yo:=(Ls a λv17=>Ar .leq (Ar .mul (Le (Ld (Fa 256 (Nc b)))) (xi 8)) (Ls a) λu=>wJ (AA b a v17 (.bool false) u) (nJ4 KR Q)) h
end
theorem aih{v0 v1 h Q}(G:Yo v0 v1 h Q):ah prog 251 [v0,v1] h Q:=ax [(4,.jn [0,1,5,6]),(7,.l [0,1,5,6,30,31,32] [0,1,5,6]),(10,.jn [0,1,5,6,30,31,32]),(20,.l [0,1,5,6,10] [0,1,5,6]),(23,.jn [0,1,5,6,10]),(37,.l [0,1,12,13,14] [12]),(40,.jn [0,1,12,13,14])] func251 G
end Go.Proofs.YtndpneieplopaaaGreatDoor
end
noncomputable section
namespace Go.St
open Go.Eng
open Go.Lib
def mX(c:UInt8):Str:=if c=92 then [92,92]else if c=34 then [92,34]else if c=10 then [92,110]else [c]
def bP:Str->Str
 |[]=>[]
 |c::s=>mX c++bP s
def wQ(s:Str):Str:=34::(bP s++[34])
def aW:List Str->Str
 |[]=>[]
 |w::r=>32::(w++aW r)
def cm:List Str->Str
 |[]=>[]
 |w::r=>w++aW r
mutual
def cI:Val->Str
 |.mk k n s l=>if k=1 then itoa n else if k=2 then(if n=1 then eI else ed)else if k=3 then wQ s else if k=4 then 91::(cm (aR l)++[93])else []
def aR:List Val->List Str
 |[]=>[]
 |v::r=>cI v::aR r
end
theorem L0(a b:Str):bP (a++b)=bP a++bP b:=by
 induction a with
 |nil=>rfl
 |cons c a G=>simp only[cp,bP,G,gr]
theorem Lb(a b:List Val):aR (a++b)=aR a++aR b:=by
 induction a with
 |nil=>simp[aR]
 |cons c a G=>simp[aR,G]
def spW(t:PS):Str:=if t.first=true then []else [32]
variable {s:Str}{p:Nat}{c:UInt8}
theorem yW(h:s[p]?=some c):s.drop p=c::s.drop (p+1):=by
 obtain⟨G,he⟩:=aL.1 h;rw[ig G,he]
variable {b:UInt8}{t:PS}
theorem um(h:(aD s b t).ok=true):t.ok=true/\s.drop t.pos=b::s.drop (aD s b t).pos/\(aD s b t).first=t.first:=by
 unfold aD at h ⊢;split at h
 ·rename_i G;rw[Z G];have hm:=G.1;unfold aO at hm;simp only[aI]at hm;exact⟨hm.1,yW G.2,rfl⟩
 cases h
theorem ue(s:Str)(t:PS):(bq s t).first=false:=by
 unfold bq;split
 ·rfl
 rename_i h;unfold aD;split<;>simpa using h
theorem ug(s:Str)(b:UInt8)(t:PS):(aD s b t).first=t.first:=by
 unfold aD;split<;>rfl
theorem J_(h:(bq s t).ok=true):t.ok=true/\s.drop t.pos=spW t++s.drop (bq s t).pos:=by
 unfold bq at h ⊢;unfold spW;split at h
 ·rename_i G;rw[Z G,Z G];exact⟨h,rfl⟩
 rename_i G;rw[O G,O G];obtain⟨h1,h2,_⟩:=um h;exact⟨h1,h2⟩
theorem aao(p:UInt8->Bool)(l:Str):l=l.takeWhile p++l.drop (l.takeWhile p).length:=by
 induction l with
 |nil=>rfl
 |cons a l ih=>
  by_cases G:p a=true
  ·rw[tL G,aF,tR,cp,<-ih]
  rw[vB G];rfl
variable {cl:Bool}
theorem AU(h:(dn s cl t).ok=true):t.ok=true/\s.drop t.pos=bX s cl t++s.drop (dn s cl t).pos/\bX s cl t≠[]/\(dn s cl t).first=t.first:=by
 unfold dn at h ⊢;simp only[aI,j7]at h;refine⟨h.1,?_,?_,rfl⟩
 ·simp only;rw[<-lB];exact aao _ _
 intro e;rw[e]at h;simp at h
theorem H?(s:Str)(t:PS):(bm s t).first=false:=ue s t
theorem KE(h:(bm s t).ok=true):t.ok=true/\s.drop t.pos=spW t++(b9 s t++s.drop (bm s t).pos)/\b9 s t≠[]:=by
 obtain⟨G,h2,h3,_⟩:=AU h;obtain⟨h4,h5⟩:=J_ G;exact⟨h4,by rw[h5,h2];rfl,h3⟩
theorem jE(h:(bK s t).ok=true):t.ok=true/\s.drop t.pos=spW t++(itoa (dB s t)++s.drop (bK s t).pos) /\ -bh<=dB s t/\dB s t<=bh:=by
 unfold bK at h ⊢;simp only[aI]at h;obtain⟨G,h2,h3⟩:=KE h.1;obtain⟨n,n1,n2,n3,n4⟩:=(rG _).1 h.2;unfold dB;rw[n4];exact⟨G,by rw[h2,n3],n1,n2⟩
theorem wh(s:Str)(t:PS):(bK s t).first=false:=ue s t
variable {l:List Str}{w:Str}
theorem Va(h:0<=idx l w):w=l.getD (idx l w).toNat []/\(idx l w).toNat<l.length:=by
 unfold idx at h ⊢;cases G:l.findIdx? (· == w)with
 |none=>rw[G]at h;simp at h
 |some i=>
  obtain⟨h1,h2,_⟩:=Jv.1 G;simp only[pU];refine⟨?_,h1⟩;rw[gF,bF h1];simpa using(eq_of_beq h2).symm
theorem rC(h:(bc s l t).ok=true):t.ok=true/\s.drop t.pos=spW t++(l.getD (bN s l t).toNat []++s.drop (bc s l t).pos)/\0<=bN s l t/\(bN s l t).toNat<l.length:=by
 unfold bc at h ⊢;simp only[aI,ck]at h;obtain⟨G,h2,h3⟩:=KE h.1;obtain⟨h4,h5⟩:=Va h.2;unfold bN;exact⟨G,by rw[<-h4,h2],h.2,h5⟩
theorem vT(s:Str)(l:List Str)(t:PS):(bc s l t).first=false:=ue s t
def bS(s:Str):Prop:=∀c∈s,c≠10
theorem aac(h:bS s)(G:s[p]?=some c):c≠10:=h c (cQ G)
theorem agM(h:jI c=true):mX (oE c)=[92,c]:=by
 unfold jI at h;simp only[iY,fR]at h;rcases h with(rfl|rfl)|rfl<;>rfl
theorem W2(hs:bS s):∀(n:Nat) (out:Str) (t:PS),(pQL s n out t).2.ok=true->t.ok=true/\(pQL s n out t).2.first=t.first/\∃x,(pQL s n out t).1=out++x/\s.drop t.pos=bP x++s.drop (pQL s n out t).2.pos
 |0,out,t,h=>⟨h,rfl,[],by simp[pQL],rfl⟩
 |n+1,out,t,h=>by
  unfold pQL at h ⊢;by_cases hm:aO s t=true
  ·rw[Z hm]at h ⊢;have ad:=hm;unfold aO at ad;simp only[aI,ck]at ad;obtain⟨c,hc⟩:∃c,s[t.pos]?=some c:=⟨s[t.pos],bF ad.2⟩;rw[hc]at h ⊢;simp only at h ⊢;by_cases af:c=34
   ·rw[Z af]at h ⊢;exact⟨h,rfl,[],by simp,rfl⟩
   rw[O af]at h ⊢;obtain⟨h1,h2,x,h3,G⟩:=W2 hs n _ _ h;refine⟨ad.1,?_,(pQ1 s c t).1::x,by rw[h3];simp,?_⟩
   ·rw[h2];unfold pQ1;split
    ·unfold fb;split
     ·split<;>rfl
     rfl
    rfl
   rw[yW hc];simp only[bP];generalize(pQL s n (out++[(pQ1 s c t).1]) (pQ1 s c t).2).2.pos=e at*;by_cases aj:c=92
   ·subst aj;unfold pQ1 at h1 G ⊢;rw[Z rfl]at h1 G ⊢;unfold fb at h1 G;unfold lj;by_cases al:aO s ⟨t.pos+1,t.first,t.ok⟩=true
    ·rw[Z al]at h1 G ⊢;have an:=al;unfold aO at an;simp only[aI,ck]at an;obtain⟨d,hd⟩:∃d,s[t.pos+1]?=some d:=⟨s[t.pos+1],bF an.2⟩;simp only[hd]at h1 G ⊢;rw[yW hd,G,agM h1];rfl
    rw[O al]at h1;cases h1
   have ao:=aac hs hc;unfold pQ1 at G ⊢;rw[O aj]at G ⊢;simp only at G ⊢;rw[G];unfold mX;rw[O aj,O af,O ao];rfl
  rw[O hm]at h ⊢;exact⟨h,rfl,[],by simp,rfl⟩
theorem abL(s:Str)(c:UInt8)(t:PS):(pQ1 s c t).2.first=t.first:=by
 unfold pQ1;split
 ·unfold fb;split
  ·split<;>rfl
  rfl
 rfl
theorem MW(s:Str):∀(n:Nat) (out:Str) (t:PS),(pQL s n out t).2.first=t.first
 |0,out,t=>rfl
 |n+1,out,t=>by
  unfold pQL;split
  ·split
   ·split
    ·rfl
    rw[MW s n,abL]
   rfl
  rfl
theorem ZQ(s:Str)(t:PS):(fk s t).first=t.first:=by
 unfold fk je;simp only[ug,MW]
theorem MH(hs:bS s)(h:(fk s t).ok=true):t.ok=true/\s.drop t.pos=wQ (ku s t)++s.drop (fk s t).pos/\validD (ku s t)=true/\(fk s t).first=t.first:=by
 unfold fk at h ⊢;simp only[aI]at h;obtain⟨h1,h2,h3⟩:=um h.1;unfold je at h1 h2 h3;obtain⟨h4,h5,x,h6,h7⟩:=W2 hs _ _ _ h1;obtain⟨h8,h9,G⟩:=um h4;unfold ku;refine⟨h8,?_,h.2,?_⟩
 ·rw[h9,h7];unfold wQ je;rw[h2,h6];simp
 unfold je;rw[h3,h5,G]
theorem KV(G:bS s)(h:(fY s t).ok=true):t.ok=true/\s.drop t.pos=spW t++(wQ (iv s t)++s.drop (fY s t).pos)/\validD (iv s t)=true:=by
 obtain⟨h1,h2,h3,_⟩:=MH G h;obtain⟨h4,h5⟩:=J_ h1;exact⟨h4,by rw[h5,h2];rfl,h3⟩
theorem w?(s:Str)(t:PS):(fY s t).first=false:=(ZQ s _).trans (ue s t)
def Jd(V:PS->Val×PS):Prop:=∀t:PS,t.first=false->(V t).2.first=false
def Yt(s:Str)(V:PS->Val×PS):Prop:=∀t:PS,t.first=false->(V t).2.ok=true->t.ok=true/\s.drop t.pos=cI (V t).1++s.drop (V t).2.pos
variable {V:PS->Val×PS}
theorem ZC(hV:Jd V):∀(n:Nat) (acc:List Val) (t:PS),t.first=false->(f_ s V n acc t).2.first=false
 |0,acc,t,G=>G
 |n+1,acc,t,G=>by
  unfold f_;split
  ·refine ZC hV n _ _ (hV _ ?_);split
   ·exact G
   rw[ug];exact G
  exact G
theorem J5(hF:Jd V)(hV:Yt s V):∀(n:Nat) (acc:List Val) (t:PS),t.first=false->(f_ s V n acc t).2.ok=true->t.ok=true/\∃l,(f_ s V n acc t).1=acc++l/\s.drop t.pos=(if acc=[]then cm (aR l)else aW (aR l))++s.drop (f_ s V n acc t).2.pos
 |0,acc,t,hf,h=>⟨h,[],by simp[f_],by simp[f_,aR,cm,aW]⟩
 |n+1,acc,t,hf,h=>by
  unfold f_ at h ⊢;by_cases hc:aO s t=true/\s[t.pos]?≠some 93
  ·rw[Z hc]at h ⊢;by_cases ha:acc=[]
   ·subst ha;simp only[bt,cD]at h ⊢;obtain⟨h1,l,h3,h4⟩:=J5 hF hV n _ _ (hF t hf) h;obtain⟨g1,g2⟩:=hV t hf h1;refine⟨g1,(V t).1::l,by rw[h3];simp,?_⟩;rw[g2,h4];simp[aR,cm]
   simp only[O ha]at h ⊢;have G:(aD s 32 t).first=false:=by rw[ug];exact hf
   obtain⟨h1,l,h3,h4⟩:=J5 hF hV n _ _ (hF _ G) h;obtain⟨g1,g2⟩:=hV _ G h1;obtain⟨g3,g4,_⟩:=um g1;refine⟨g3,(V (aD s 32 t)).1::l,by rw[h3];simp,?_⟩;rw[g4,g2,h4,O (by simp)];simp[aR,aW]
  rw[O hc]at h ⊢;exact⟨h,[],by simp,by simp[aR,cm,aW]⟩
theorem Kd(s:Str):∀k,Jd (fe s k)
 |0=>λt G=>G
 |k+1=>λt G=>by
  unfold fe;split
  ·split
   ·exact(ZQ s t).trans G
   split
   ·unfold iO n5;rw[ug];exact ZC (Kd s k) _ _ _ (by rw[ug];exact G)
   unfold jD dn;split
   ·exact G
   split
   ·exact G
   exact G
  exact G
theorem RJ(hs:bS s):∀k,Yt s (fe s k)
 |0=>λt _ h=>by cases h
 |k+1=>λt hf h=>by
  unfold fe at h ⊢;by_cases hm:aO s t=true
  ·rw[Z hm]at h ⊢;by_cases ad:s[t.pos]?=some 34
   ·rw[Z ad]at h ⊢;obtain⟨h1,h2,_⟩:=MH hs h;exact⟨h1,by rw[h2];simp[cI]⟩
   rw[O ad]at h ⊢;by_cases af:s[t.pos]?=some 91
   ·rw[Z af]at h ⊢;unfold iO at h ⊢;simp only at h ⊢;obtain⟨h1,h2,_⟩:=um h;unfold mE n5 at*;obtain⟨h3,l,h4,h5⟩:=J5 (Kd s k) (RJ hs k) _ _ _ (by rw[ug];exact hf) h1;obtain⟨h6,h7,_⟩:=um h3;refine⟨h6,?_⟩;rw[h7,h5,h2,h4];simp[cI]
   rw[O af]at h ⊢;simp only at h ⊢;unfold jD at h ⊢;unfold lP;by_cases ht:bX s true t=eI
   ·rw[Z ht]at h ⊢;obtain⟨h1,h2,_⟩:=AU h;rw[Z ht];exact⟨h1,by rw[h2,ht];simp[cI]⟩
   rw[O ht]at h ⊢;rw[O ht];by_cases G:bX s true t=ed
   ·rw[Z G]at h ⊢;obtain⟨h1,h2,_⟩:=AU h;rw[Z G];exact⟨h1,by rw[h2,G];simp[cI]⟩
   rw[O G]at h ⊢;rw[O G];simp only[aI]at h;obtain⟨h1,h2,_⟩:=AU h.1;obtain⟨n,n1,n2,n3,n4⟩:=(rG _).1 h.2;refine⟨h1,?_⟩;rw[h2];simp only[cI,bt];rw[n4,<-n3]
  rw[O hm]at h;cases h
theorem acd(G:bS s)(h:(gf s t).ok=true):t.ok=true/\s.drop t.pos=spW t++(cI (mf s (bq s t))++s.drop (gf s t).pos)/\gE (mf s (bq s t))=0:=by
 unfold gf at h ⊢;simp only[aI,fR]at h;obtain⟨h1,h2⟩:=RJ G 17 _ (ue s t) h.1;obtain⟨h3,h4⟩:=J_ h1;exact⟨h3,by rw[h4,h2];rfl,h.2⟩
theorem W?(s:Str)(t:PS):(gf s t).first=false:=Kd s 17 _ (ue s t)
theorem MV(hs:bS s):∀(n:Nat) (acc:List Val) (t:PS),t.first=false->(g_ s n acc t).2.ok=true->t.ok=true/\∃l,(g_ s n acc t).1=acc++l/\s.drop t.pos=aW (aR l)++s.drop (g_ s n acc t).2.pos/\∀v∈l,gE v=0
 |0,acc,t,hf,h=>⟨h,[],by simp[g_],by simp[g_,aR,aW],by simp⟩
 |n+1,acc,t,hf,h=>by
  unfold g_ at h ⊢;by_cases hm:aO s t=true
  ·rw[Z hm]at h ⊢;obtain⟨h1,l,h2,h3,h4⟩:=MV hs n _ _ (W? s t) h;obtain⟨g1,g2,g3⟩:=acd hs h1;refine⟨g1,mf s (bq s t)::l,by rw[h2];simp,?_,λv G=>?_⟩
   ·rw[g2,h3];simp[aR,aW,spW,hf]
   rcases cE.1 G with rfl|G
   ·exact g3
   exact h4 v G
  rw[O hm]at h ⊢;exact⟨h,[],by simp,by simp[aR,aW],by simp⟩
open Go.Eng
open Go.Lib
def atP(p:Nat):PS:=⟨p,false,true⟩
def YA(r:Str):Prop:=∀c,r.head?= some c->aH false c=false
variable {r:Str}
theorem Q1(h:s.drop p=c::r):p<s.length/\s[p]?=some c/\s.drop (p+1)=r:=by
 have G:p<s.length:=by
  have:=congrArg List.length h;rw[bW]at this;simp at this;omega
 have h2:s[p]?=some c:=by
  have:(s.drop p)[0]?=some c:=by rw[h];rfl
  rw[ew]at this;simpa using this
 refine⟨G,h2,?_⟩;rw[yW h2]at h;exact(List.cons.inj h).2
theorem abj(h:s.drop p=w++r):s.drop (p+w.length)=r:=by
 rw[<-lB,h];simp
variable {f:Bool}
theorem adx(h:p<s.length):aO s ⟨p,f,true⟩=true:=by
 unfold aO;simp[h]
theorem acp(h:s.drop p=b::r):aD s b ⟨p,f,true⟩=⟨p+1,f,true⟩:=by
 obtain⟨G,h2,_⟩:=Q1 h;unfold aD;rw[Z ⟨adx G,h2⟩]
theorem abB(h:s.drop p=32::r):bq s (atP p)=atP (p+1):=by
 unfold bq atP;rw[O (by simp)];exact acp h
theorem NM(q:UInt8->Bool):∀(w r:Str),(∀c∈w,q c=true)->(∀c,r.head?= some c->q c=false)->(w++r).takeWhile q=w
 |[],[],_,_=>rfl
 |[],c::r,_,h=>by
  have:=h c rfl;simp[this]
 |a::w,r,G,h2=>by
  have:=G a (by simp);rw[cp,tL this,NM q w r (λc hc=>G c (by simp[hc])) h2]
theorem acQ(h:s.drop p=w++r)(G:∀c∈w,aH cl c=true)(hn:w≠[])(hr:∀c,r.head?= some c->aH cl c=false):
  bX s cl ⟨p,f,true⟩=w/\dn s cl ⟨p,f,true⟩=⟨p+w.length,f,true⟩:=by
 have e:bX s cl ⟨p,f,true⟩=w:=by
  unfold bX;rw[h];exact NM _ _ _ G hr
 refine⟨e,?_⟩;unfold dn;rw[e];cases w with
 |nil=>exact absurd rfl hn
 |cons a w=>rfl
def bw(w:Str):Prop:=w≠[]/\∀c∈w,aH false c=true
theorem adF(h:s.drop p=32::(w++r))(G:bw w)(hr:YA r):
  b9 s (atP p)=w/\∃q,bm s (atP p)=atP q/\s.drop q=r:=by
 obtain⟨_,_,h3⟩:=Q1 h;obtain⟨g1,g2⟩:=acQ (f:=false) h3 G.2 G.1 hr;have e:=abB h;unfold b9 bm;rw[e];exact⟨g1,p+1+w.length,g2,abj h3⟩
theorem Ni(h:fv c=true):aH cl c=true:=by
 unfold fv at h;simp only[aI,ck]at h;have G:c≠32:=by rintro rfl;exact absurd h.1 (by decide)
 have h2:c≠93:=by rintro rfl;exact absurd h.2 (by decide)
 unfold aH;simp[G,h2]
theorem Aq(cl:Bool)(n:Int):itoa n≠[]/\∀c∈itoa n,aH cl c=true:=by
 unfold itoa;split
 ·refine⟨by simp,λc G=>?_⟩;rcases cE.1 G with rfl|G
  ·cases cl<;>rfl
  exact Ni (rZ _ c G)
 exact⟨so _,λc G=>Ni (rZ _ c G)⟩
variable {i:Nat}
theorem wq(h:s.drop p=32::(w++r))(G:bw w)(hi:idx l w=(i:Int))(hr:YA r):
  bN s l (atP p)=(i:Int)/\∃q,bc s l (atP p)=atP q/\s.drop q=r:=by
 obtain⟨g1,q,g2,g3⟩:=adF h G hr;unfold bN bc;rw[g1,g2,hi];refine⟨rfl,q,?_,g3⟩;unfold atP;simp
theorem Mw:∀x:Str,x.length<=(bP x).length
 |[]=>by simp[bP]
 |c::x=>by
  have:=Mw x;have h:1<=(mX c).length:=by unfold mX;(repeat' split)<;>simp
  simp only[bP,au,aF];omega
end Go.St
end
noncomputable section
namespace Go.Proofs.YtndpneieplopaaaGreatDoor
open Go.Eng Go.St Tryz
def rpO:List Str:=[[92],[92,92],[34],[92,34],[10],[92,110]]
def fG:LA:=rpO.map λs=>.str s
def rpC(f:Nat->AV)(lv:AV):LA:=(List.range 256).map f++[lv]
theorem nX(f:Nat->AV)(lv:AV):(rpC f lv).length=257:=by simp[rpC]
variable {c:Nat}
theorem qd(f:Nat->AV)(lv:AV)(h:c<256):(rpC f lv)[c]?=some (f c):=by
 unfold rpC;rw[i_,Z (by simp;exact h),cA,List.getElem?_range h];rfl
theorem rJ(f:Nat->AV)(lv:AV):(rpC f lv)[256]?=some lv:=by
 unfold rpC;rw[i_,O (by simp)];simp
theorem acF(f:Nat->AV)(lv v:AV)(h:c<256):aP (rpC f lv) c [v]=some (rpC (λi=>if i=c then v else f i) lv):=by
 have G:=nX f lv;rw[wH (by omega)];congr 1
 apply zO;intro i;have ad:(stN (rpC f lv) c [v]).length=257:=by rw[Dm (by simp;omega)];exact G
 by_cases hi:i<256
 ·rw[qd _ _ hi];unfold stN;by_cases h1:i<c
  ·rw[gr,i_,Z (by simp;omega),gN,Z h1,qd _ _ hi,ifn]
  rw[gr,i_,O (by simp;omega)];have e:(List.take c (rpC f lv)).length=c:=by simp;omega
  rw[e];by_cases h2:i=c
  ·subst h2;simp
  rw[O h2,i_,O (by simp;omega),ew];simp only[aF,bz];rw[show c+(0+1)+(i-c-(0+1))=i by omega,qd _ _ hi]
 by_cases h2:i=256
 ·subst h2;rw[rJ];unfold stN;rw[gr,i_,O (by simp;omega)];have e:(List.take c (rpC f lv)).length=c:=by simp;omega
  rw[e,i_,O (by simp;omega),ew];simp only[aF,bz];rw[show c+(0+1)+(256-c-(0+1))=256 by omega,rJ]
 rw[j_ (by omega),j_ (by rw[nX];omega)]
variable {n:Nat}
theorem adm(l:LA)(lv v:AV)(h:l.length=n):aP (l++[lv]) n [v]=some (l++[v]):=by
 rw[wH (by simp;omega)];congr 1
 unfold stN;rw[tV h,gp (by simp;omega)];simp
theorem NX(f:Nat->AV)(lv v:AV):aP (rpC f lv) 256 [v]=some (rpC f v):=adm _ _ _ (by rw[kK,List.length_range])
variable {f:Nat->AV}{lv:AV}
theorem abq(h:∀c,(f c).one=true)(G:lv.one=true):aM (rpC f lv)=true:=by
 unfold aM rpC;rw[List.all_append,aI];refine⟨fi.2 λx hx=>?_,by simp[G]⟩;obtain⟨c,_,rfl⟩:=eK.1 hx;exact h c
theorem P6:tw=rpC (λ_=>.D) .D:=by
 unfold rpC tw;rw[List.map_const',List.length_range,show(257:Nat)=256+1 from rfl,List.replicate_succ']
def by2(a b:Int):AV:=.psl [[.int .u8 a],[.int .u8 b]]
def rpF(m:Nat)(c:Nat):AV:=if c=92/\m=0 then by2 92 92 else if c=34/\m<=1 then by2 92 34 else if c=10/\m<=2 then by2 92 110 else .D
def rpT:List Str:=[[10],[34],[92]]
def rpR:LA:=rpC (rpF 0) (.psl (rpT.map λs=>[.str s]))
variable {h:AH}{id:Nat}
theorem q?{o:Nat}(G:c<256):gv h 256 1 (.ptr id o) (.int .u8 c)=some (.ptr id (o+c),h):=by
 have:(c:Int)<256:=by omega
 simp[gv,aix,hJ,kC,this]
variable {cs:LA}
theorem l!(hc:c<256)(G:c<=cs.length):gv h 256 1 (.ai cs) (.int .u8 c)=some (.ai (cs.drop c),h):=by
 have:(c:Int)<256:=by omega
 simp[gv,aix,hJ,kC,this,G]
inductive B1(h:AH)(k:Nat):Nat->List AV->AH->Prop
 |mk {m:Nat}:m<=3->B1 h k m [.rsl k 0 6 1,.bool (decide (m=3)),I (6-2*(m:Int))] h
inductive B2(h:AH)(k:Nat):Nat->List AV->AH->Prop
 |mk {m:Nat} {h':AH} (t:Nat) (cs:LA):m<=3->Fr h h'->h.nx+2<=h'.nx->h'.E (h.nx+1)=some (rpC (rpF m) (.rsl t 0 (3-m) 1))->h'.E t=some cs->cs.take (3-m)=(rpT.take (3-m)).map (λs=>.str s)->3-m<=cs.length/\(m<3->cs.length=3-m)->t≠h.nx+1->h.nx<=t->t<h'.nx->
   B2 h k m [.rsl k 0 6 1,.ptr (h.nx+1) 0,I (2*(m:Int)-2)] h'
variable {i:Nat}{s:Str}
theorem x5(h:rpO[i]?=some s):fG[i]?=some (.str s):=by
 unfold fG;rw[cA,h];rfl
theorem Du(m c:Nat)(v:AV)(G:(m=3/\c=10/\v=by2 92 110)\/(m=2/\c=34/\v=by2 92 34)\/(m=1/\c=92/\v=by2 92 92)):(λi=>if i=c then v else rpF m i)=rpF (m-1):=by
 funext i
 unfold rpF;rcases G with⟨rfl,rfl,rfl⟩|⟨rfl,rfl,rfl⟩|⟨rfl,rfl,rfl⟩
 ·by_cases h:i=10
  ·subst h;rfl
  simp[h]
 ·by_cases h:i=34
  ·subst h;rfl
  simp[h]
 by_cases h:i=92
 ·subst h;rfl
 simp[h]
variable {k m:Nat}{vs:LA}{h':AH}{K:AX->List AV->NT}
theorem E'{h:AH}(hk:h.E k=some fG)(a6:k<h.nx)(b:B2 h k (m+1) vs h')
  (hq:∀ao h2,B2 h k m ao h2->K .nrm ao [aa ao 1] h2):Aw (aa vs 0) (aa vs 1) (aa vs 2) h' K:=by
 obtain⟨t,cs,hm,fr,b0,hR,hT,ht,⟨b1,_⟩,b2,h1,h2⟩:=b;have aw:h'.E k=some fG:=(aV (fr.get k a6)).trans hk;obtain⟨c,w,i0,i1,hg,hs,a7,aS⟩:∃(c:UInt8) (w:Str) (i0 i1:Nat),(rpO[i0]?=some [c]/\rpO[i1]?=some w/\i0<6/\i1<6/\(2*((m+1:Nat):Int)-2=i0)/\i1=i0+1)/\(rpF (m+1) c.toNat =.D)/\
   (λi=>if i=c.toNat then .psl (w.map λd=>[.int .u8 d.toNat])else rpF (m+1) i)=rpF m/\(rpT.take (3-(m+1))++[[c]]=rpT.take (3-m)):=by
  have:m=0\/m=1\/m=2:=by omega
  rcases this with rfl|rfl|rfl
  ·exact⟨92,[92,92],0,1,⟨rfl,rfl,by omega,by omega,by omega,rfl⟩,rfl,Du 1 92 _ (.inr (.inr ⟨rfl,rfl,rfl⟩)),rfl⟩
  ·exact⟨34,[92,34],2,3,⟨rfl,rfl,by omega,by omega,by omega,rfl⟩,rfl,Du 2 34 _ (.inr (.inl ⟨rfl,rfl,rfl⟩)),rfl⟩
  exact⟨10,[92,110],4,5,⟨rfl,rfl,by omega,by omega,by omega,rfl⟩,rfl,Du 3 10 _ (.inl ⟨rfl,rfl,rfl⟩),rfl⟩
 obtain⟨g0,g1,l0,l1,e0,e1⟩:=hg;generalize hn:3-(m+1)=n at*;have aj:3-m=n+1:=by omega
 rw[aj]at aS;have a8:(0:Int)<=i0:=by omega
 have ix:∀(h:AH) (i:Nat),i<6->aC h 1 (.rsl k 0 6 1) (I i)=some (.ptr k i,h):=λh i hi=>by
  have:=gO (h:=h) (z:=1) (id:=k) (off:=0) (len:=6) (i:=(i:Int)) (by omega) (by omega);simpa using this
 have x0:=ix h' i0 l0;have x1:aC h' 1 (.rsl k 0 6 1) (I ((i0:Int)+1))=some (.ptr k i1,h'):=by
  have:=ix h' i1 l1;rwa [e1]at this ⊢
 have r0:=x5 g0;have r1:=x5 g1;have G:c.toNat<256:=c.toNat_lt;have s0:jl h' (.str [c]) (I 0)=some (.int .u8 c.toNat,h'):=dA (s:=[c]) (p:=0) rfl;have ia:∀H:AH,gv H 256 1 (.ptr (h.nx+1) 0) (.int .u8 c.toNat)=some (.ptr (h.nx+1) c.toNat,H):=λH=>by
  have:=q? (h:=H) (id:=h.nx+1) (o:=0) G;simpa using this
 have rg:=qd (rpF (m+1)) (.rsl t 0 n 1) G;rw[hs]at rg;have ba:lx h' .sl false .D .D=some (.bool true,h'):=rfl;rw[e0];simp(disch:=first|go_size|fail)[Aw,a8,x0,aw,r0,s0];rw[x1];simp[aw,r1,Qw,ia,hR,rg,ba];have rl:=rJ (rpF (m+1)) (.rsl t 0 n 1);have bb:aQ [AV.int .u8 0] [(0,1,.int .u8 c.toNat)]=some [.int .u8 c.toNat]:=rfl;have bd:aQ [AV.str []] [(0,1,.str [c])]=some [.str [c]]:=rfl;have bk:kX (h'.add (.cells [.int .u8 c.toNat])) .b2s [.rsl h'.nx 0 1 1]=some (.str [c],h'.add (.cells [.int .u8 c.toNat])):=xm (l:=[c]) cas;generalize ar:h'.add (.cells [.int .u8 c.toNat])=H1 at*;have av:H1.nx=h'.nx+1:=by rw[<-ar];simp
 generalize al:H1.add (.cells [.str [c]])=H2 at*;have ad:H2.nx=h'.nx+2:=by rw[<-al];simp[av]
 have gH:∀i,i<h'.nx->H2.H.get i=h'.H.get i:=λi hi=>by
  rw[<-al,gan,<-ar,gan]
 have cT:H2.E t=some cs:=(aV (gH t h2)).trans hT;have cN:H2.E (h'.nx+1)=some [.str [c]]:=by rw[<-al,<-av];exact cas
 have cR:H2.E (h.nx+1)=some (rpC (rpF (m+1)) (.rsl t 0 n 1)):=(aV (gH _ (by omega))).trans hR;have q1:cut cs 0 n=some (cs.take n):=by
  have:=cS (α:=cs.take n) (b:=cs.drop n) (n:=n) (by simp;omega);rwa [pV]at this
 have q2:cut [AV.str [c]] 0 1=some [.str [c]]:=rfl;have q3:aM [AV.str [c]]=true:=rfl;generalize af:(H2.kill t).add (.cells (cs.take n++[.str [c]]))=H3 at*;have aT:H3.nx=h'.nx+3:=by rw[<-af];simp[ad]
 have bp:H3.E (h.nx+1)=some (rpC (rpF (m+1)) (.rsl t 0 n 1)):=by
  rw[<-af,can (by simp[ad];omega)];exact(aV (by rw[my,ifn])).trans cR
 have a1:=NX (rpF (m+1)) (.rsl t 0 n 1) (.rsl (h'.nx+2) 0 (n+1) 1);refine⟨λvs h3=>vs=[.rsl k 0 6 1,.ptr (h.nx+1) 0,I i0,.int .u8 c.toNat,.str w]/\h3=H3.set (h.nx+1) (.cells (rpC (rpF (m+1)) (.rsl (h'.nx+2) 0 (n+1) 1))),?_,?_⟩
 ·simp[M4,hR,rl,bb,ar];rw[bk];simp(disch:=first|go_size|fail)[bd,al,av,cT,cN,q1,q2,q3,ad,af,bp,a1]
 rintro vs h3 ⟨rfl,rfl⟩;have bs:w.length<=1000000000:=by
  have bx:w∈rpO:=cQ g1;exact bf ((by decide:∀x∈rpO,x.length<=2) w bx) (by omega)
 have bY:∀H:AH,kX H .s2b [.str w]=some (.psl (w.map λc=>[.int .u8 c.toNat]),H):=λH=>by simp[kX,bs]
 have an:=acF (rpF (m+1)) (.rsl (h'.nx+2) 0 (n+1) 1) (.psl (w.map λc=>[.int .u8 c.toNat])) G;rw[a7]at an;simp(disch:=first|go_size|fail)[N_,bY,ia,an];have e2:(i0:Int)-2=2*(m:Int)-2:=by omega
 rw[e2];refine hq _ _ (.mk (h'.nx+2) (cs.take n++[.str [c]]) (by omega) ?_ ?_ ?_ ?_ ?_ ?_ ?_ ?_ ?_)
 ·refine((Fr.set ?_ (by omega) _).set (by omega) _);refine⟨by omega,λi hi=>?_⟩;rw[<-af,uz,O (by simp[ad];omega),my,ifn,gH i (by omega)];exact fr.get i hi
 ·simp[aT];omega
 ·rw[aj];exact cse
 ·rw[csn,csn,<-af];exact vQ _ _ _ (by simp[ad])
 ·rw[aj,<-aS,dH (by simp;omega),ht];simp
 ·rw[aj];simp;omega
 ·omega
 ·omega
 simp[aT]
theorem aaD(a b:Int)(H:AH):Frz H false (by2 a b) (by2 a b):=by
 unfold by2;refine Ae λy hy j c G=>?_
 simp only[cE,jN,lG]at hy;rcases hy with rfl|rfl<;>(match j with
  |0=>simp at G;subst G;exact .int _ _
  |j+1=>simp at G)
theorem N8(m c:Nat)(H:AH):Frz H false (rpF m c) (rpF m c):=by
 unfold rpF
 (repeat' split)<;>first|exact aaD _ _ _|exact .fo
theorem adt{h:AH}{id k:Nat}{a b c d:AV}(G:h.E id=some [a,b,c,d,.rsl k 0 6 1])(hk:h.E k=some fG)(a8:id<h.nx)(an:k<h.nx):ab prog 157 [.ptr id 0] h (.iface 231 (.ai rpR)) h:=by
 refine fU (aij ?_);have ix:∀(h:AH) (i:Nat),i<6->aC h 1 (.rsl k 0 6 1) (I i)=some (.ptr k i,h):=λh i hi=>by
  have:=gO (h:=h) (z:=1) (id:=k) (off:=0) (len:=6) (i:=(i:Int)) (by omega) (by omega);simpa using this
 simp[Yq,G];refine⟨λvs h'=>vs=[.rsl k 0 6 1,.bool false]/\h'=h,?_,?_⟩
 ·simp[PI]
 rintro vs h' ⟨rfl,rfl⟩;simp[Oc];refine⟨B1 h' k,3,.mk (by omega),?_⟩;rintro m vs h2 ⟨hm⟩;cases m with
 |zero=>
  simp[Ci,MZ];unfold KF;have ao:aQ tw [(256,1,.rsl h'.nx 0 0 1)]=some (rpC (λ_=>.D) (.rsl h'.nx 0 0 1)):=by
   rw[P6];simp[aQ,dG,AV.cells,NX]
  have ar:kz h' 1 16 [.str []] (I 0) (I 3)=some (.rsl h'.nx 0 0 1,h'.add (.cells [.str [],.str [],.str []])):=rfl;have av:=P6;generalize tw=bp at*;have al:aG h' .quo (I 6) (I 2)=some (I 3,h'):=rfl;simp[al,ar,ao];generalize ad:h'.add (.cells [.str [],.str [],.str []])=H1 at*;have af:H1.nx=h'.nx+1:=by rw[<-ad];simp
  have l1:=nX (λ_=>AV.D) (.rsl h'.nx 0 0 1);have o1:aM (rpC (λ_=>AV.D) (.rsl h'.nx 0 0 1))=true:=abq (λ_=>rfl) rfl;have s1:aP bp 0 (rpC (λ_=>AV.D) (.rsl h'.nx 0 0 1))=some (rpC (λ_=>AV.D) (.rsl h'.nx 0 0 1)):=iH (by rw[av,nX,nX]);simp[l1,o1,s1];have aw:B2 h' k 3 [.rsl k 0 6 1,.ptr (h'.nx+1) 0,I 4] ((H1.add (.cells bp)).set (h'.nx+1) (.cells (rpC (λ_=>.D) (.rsl h'.nx 0 0 1)))):=by
   have e:(rpF 3)=λ_=>AV.D:=by funext i;simp[rpF]
   refine .mk (m:=3) h'.nx [.str [],.str [],.str []] (by omega) ?_ ?_ ?_ ?_ rfl ⟨by omega,by omega⟩ (by omega) (by omega) ?_
   ·refine Fr.set ?_ (by omega) _;rw[<-ad];exact((Fr.refl h').add _).add _
   ·simp[af]
   ·rw[e];exact cse
   ·rw[csn,can,<-ad];exact cas
   simp[af];omega
  simp[Pw];refine⟨B2 h' k,3,aw,?_⟩;rintro m vs h3 b;cases m with
  |zero=>
   obtain⟨t,cs,ba,fr,bb,hR,hT,ht,⟨aj,hle⟩,bd,h1,HH⟩:=b;have hle:=hle (by omega);simp[Aw,MJ,KQ];have aS:kX h3 (.ni 231) [.ptr (h'.nx+1) 0]=some (.iface 231 (.ptr (h'.nx+1) 0),h3):=rfl;rw[aS];simp[];refine⟨.iface _ _ _ ?_,fr.nx,fr.get⟩;have aT:h3.E t=some (rpT.map λs=>.str s):=by
    rw[dH (by omega)]at ht;rw[hT,ht];rfl
   have hf:(fresh h3 h'.nx).E (h'.nx+1)=some (rpC (rpF 0) (.rsl t 0 3 1)):=by rw[tX (by omega)];exact hR
   refine .ptr _ _ _ _ hf (by rw[nX];simp[rpR,nX]) λi c d G hd=>?_
   rw[j4]at G;by_cases hi:i<256
   ·rw[qd _ _ hi]at G;unfold rpR at hd;rw[qd _ _ hi]at hd;cases G;cases hd;exact N8 _ _ _
   by_cases a1:i=256
   ·subst a1;rw[rJ]at G;unfold rpR at hd;rw[rJ]at hd;cases G;cases hd;exact o_ (l:=rpT) aT h1
   rw[j_ (by rw[nX];omega)]at G;cases G
  |succ m=>
   refine E' hk an b λbk h4 b'=>?_
   exact⟨m,by omega,b'⟩
 |succ m=>
  obtain⟨s0,s1,i0,i1,a6,a7,l0,l1,e0,e1,n0,n1⟩:∃(s0 s1:Str) (i0 i1:Nat),rpO[i0]?=some s0/\rpO[i1]?=some s1/\i0<6/\i1<6/\(6-2*((m+1:Nat):Int)=i0)/\i1=i0+1/\s0.length=1/\s1.length=2:=by
   have:m=0\/m=1\/m=2:=by omega
   rcases this with rfl|rfl|rfl
   ·exact⟨[10],[92,110],4,5,rfl,rfl,by omega,by omega,by omega,rfl,rfl,rfl⟩
   ·exact⟨[34],[92,34],2,3,rfl,rfl,by omega,by omega,by omega,rfl,rfl,rfl⟩
   exact⟨[92],[92,92],0,1,rfl,rfl,by omega,by omega,by omega,rfl,rfl,rfl⟩
  rw[e0];have aj:(i0:Int)<6:=by omega
  have x0:=ix h' i0 l0;have x1:aC h' 1 (.rsl k 0 6 1) (I ((i0:Int)+1))=some (.ptr k i1,h'):=by
   have:=ix h' i1 l1;rwa [e1]at this ⊢
  have r0:=x5 a6;have r1:=x5 a7;simp[Ci,aj];refine⟨λx vs h2=>x =.nrm/\vs=[.undef,.rsl k 0 6 1,.bool false,I i0]/\h2=h',?_,?_⟩
  ·simp(disch:=first|go_size|fail)[Sw,x0,hk,r0,n0];rw[x1];simp(disch:=first|go_size|fail)[hk,r1,n1,Qj]
  rintro x vs h2 ⟨rfl,rfl,rfl⟩;simp(disch:=first|go_size|fail)[Qr];refine⟨m,by omega,?_⟩;have b:=B1.mk (h:=h2) (k:=k) (m:=m) (by omega);rw[show decide (m=3)=false by simp;omega,show(6:Int)-2*(m:Int)=(i0:Int)+2 by omega]at b;exact b
theorem XB(G:h.E k=some cs)(hl:cs.length=4):gh h 4 (.ptr k 0)=some (.agg cs,h):=by
 have h1:cut cs 0 4=some cs:=by
  have:=cS (α:=cs) (b:=[]) (n:=4) hl;rwa [bO]at this
 simp[G,h1]
variable {z:LA}
theorem afK(G:z.length=4)(hl:cs.length=4)(ho:aM cs=true):aQ z [(0,4,.agg cs)]=some cs:=by
 obtain⟨a,b,c,d,rfl⟩:∃a b c d,cs=[a,b,c,d]:=by
  match cs,hl with
  |[a,b,c,d],_=>exact⟨a,b,c,d,rfl⟩
 obtain⟨a',b',c',d',rfl⟩:∃a b c d,z=[a,b,c,d]:=by
  match z,G with
  |[a,b,c,d],_=>exact⟨a,b,c,d,rfl⟩
 simp[aM]at ho;simp[aQ,aP,dG]
theorem Y0{ds:LA}(hc:h.E k=some ds)(hd:ds.length=4)(hl:cs.length=4)(G:aM cs=true):kSt h 4 (.ptr k 0) (.agg cs)=some (.undef,h.set k (.cells cs)):=by
 obtain⟨a,b,c,d,rfl⟩:∃a b c d,cs=[a,b,c,d]:=by
  match cs,hl with
  |[a,b,c,d],_=>exact⟨a,b,c,d,rfl⟩
 obtain⟨a',b',c',d',rfl⟩:∃a b c d,ds=[a,b,c,d]:=by
  match ds,hd with
  |[a,b,c,d],_=>exact⟨a,b,c,d,rfl⟩
 simp[aM]at G;simp[hc,G,aM,aP]
theorem aaw(n:Int)(_:True):ab prog 168 [I n] h (.bool (decide (-1099511627776<=n)&&decide (n<=1099511627776))) h:=by
 refine wv (ah1 ?_);by_cases q : -1099511627776<=n
 ·simp[I6,q]
 simp[I6,q]
def CU:Val->Bool
 |.mk k n s l=>iJ k n s l
theorem abm(v:Val)(_:True):ab prog 167 [.agg (vC v)] h (.bool (CU v)) h:=by
 obtain⟨k,n,s,l⟩:=v;refine nM (ahV ?_);simp only[vC,CU];generalize hL:vCs l=L at*;have af:L.length=l.length:=by rw[<-hL,gP]
 have ad:((L.length:Int)==0)=decide (l=[]):=by rw[af];cases l with
  |nil=>rfl
  |cons a b=>simp;omega
 simp[YL];have G:(h.add (.cells [I k,I n,.str s,.psl L])).E h.nx=some [I k,I n,.str s,.psl L]:=cas;have hn:h.nx<=(h.add (.cells [I k,I n,.str s,.psl L])).nx:=by simp
 have hg:∀i,i<h.nx->(h.add (.cells [I k,I n,.str s,.psl L])).H.get i=h.H.get i:=λi hi=>by rw[gan]
 generalize h.add (.cells [I k,I n,.str s,.psl L])=h1 at*;refine⟨λvs h'=>vs=[.ptr h.nx 0,I k,.bool (decide (k=1\/k=2))]/\h'=h1,?_,?_⟩
 ·by_cases q:k=1
  ·simp[D7,q]
  simp[D7,q];by_cases q2:k=2<;>simp[q2]
 rintro vs h' ⟨rfl,rfl⟩;unfold iJ;by_cases c1:k=1\/k=2
 ·rw[Z c1,eD c1];simp[xg];refine⟨λvs h2=>vs=[.bool (decide (s=[])&&decide (l.length=0))]/\h2=h',?_,?_⟩
  ·by_cases q:s=[]
   ·simp[De,G,q,Ej];exact ad
   simp[De,G,q,Ej]
  rintro vs h2 ⟨rfl,rfl⟩;simp[Py];exact⟨hn,hg⟩
 rw[O c1,dx c1];by_cases c2:k=3
 ·rw[Z c2];simp[xg,c2];refine⟨λvs h2=>vs=[.bool (decide (n=0)&&decide (l.length=0))]/\h2=h',?_,?_⟩
  ·by_cases q:n=0
   ·simp[D6,G,q,D4];exact ad
   simp[D6,G,q,D4]
  rintro vs h2 ⟨rfl,rfl⟩;simp[OA];exact⟨hn,hg⟩
 rw[O c2];by_cases c3:k=4
 ·rw[Z c3];simp[xg,c3];refine⟨λvs h2=>vs=[.bool (decide (n=0)&&decide (s=[]))]/\h2=h',?_,?_⟩
  ·have aj:List.isEmpty s=decide (s=[]):=by cases s<;>rfl
   by_cases q:n=0
   ·simp[DJ,G,q];exact aj
   simp[DJ,G,q]
  rintro vs h2 ⟨rfl,rfl⟩;simp[Su];exact⟨hn,hg⟩
 rw[O c3];simp[xg,c2,c3];exact⟨hn,hg⟩
theorem Il(t:Ty)(_:True):ab prog 171 [.agg (tC t)] h (.agg (tC (.l t))) h:=by
 refine fU (ahQ ?_);rw[bQ t];simp[YJ];refine⟨agL (FG rfl ?_ (by omega)),by omega,λi hi=>?_⟩
 ·rw[csn,bQ];exact cas
 rw[gsn,gan,gan,gan]
def YQ(t:Ty):Prop:=∀h:AH,ab prog 150 [.agg (tC t)] h (.agg (tC t)) h
variable {t:Ty}{Q:QT}
theorem agC(G:YQ t)(hq:Q (.agg (tC t)) h):tU prog 150 [.agg (tC t)] h Q:=sD (G h) hq
theorem TP:∀t,YQ t
 |.s k=>by
  intro h;refine fU (Yp ?_);have q1:¬h.nx=h.nx+1:=by omega
  simp[Jb,tC,Pg];refine⟨?_,by omega,λi hi=>?_⟩
  ·exact .D
  rw[gsn,gan,gan]
 |.l t=>by
  intro h;refine fU (Yp ?_);have e0:tC (.l t)=[I 4,.psl [tC t]]:=rfl;have G:∀(h:AH) (t:Ty),aC h 2 (.psl [tC t]) (I 0)=some (.ai (tC t),h):=λh t=>gQ (i:=0) rfl (sd t)
  have ad:∀(h:AH) (t:Ty),gh h 2 (.ai (tC t))=some (.agg (tC t),h):=λh t=>by rw[bQ];rfl
  have q1:¬h.nx=h.nx+1:=by omega
  rw[e0];simp[Jb,Px];rw[G];simp[ad];refine agC (TP t) ?_;refine sD (Il t trivial) ?_;rw[<-e0,bQ (.l t)];simp[];refine⟨?_,by omega,λi hi=>?_⟩
  ·exact((dW _ _ _ _).1 (lY (.l t) _)).2 1 _ _ rfl rfl
  rw[gsn,gan,gan]
theorem ahN(t:Ty)(_:True):ab prog 150 [.agg (tC t)] h (.agg (tC t)) h:=TP t h
