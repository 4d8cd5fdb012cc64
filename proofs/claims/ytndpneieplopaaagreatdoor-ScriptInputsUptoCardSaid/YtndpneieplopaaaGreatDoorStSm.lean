/- The program's examination: the join of types. -/
import Derived.Test.YtndpneieplopaaaGreatDoorStSa
set_option linter.unusedSimpArgs false
set_option linter.unusedVariables false
noncomputable section
namespace Go.Proofs.YtndpneieplopaaaGreatDoor
open Go.Eng Go.St Tryz
def Bq(a:Ty):Prop:=∀(h:AH) (b:Ty),ab prog 190 [.agg (tC a),.agg (tC b)] h (di a b) h
variable {h:AH}{Q:QT}
theorem agy{a:Ty}(q:Bq a){b:Ty}(r:Q (di a b) h):tU prog 190 [.agg (tC a),.agg (tC b)] h Q:=sD (q h b) r
theorem ZK{a:Ty}(U:∀t,a =.l t->Bq t):Bq a:=by
 intro h b;refine fU (ahO ?_);have A:=J3.start h [I (tyK a),.psl (tyO a)] [I (tyK b),.psl (tyO b)] [I 0,.D];rw[bQ a,bQ b];have P:¬h.nx=h.nx+1+1:=by omega
 have hn:=A.nx;have K:=A.get;have V:h.nx+1+1=h.nx+2:=rfl;by_cases B:tyK a=tyK b
 ·simp[Jq,P,B];rw[B]at A hn K;generalize((h.add (.cells [I (tyK b),.psl (tyO a)])).add (.cells [I (tyK b),.psl (tyO b)])).add (.cells [I 0,.D])=h1 at*;have q:=A.a;have hb:=A.b;have C:=A.r;have R:∀(o:bg) (i:Nat),i<h.nx->(h1.set (h.nx+1+1) o).H.get i=h.H.get i:=λo i hi=>by rw[gsn];exact K i hi
  cases a with
  |s x=>
   have M:x=tyK b:=B;have N:di (.s x) b =.tup [.agg (tC b),.bool true]:=by
    unfold di;cases b with
    |s y=>have:x=y:=M;simp[cF,this]
    |l y=>have:x=4:=M;simp[cF,this]
   rw[N];have o1:tyO (.s x)=[]:=rfl;rw[o1]at q;simp[w8,q,hb,C];refine⟨?_,by omega,R _⟩;rw[<-bQ];exact lY _ _
  |l x=>
   have M:4=tyK b:=B;rw[<-M]at q hb;have o0:tyO (.l x)=[tC x]:=rfl;rw[o0]at q;cases b with
   |s y=>
    have N:di (.l x) (.s y) =.tup [.agg (tC (.l x)),.bool true]:=by
     unfold di;have:y=4:=M.symm;simp[cF,this]
    rw[N];have o1:tyO (.s y)=[]:=rfl;rw[o1]at hb;simp[w8,q,hb,Dg,q,C];refine⟨?_,by omega,R _⟩;exact lY (.l x) _
   |l y=>
    have o1:tyO (.l y)=[tC y]:=rfl;rw[o1]at hb;have ad:=U x rfl;have S:∀(h:AH) (t:Ty),aC h 2 (.psl [tC t]) (I 0)=some (.ai (tC t),h):=λh t=>gQ (i:=0) rfl (sd t)
    have T:∀(h:AH) (t:Ty),gh h 2 (.ai (tC t))=some (.agg (tC t),h):=λh t=>by rw[bQ];rfl
    simp[w8,q,hb,Dg,q];rw[S];simp[hb,T];rw[S];simp[T,Pu];refine agy ad ?_;have W:cF (.l x) (.l y)=(cF x y).map .l:=rfl;have q1:¬h.nx+1+1=h1.nx+12:=by omega
    have q2:¬h1.nx+12=h.nx+1+1:=by omega
    have q4:¬h.nx=h1.nx+10:=by omega
    have q5:¬h.nx=h1.nx+13:=by omega
    have q6:¬h.nx=h1.nx+11:=by omega
    have q7:¬h.nx=h1.nx+12:=by omega
    cases hj:cF x y with
    |none=>
     rw[hj]at W;have e1:di x y =.tup [.agg [I 0,.psl []],.bool false]:=by unfold di;rw[hj];rfl
     have V:di (.l x) (.l y) =.tup [.agg (tC (.s 0)),.bool false]:=by unfold di;rw[W];rfl
     rw[e1,V];simp[];refine⟨by omega,by omega,?_⟩;simp[RN,C,q4];refine⟨?_,by omega,λi hi=>?_⟩
     ·have h0:=pn (fresh ((((AH.mk h1.H (h1.nx+15)).set (h1.nx+12) (.cells [I 0,.D])).set (h1.nx+12) (.cells [I 0,.psl []])).set (h.nx+1+1) (.cells [I 0,.D])) h.nx);rw[dW];cases h0 with
      |agg _ _ hl hc=>exact⟨hl,hc⟩
     rw[gsn,gsn,gsn];exact K i hi
    |some t=>
     rw[hj]at W;have e1:di x y =.tup [.agg [I (tyK t),.psl (tyO t)],.bool true]:=by unfold di;rw[hj,<-bQ];rfl
     have V:di (.l x) (.l y) =.tup [.agg (tC (.l t)),.bool true]:=by unfold di;rw[W];rfl
     rw[e1,V];simp[];refine⟨by omega,by omega,?_⟩;simp[PK];rw[<-bQ t];refine sD (Il t trivial) ?_;rw[bQ (.l t)];simp[C,q4];refine⟨?_,by omega,λi hi=>?_⟩
     ·exact((dW _ _ _ _).1 (lY (.l t) _)).2 1 _ _ rfl rfl
     rw[gsn,gsn,gsn];exact K i hi
 have af:cF a b=none:=by
  cases a with
  |s x=>cases b with
   |s y=>simp[cF];exact B
   |l y=>simp[cF];exact B
  |l x=>cases b with
   |s y=>simp[cF];exact λh=>B h.symm
   |l y=>exact absurd rfl B
 have N:di a b =.tup [.agg (tC (.s 0)),.bool false]:=by unfold di;rw[af];rfl
 rw[N];simp[Jq,P];generalize((h.add (.cells [I (tyK a),.psl (tyO a)])).add (.cells [I (tyK b),.psl (tyO b)])).add (.cells [I 0,.D])=h1 at*;have q:=A.a;have hb:=A.b;have C:=A.r;simp[w8,C,q,B];refine⟨?_,by omega,λi hi=>?_⟩
 ·have h0:=pn (fresh (h1.set (h.nx+1+1) (.cells [I 0,.D])) h.nx);rw[dW];cases h0 with
  |agg _ _ hl hc=>exact⟨hl,hc⟩
 rw[gsn];exact K i hi
theorem Mh:∀a,Bq a
 |.s k=>ZK λt h=>by cases h
 |.l t=>ZK λq h=>by cases h;exact Mh t
theorem acu(a b:Ty)(_:True):ab prog 190 [.agg (tC a),.agg (tC b)] h (di a b) h:=Mh a h b
def ju(ts:List Ty):LA:=(ts.map tC).flatten
theorem LK:∀ts:List Ty,(ju ts).length=ts.length*2
 |[]=>rfl
 |t::ts=>by
  have:=LK ts;unfold ju at this ⊢;simp only[da,oL,au,aF,sd,this];omega
theorem Ko:∀(ts:List Ty) (i:Nat) (t:Ty),ts[i]?=some t->cut (ju ts) (i*2) 2=some (tC t)
 |[],i,t,h=>by simp at h
 |u::ts,0,t,h=>by
  simp at h;subst h;unfold ju;simp only[da,oL,Nat.zero_mul];exact cS (sd u)
 |u::ts,i+1,t,h=>by
  have h1:=Ko ts i t (by simpa using h);have h2:=abP (cs:=ju (u::ts)) (a:=2) (n:=2) (i*2) (by rw[LK];simp;omega);have q:(ju (u::ts)).drop 2=ju ts:=by
   unfold ju;simp only[da,oL];rw[List.drop_left' (sd u)]
  rw[q,h1]at h2;rw[show(i+1)*2=2+i*2 by omega];exact h2.symm
def TSl(h:AH)(x:AV)(ts:List Ty):Prop:=(x =.D/\ts=[])\/∃k,x =.rsl k 0 ts.length 2/\ts≠[]/\k<h.nx/\h.E k=some (ju ts)
def zB(ts:List Ty):AV:=.tup [.agg (tC ((nT ts).getD (.s 0))),.bool (nT ts).isSome]
theorem adf(h:AH)(k n:Nat)(q:1<=n):kSl h 2 (.rsl k 0 n 2) (some (I 1)) none none=some (.rsl k 2 (n-1) 2,h):=by
 have q2:(1:Int)<=n:=by omega
 simp[kSl,mH,asl,cj,abd,hJ,q2]
structure TM(h hb h':AH)(k:Nat)(ts:List Ty)(u:Ty):Prop where
 r:h'.E h.nx=some [I 0,.D]
 t:h'.E (h.nx+1)=some (tC u)
 nx:h.nx+2<=h'.nx
 get:∀i,i<h.nx->h'.H.get i=h.H.get i
variable {hb h' h2:AH}{ts:List Ty}{u:Ty}
theorem TM.new{k:Nat}(m:TM h hb h' k ts u)(A:h'.nx<=h2.nx)(q:∀i,i<h'.nx->h2.H.get i=h'.H.get i):TM h hb h2 k ts u:=
 have n1:=m.nx
 ⟨by rw[aV (q _ (by omega))];exact m.r,by rw[aV (q _ (by omega))];exact m.t,by omega,λi hi=>by rw[q i (by omega)];exact m.get i hi⟩
theorem TM.set{k:Nat}(m:TM h hb h' k ts u)(v:Ty):TM h hb (h'.set (h.nx+1) (.cells (tC v))) k ts v:=
 ⟨by rw[csn];exact m.r,cse,m.nx,λi hi=>by rw[gsn];exact m.get i hi⟩
inductive CIx(h:AH)(k:Nat)(ts:List Ty)(R:Option Ty):Nat->List AV->AH->Prop
 |mk {h':AH} (i:Nat) (u:Ty) (hm:TM h h h' k ts u) (hi:i<=ts.length) (hR:jJ (ts.drop i) u=R):CIx h k ts R (ts.length-i) [.ptr h.nx 0,.ptr (h.nx+1) 0,.rsl k 2 ts.length 2,I ts.length,I i] h'
theorem ahh{h:AH}(x:AV)(ts:List Ty)(hx:TSl h x ts/\ts.length<=1000):ab prog 170 [x] h (zB ts) h:=by
 refine fU (ahC ?_);obtain⟨hx,hlen⟩:=hx;rcases hx with⟨rfl,rfl⟩|⟨k,rfl,aj,hk,T⟩
 ·simp[Jp];refine⟨?_,λi hi=>by rw[gsn,gan]⟩;exact kU (by
   refine .agg _ _ rfl λi c d S hd=>?_
   match i with
   |0=>simp[nT,tC]at S hd;subst S;subst hd;exact .int _ _
   |1=>simp[nT,tC]at S hd;subst S;subst hd;exact .D
   |i+2=>simp at S) (.bool _)
 cases ts with
 |nil=>exact absurd rfl aj
 |cons t0 ts=>
 have al:¬((ts.length:Int)+1=0):=by omega
 have U:ts.length<=1000:=by simp at hlen;omega
 have W:∀h:AH,aC h 2 (.rsl k 0 (ts.length+1) 2) (I 0)=some (.ptr k 0,h):=λh=>gO (by omega) (by omega)
 have K:=Ko (t0::ts) 0 t0 rfl;rw[Nat.zero_mul]at K;have an:∀h:AH,kSl h 2 (.rsl k 0 (ts.length+1) 2) (some (I 1)) none none=some (.rsl k 2 ts.length 2,h):=λh=>adf h k (ts.length+1) (by omega)
 have hq:¬k=h.nx:=by omega
 simp[Jp,al];rw[W];simp[T,K,hq];rw[bQ t0];have ba:¬k=h.nx+1:=by omega
 simp[an];have ao:TM h h (((h.add (.cells [I 0,.D])).add (.cells [I 0,.D])).set (h.nx+1) (.cells [I (tyK t0),.psl (tyO t0)])) k ts t0:=by
  refine⟨?_,by rw[bQ];exact cse,by simp,λi hi=>?_⟩
  ·rw[csn,can];exact cas
  rw[gsn,gan,gan]
 generalize((h.add (.cells [I 0,.D])).add (.cells [I 0,.D])).set (h.nx+1) (.cells [I (tyK t0),.psl (tyO t0)])=h1 at*;simp[PJ];have ar:zB (t0::ts) =.tup [.agg (tC (((jJ ts t0).map .l).getD (.s 0))),.bool (jJ ts t0).isSome]:=by
  unfold zB nT;simp
 rw[ar];generalize hR:jJ ts t0=R at*;refine⟨CIx h k ts R,ts.length,?_,?_⟩
 ·exact .mk 0 t0 ao (by omega) (by simpa using hR)
 rintro m vs h' hI;cases hI with
 |mk i u hm hi q=>
 have hn:=hm.nx;have ht:=hm.t;have hr:=hm.r;rw[bQ u]at ht;by_cases av:i<ts.length
 ·have C:(i:Int)<ts.length:=by omega
  obtain⟨t,V⟩:∃t,ts[i]?=some t:=⟨ts[i],bF av⟩;have P:ts.drop i=t::ts.drop (i+1):=by
   obtain⟨U,aw⟩:=aL.1 V;rw[ig U,aw]
  have M:=Ko (t0::ts) (i+1) t (by simpa using V);rw[show(i+1)*2=2+i*2 by omega]at M;have ad:h'.E k=some (ju (t0::ts)):=by rw[aV (hm.get k hk)];exact T
  have aS:∀h:AH,aC h 2 (.rsl k 2 ts.length 2) (I i)=some (.ptr k (2+i*2),h):=λh=>by
   have:=gO (h:=h) (z:=2) (id:=k) (off:=2) (len:=ts.length) (i:=(i:Int)) (by omega) (by omega);rwa [pU]at this
  simp[B_,C];rw[aS];simp[ad,M];rw[bQ t];have q1:¬h.nx+1=h'.nx:=by omega
  simp[ht,q1];rw[<-bQ t,<-bQ u];refine sD (acu u t trivial) ?_;have eR:di u t =.tup [.agg (tC ((cF u t).getD (.s 0))),.bool (cF u t).isSome]:=rfl;rw[eR];have aT:∀i,i<h'.nx->((h'.add (.cells [I 0,.D])).set h'.nx (.cells (tC t))).H.get i=h'.H.get i:=λi hi=>by
   rw[gsn,gan]
  have B:=hm.new (h2:=(h'.add (.cells [I 0,.D])).set h'.nx (.cells (tC t))) (by simp) aT;generalize(h'.add (.cells [I 0,.D])).set h'.nx (.cells (tC t))=h2 at*;have A:=B.set ((cF u t).getD (.s 0));have N:=B.t;have a1:=B.r;rw[bQ u]at N;rw[P]at q;have eA:jJ (t::ts.drop (i+1)) u=match cF u t with|some v=>jJ (ts.drop (i+1)) v|none=>none:=rfl
  rw[eA]at q;cases hj:cF u t with
  |none=>
   rw[hj]at q A;have a6:R=none:=q.symm;subst a6;have e0:tC ((none:Option Ty).getD (.s 0))=[I 0,.psl []]:=rfl;rw[e0]at A ⊢;simp[];have q2:¬h.nx=h.nx+1:=by omega
   simp[CJ,N,a1,CK];have bb:=B.nx;refine⟨agL (pn _),by omega,λi hi=>?_⟩;rw[gsn,gsn];exact B.get i hi
  |some v=>
   rw[hj]at q A;have af:jJ (ts.drop (i+1)) v=R:=q;have e0:tC ((some v).getD (.s 0))=tC v:=rfl;rw[e0]at A ⊢;rw[bQ v];simp(disch:=first|go_size|fail)[CJ,N];rw[bQ v]at A;exact⟨ts.length-(i+1),by omega,.mk (i+1) v A (by omega) af⟩
 have C:¬(i:Int)<ts.length:=by omega
 have a7:i=ts.length:=by omega
 rw[a7,tT]at q;have a8:R=some u:=q.symm;subst a8;simp[B_,C,CK,Cb,ht];rw[<-bQ u];refine sD (Il u trivial) ?_;rw[bQ (.l u)];simp[hr];refine⟨?_,by omega,λi hi=>by rw[gsn];exact hm.get i hi⟩;exact((dW _ _ _ _).1 (lY (.l u) _)).2 1 _ _ rfl rfl
open Go.RowKit
variable {own:Nat->Prop}{β:Bl}{w:World}{g i:Nat}{cs:LA}{z:Int}
theorem Kl(A:aB own β h.H h.nx w)(B:h.H.get g=some (.dN g cs)){k:IntKind}(r:cs[i]?=some (.int k z)):w.cell? ⟨g,i,none⟩=some (.int k z):=by
 obtain⟨cur,e,M,h1,h2,C⟩:=A.I0 B;have q:i<cur.size:=by rw[<-h2];exact(aL.1 r).1
 have:=C i _ cur[i] r (by simp[q]);generalize K:cur[i]=x at this;cases this;rw[Lib.cell_of_heap h1];simp[q,K]
theorem N4(q:aB own β h.H h.nx w)(r:GJ h):Lib.Utf8Tabs 1 2 w:=by
 refine⟨λc A=>?_,λi hi=>?_⟩
 ·exact Kl q r.at1 (by rw[cA,LO c A];rfl)
 obtain⟨h1,h2⟩:=P1 i hi;exact⟨Kl q r.at2 (by rw[cA,h1];rfl),Kl q r.at2 (by rw[cA,h2];rfl)⟩
theorem aeM(s:Str)(r:GJ h)(B:s.length<=1000000000):ab prog 169 [.str s] h (.bool (Lib.validD s)) h:=by
 refine ab.lib afF λown β wd cargs hs A=>?_
 obtain⟨u,rfl,hu⟩:=rR A;cases hu;have q:(⟨s.toArray⟩:ByteArray).size=s.length:=by simp[ByteArray.size]
 refine(aiA ⟨s.toArray⟩ wd (by rw[q];omega) (N4 hs r)).mono ?_;rintro e w' ⟨rfl,hb⟩;exact⟨_,rfl,.bool _,hb⟩
def pck(d:Int)(v:Val)(m:Int):Int×Ty×Int:=Go.St.chk d v m
def ny(d:Int)(l:List Val)(m:Int)(ts:List Ty):Int×List Ty×Int:=Go.St.ea d l m ts
def ckP(d:Int)(v:Val)(m:Int):AV:=.tup [.agg (tC (pck d v m).2.1),I (pck d v m).1]
def u3(d:Int):Prop:=∀(h:AH) (v:Val) (m:Int) (id:Nat),GJ h->8<=id->id<h.nx->h.E id=some [I m]->(0<=m/\m<=1000)->ab prog 149 [.agg (vC v),I d,.ptr id 0] h (ckP d v m) (h.set id (.cells [I (pck d v m).2.2]))
variable {d m:Int}{v:Val}{id:Nat}
theorem Xu(r:u3 d)(q:GJ h/\8<=id/\id<h.nx/\h.E id=some [I m])(A:0<=m/\m<=1000)(B:Q (ckP d v m) (h.set id (.cells [I (pck d v m).2.2]))):tU prog 149 [.agg (vC v),I d,.ptr id 0] h Q:=
 sD (r h v m id q.1 q.2.1 q.2.2.1 q.2.2.2 A) B
structure K3(h h':AH)(id:Nat)(a:LA)(m:Int):Prop where
 a:h'.E h.nx=some a
 r:h'.E (h.nx+1)=some [I 0,.D]
 ob:Ob h h' id [I m]
 nx:h.nx+2<=h'.nx
 gj:GJ h'
variable {a:LA}
theorem K3.new(k:K3 h h' id a m)(A:id<h.nx)(C:8<=h.nx)(B:h'.nx<=h2.nx)(q:∀i,i<h'.nx->h2.H.get i=h'.H.get i):K3 h h2 id a m:=
 have n1:=k.nx
 ⟨by rw[aV (q _ (by omega))];exact k.a,by rw[aV (q _ (by omega))];exact k.r,k.ob.new A B q,by omega,
  k.gj.mG (λi hi=>q i (by omega)) (by omega)⟩
variable {b:Nat}
theorem K3.low(k:K3 h h' id a m)(B:id<h.nx)(C:8<=h.nx)(hb:h.nx+2<=b)(A:h'.nx<=h2.nx)(q:∀i,i<b->h2.H.get i=h'.H.get i):K3 h h2 id a m:=
 have n1:=k.nx
 ⟨by rw[aV (q _ (by omega))];exact k.a,by rw[aV (q _ (by omega))];exact k.r,
  ⟨by rw[aV (q _ (by omega))];exact k.ob.c,bf k.ob.nx A,λi h1 h2=>by rw[q i (by omega)];exact k.ob.get i h1 h2⟩,by omega,
  k.gj.mG (λi hi=>q i (by omega)) (by omega)⟩
theorem K3.cnt(k:K3 h h' id a m)(A:id<h.nx)(q:8<=id)(n:Int):K3 h (h'.set id (.cells [I n])) id a n:=
 ⟨by rw[csn];exact k.a,by rw[csn];exact k.r,k.ob.set _,k.nx,k.gj.set q⟩
def PQ(h:AH)(id:Nat)(r:Int×Ty×Int):QT:=λv h'=>Frz (fresh h' h.nx) false v (.tup [.agg (tC r.2.1),I r.1])/\Ob h h' id [I r.2.2]
variable {h1:AH}{j:Nat}
theorem _root_.Go.Eng.Ob.vA(o:Ob h h1 id cs)(r:id<h.nx)(A:h.nx<=j)(q:bg):Ob h (h1.set j q) id cs:=
 ⟨by rw[csn];exact o.c,o.nx,λi h1 h2=>by rw[gsn];exact o.get i h1 h2⟩
theorem K3.fail(k:K3 h h' id a m)(q:id<h.nx)(e:Int):PQ h id (e,.s 0,m) (.tup [.agg [I 0,.D],I e]) (h'.set (h.nx+1) (.cells [I 0,.D])):=
 ⟨kU (pn _) (.int _ _),k.ob.vA q (by omega) _⟩
theorem ace(d:Int)(v:Val)(m:Int)(h:(pck d v m).1=0):m<=(pck d v m).2.2/\(pck d v m).2.2<=1000:=by
 rcases Kv v d m with⟨h1,h2,q⟩|⟨h1,_⟩
 ·have:=Ku (d+1) v m h2;unfold pck;rw[q];exact this
 exact absurd h h1
def pF(R:Int×List Ty×Int):Int×Ty×Int:=if R.1≠0 then(R.1,.s 0,R.2.2)else match nT R.2.1 with
 |none=>(5,.s 0,R.2.2)
 |some t=>(0,t,R.2.2)
theorem aeS(d k n:Int)(s:Str)(l:List Val)(m:Int):pck d (.mk k n s l) m=if k=4/\16<=d then(8,.s 0,m)
  else if iJ k n s l=false then(9,.s 0,m+1)
  else if kZ k n=true then(1,.s 0,m+1)
  else if 2000<s.length\/100<l.length\/1000<m+1 then(2,.s 0,m+1)
  else if Lib.validD s=false then(3,.s 0,m+1)
  else if k≠4 then(0,.s k,m+1)else pF (ny (d+1) l (m+1) []):=by
 unfold pck ny pF;rw[Go.St.chk];rfl
inductive KIx(h hb:AH)(id:Nat)(a:List AV)(d:Int)(l:List Val)(L:List (List AV))(R:Int×List Ty×Int):Nat->List AV->AH->Prop
 |mk {h':AH} (i:Nat) (m:Int) (lv:AV) (ts:List Ty) (hk:K3 h h' id a m) (hnb:hb.nx<=h'.nx) (ol:OL 2 hb h' lv ts.length (ju ts)) (hi:i<=l.length) (hm:0<=m/\m<=1000) (hR:ny (d+1) (l.drop i) m ts=R) (ht:ts.length<=i):
  KIx h hb id a d l L R (l.length-i) [I d,.ptr id 0,.ptr (h.nx+1) 0,lv,.psl L,I L.length,I i] h'
variable {s:Str}{l:List Val}{L:List (LA)}
theorem V!{n:Int}{U:AH}(A:id<h.nx)(h8:8<=id)(hL:vCs l=L)(hd:0<=d/\d<=15)(hm:0<=m/\m<=1000)
  (C:u3 (d+1)) (hK:K3 h U id [I 4,I n,.str s,.psl L] m) (b5:l.length<=100):
  CX (I d) (.ptr id 0) (.ptr (h.nx+1) 0) .D (.ptr h.nx 3) U (PQ h id (pF (ny (d+1) l m []))):=by
 have b6:L.length=l.length:=by rw[<-hL,gP]
 have aS:=hK.nx;have aT:=hK.a;simp[CX,aT];generalize hR:ny (d+1) l m []=R at*;refine⟨KIx h U id [I 4,I n,.str s,.psl L] d l L R,l.length,?_,?_⟩
 ·exact .mk 0 m .D [] hK (ay _) (OL.start _ _ _) (by omega) hm (by simpa using hR) (by simp)
 rintro N vs h' hI;cases hI with
 |mk i m lv ts V b7 ol hi hm q ht=>
 have hn:=V.nx;by_cases a1:i<l.length
 ·have K:(i:Int)<L.length:=by omega
  obtain⟨v,hv⟩:∃v,l[i]?=some v:=⟨l[i],bF a1⟩;have a6:L[i]?=some (vC v):=by rw[<-hL,qH,cA,hv];rfl
  have a7:∀h:AH,aC h 4 (.psl L) (I i)=some (.ai (vC v),h):=λh=>gQ (i:=i) a6 (ch v)
  have S:cut (vC v) 0 4=some (vC v):=by
   have:=cS (α:=vC v) (b:=[]) (n:=4) (ch v);rwa [bO]at this
  have M:=jd v;have W:=ch v;have T:l.drop i=v::l.drop (i+1):=by
   obtain⟨a8,ba⟩:=aL.1 hv;rw[ig a8,ba]
  rw[T]at q;have eS:ny (d+1) (v::l.drop (i+1)) m ts=if(pck (d+1) v m).1≠0 then((pck (d+1) v m).1,ts,(pck (d+1) v m).2.2)else ny (d+1) (l.drop (i+1)) (pck (d+1) v m).2.2 (ts++[(pck (d+1) v m).2.1]):=by
   unfold ny pck;rw[Go.St.ea]
  rw[eS]at q;have ad:=ace (d+1) v m;have ca:kSt (h'.add (.cells [I 0,I 0,.str [],.D])) 4 (.ptr h'.nx 0) (.agg (vC v))=some (.undef,(h'.add (.cells z4)).set h'.nx (.cells (vC v))):=Y0 (ds:=z4) cas rfl W M;simp[CO,K];rw[a7];simp(disch:=first|go_size|fail)[S,M,W];have af:∀i,i<h'.nx->((h'.add (.cells [I 0,I 0,.str [],.D])).set h'.nx (.cells (vC v))).H.get i=h'.H.get i:=λi hi=>by rw[gsn,gan]
  have P:=V.new (h2:=(h'.add (.cells [I 0,I 0,.str [],.D])).set h'.nx (.cells (vC v))) A (by omega) (by simp) af;have bb:OL 2 U ((h'.add (.cells [I 0,I 0,.str [],.D])).set h'.nx (.cells (vC v))) lv ts.length (ju ts):=ol.aY (by simp) λi _ hi=>af i hi
  have av:((h'.add (.cells [I 0,I 0,.str [],.D])).set h'.nx (.cells (vC v))).nx=h'.nx+1:=by simp
  generalize(h'.add (.cells [I 0,I 0,.str [],.D])).set h'.nx (.cells (vC v))=h5 at*;refine Xu C ⟨P.gj,h8,by omega,P.ob.c⟩ hm ?_;have bd:ckP (d+1) v m =.tup [.agg (tC (pck (d+1) v m).2.1),I (pck (d+1) v m).1]:=rfl;rw[bd];generalize pck (d+1) v m=r at*;obtain⟨e,t,c⟩:=r;simp only at q ad ⊢;have aj:=P.cnt A h8 c;have bk:OL 2 U (h5.set id (.cells [I c])) lv ts.length (ju ts):=bb.set (by omega) _;have b4:(h5.set id (.cells [I c])).nx=h'.nx+1:=by simpa using av
  generalize h5.set id (.cells [I c])=B at*;rw[bQ t];have q1:¬h.nx+1=B.nx:=by omega
  have bp:=aj.r;have al:∀i,i<B.nx->((B.add (.cells [I 0,.D])).set B.nx (.cells [I (tyK t),.psl (tyO t)])).H.get i=B.H.get i:=λi hi=>by rw[gsn,gan]
  have an:=aj.new (h2:=(B.add (.cells [I 0,.D])).set B.nx (.cells [I (tyK t),.psl (tyO t)])) A (by omega) (by simp) al;have bs:OL 2 U ((B.add (.cells [I 0,.D])).set B.nx (.cells [I (tyK t),.psl (tyO t)])) lv ts.length (ju ts):=bk.aY (by simp) λi _ hi=>al i hi
  have aw:((B.add (.cells [I 0,.D])).set B.nx (.cells [I (tyK t),.psl (tyO t)])).nx=B.nx+1:=by simp
  by_cases he:e=0
  ·simp[Ek,he];rw[O (by simp[he])]at q;have cb:=ad he;obtain⟨bx,cc,ao,bY,cd,b0⟩:=kt (bytes:=32) (tc:=[I (tyK t),.psl (tyO t)]) bs (by omega) rfl rfl (by omega) (by omega);rw[aw]at ao;rw[ao];simp(disch:=first|go_size|fail)[Rk];refine⟨l.length-(i+1),by omega,?_⟩;have e1:ju (ts++[t])=ju ts++[I (tyK t),.psl (tyO t)]:=by unfold ju;rw[<-bQ t];simp
   refine .mk (i+1) c bx (ts++[t]) (an.low A (by omega) aS (by omega) b0) (by omega) ?_ (by omega) (by omega) q (by rw[au,dP];omega);rw[e1,au,dP];exact bY
  simp[Ek,he,q1,bp];rw[Z he]at q;subst q;have hF:pF (e,ts,c)=(e,.s 0,c):=by unfold pF;rw[Z he]
  rw[hF];simp[DX];exact an.fail A e
 have K:¬(i:Int)<L.length:=by omega
 have b1:i=l.length:=by omega
 rw[b1,tT]at q;have eN:ny (d+1) [] m ts=(0,ts,m):=by unfold ny;rw[Go.St.ea]
 rw[eN]at q;subst q;simp[CO,K,DX,Dc];have hT:TSl h' lv ts:=by
  rcases ol with⟨rfl,h2,h3⟩|⟨k,rfl,ar,cf,b2,b3,hlen⟩
  ·exact .inl ⟨rfl,fQ h2⟩
  exact .inr ⟨k,rfl,λe=>by rw[e]at ar;simp at ar,b2,b3⟩
 refine sD (ahh lv ts ⟨hT,by omega⟩) ?_;have hr:=V.r;have q1:¬h.nx+1=h'.nx:=by omega
 unfold zB pF;simp only[ne_eq,zN,bH];cases hc:nT ts with
 |none=>
  have e0:tC ((none:Option Ty).getD (.s 0))=[I 0,.psl []]:=rfl;rw[e0];simp[Eh,hr,q1];have C:=V.new (h2:=(h'.add (.cells [I 0,.D])).set h'.nx (.cells [I 0,.psl []])) A (by omega) (by simp) λi hi=>by rw[gsn,gan]
  exact C.fail A 5
 |some t=>
  have e0:tC ((some t).getD (.s 0))=tC t:=rfl;rw[e0,bQ t];simp[Eh,hr,q1];have C:=V.new (h2:=(h'.add (.cells [I 0,.D])).set h'.nx (.cells [I (tyK t),.psl (tyO t)])) A (by omega) (by simp) λi hi=>by rw[gsn,gan]
  exact⟨kU (by rw[<-bQ];exact Rn _ _) (.int _ _),C.ob.vA A (by omega) _⟩
def bw(k n:Int):Bool:=decide (k=1) && !(decide (-1099511627776<=n)&&decide (n<=1099511627776))
theorem ab6(k n:Int):kZ k n=(bw k n||(decide (k=2)&&decide (n≠0)&&decide (n≠1))):=rfl
theorem Lp(S:0<=d/\d<=16)(U:d<=15->u3 (d+1)):u3 d:=by
 rintro h ⟨k,n,s,l⟩ m id hg h8 hid K hm;refine rL (R:=PQ h id (pck d (.mk k n s l) m)) hid (λH=>⟨.int _ _,trivial⟩) (ahL ?_) λv' h' h1=>h1
 rw[aeS];simp only[vC];generalize V:vCs l=L at*;have ad:L.length=l.length:=by rw[<-V,gP]
 have T:K3 h ((h.add (.cells [I k,I n,.str s,.psl L])).add (.cells [I 0,.D])) id [I k,I n,.str s,.psl L] m:=by
  refine⟨?_,cas,?_,by simp,(hg.add _).add _⟩
  ·rw[can];exact cas
  refine⟨?_,by simp;omega,λi h1 h2=>by rw[gan,gan]⟩;rw[can (by simp;omega),can];exact K
 simp[YX];generalize((h.add (.cells [I k,I n,.str s,.psl L])).add (.cells [I 0,.D]))=h1 at*;have B:=T.a;have M:=T.r;have N:=T.ob.c;refine⟨λvs h'=>vs=[I d,.ptr id 0,.ptr h.nx 0,.ptr (h.nx+1) 0,.bool (decide (k=4)&&decide (16<=d))]/\h'=h1,?_,?_⟩
 ·by_cases q:k=4
  ·simp[C5,B,q]
  simp[C5,B,q]
 rintro vs h' ⟨rfl,rfl⟩;by_cases c1:k=4/\16<=d
 ·rw[Z c1];simp[K4,c1,M];exact T.fail hid 8
 rw[O c1];have e1:(decide (k=4)&&decide (16<=d))=false:=by simp only[pW,jx];omega
 rw[e1];have A:=T.cnt hid h8 (m+1);have af:=A.a;have hq:¬h.nx=id:=by omega
 simp(disch:=first|go_size|fail)[K4,N,B,hq];generalize h'.set id (.cells [I (m+1)])=h2 at*;have hv:AV.agg [I k,I n,.str s,.psl L] =.agg (vC (.mk k n s l)):=by rw[vC,V]
 rw[hv];refine sD (abm (.mk k n s l) trivial) ?_;have B:=A.a;have M:=A.r;have N:=A.ob.c;have eF:CU (.mk k n s l)=iJ k n s l:=rfl;rw[eF];cases c2:iJ k n s l
 ·simp(disch:=first|go_size|fail)[Df,M];exact A.fail hid 9
 simp only[vP,bH];simp[Df];refine⟨λvs W=>vs=[I d,.ptr id 0,.ptr h.nx 0,.ptr (h.nx+1) 0,.bool (bw k n)]/\W=h2,?_,?_⟩
 ·unfold bw;by_cases q:k=1
  ·simp[D_,B,q];refine sD (aaw n trivial) ?_;simp[D9]
  simp[D_,B,q,D9]
 rintro vs W ⟨rfl,rfl⟩;simp[MR];refine⟨λvs h4=>vs=[I d,.ptr id 0,.ptr h.nx 0,.ptr (h.nx+1) 0,.bool (kZ k n)]/\h4=W,?_,?_⟩
 ·rw[ab6];cases q:bw k n
  ·simp[Eg,B];by_cases q2:k=2
   ·by_cases q3:n=0
    ·simp[q2,q3,BA]
    simp[q2,q3,BA,B];by_cases q4:n=1<;>simp[q4]
   simp[q2,BA]
  simp[Eg]
 rintro vs h4 ⟨rfl,rfl⟩;cases c3:kZ k n
 ·simp only[dT,bH];simp[D1];refine⟨λvs h5=>vs=[I d,.ptr id 0,.ptr h.nx 0,.ptr (h.nx+1) 0,.bool (decide (2000<s.length\/100<l.length\/1000<m+1))]/\h5=h4,?_,?_⟩
  ·by_cases a1:2000<s.length
   ·have C:(2000:Int)<s.length:=by omega
    simp[A3,B,C,a1,Bw]
   have C:¬(2000:Int)<s.length:=by omega
   by_cases a2:100<l.length
   ·have P:(100:Int)<L.length:=by omega
    simp[A3,B,C,a1,P,a2,Bw]
   have P:¬(100:Int)<L.length:=by omega
   simp[A3,B,C,a1,P,a2,Bw,N]
  rintro vs h5 ⟨rfl,rfl⟩;by_cases c4:2000<s.length\/100<l.length\/1000<m+1
  ·rw[Z c4,eD c4];simp[DV,M];exact A.fail hid 2
  rw[O c4,dx c4];simp[DV,B];refine sD (aeM s A.gj (by omega)) ?_;cases c5:Lib.validD s
  ·simp[M];exact A.fail hid 3
  simp only[vP,bH];by_cases c6:k=4
  ·subst c6;simp[B];exact V! hid h8 V (by omega) (by omega) (U (by omega)) A (by omega)
  simp[B,c6,SB,B,M];refine⟨kU ?_ (.int _ _),A.ob.vA hid (by omega) _⟩;refine .agg _ _ rfl λi c d K S=>?_
  match i with
  |0=>simp[tC]at K S;subst K;subst S;exact .int _ _
  |1=>simp[tC]at K S;subst K;subst S;exact .D
  |i+2=>simp at K
 simp only[bt];simp[D1,M];exact A.fail hid 1
theorem Ns:∀(k:Nat) (d:Int),d+k=16->0<=d->u3 d
 |0,d,h1,q=>Lp ⟨q,by omega⟩ λh=>by omega
 |k+1,d,h1,q=>Lp ⟨q,by omega⟩ λh=>Ns k (d+1) (by omega) (by omega)
theorem afd(v:Val)(S:GJ h)(_:True):ab prog 128 [.agg (vC v)] h (.tup [.agg (tC (if gE v=0 then(pck 0 v 0).2.1 else .s 0)),I (gE v)]) h:=by
 refine fU (ahF ?_);have T:(vC v).length=4:=ch v;have W:=jd v;have h8:=S.2;have B:cut (vC v) 0 4=some (vC v):=by
  have:=cS (α:=vC v) (b:=[]) (n:=4) T;rwa [bO]at this
 have q0:¬h.nx=h.nx+1+1:=by omega
 simp[Yz,B,q0];have U:gE v=(pck 0 v 0).1:=rfl;rw[U];have K:GJ ((((h.add (.cells (vC v))).add (.cells [I 0,.D])).add (.cells [I 0])).set (h.nx+1+1) (.cells [I 0])):=(((S.add _).add _).add _).set (by omega);have M:((((h.add (.cells (vC v))).add (.cells [I 0,.D])).add (.cells [I 0])).set (h.nx+1+1) (.cells [I 0])).E (h.nx+1+1)=some [I 0]:=cse;have N:((((h.add (.cells (vC v))).add (.cells [I 0,.D])).add (.cells [I 0])).set (h.nx+1+1) (.cells [I 0])).E (h.nx+1)=some [I 0,.D]:=by
  rw[csn,can];exact cas
 have P:((((h.add (.cells (vC v))).add (.cells [I 0,.D])).add (.cells [I 0])).set (h.nx+1+1) (.cells [I 0])).nx=h.nx+3:=by simp
 have C:∀i,i<h.nx->((((h.add (.cells (vC v))).add (.cells [I 0,.D])).add (.cells [I 0])).set (h.nx+1+1) (.cells [I 0])).H.get i=h.H.get i:=λi hi=>by
  rw[gsn,gan,gan,gan]
 generalize(((h.add (.cells (vC v))).add (.cells [I 0,.D])).add (.cells [I 0])).set (h.nx+1+1) (.cells [I 0])=h1 at*;refine Xu (Ns 16 0 (by omega) (by omega)) ⟨K,by omega,by omega,M⟩ (by omega) ?_;have R:ckP 0 v 0 =.tup [.agg (tC (pck 0 v 0).2.1),I (pck 0 v 0).1]:=rfl;rw[R];generalize pck 0 v 0=r at*;obtain⟨e,t,c⟩:=r;simp only;have A:(h1.set (h.nx+1+1) (.cells [I c])).E (h.nx+1)=some [I 0,.D]:=by rw[csn];exact N
 have V:(h1.set (h.nx+1+1) (.cells [I c])).nx=h.nx+3:=by simpa using P
 have q:∀i,i<h.nx->(h1.set (h.nx+1+1) (.cells [I c])).H.get i=h.H.get i:=λi hi=>by rw[gsn];exact C i hi
 generalize h1.set (h.nx+1+1) (.cells [I c])=h2 at*;have q1:¬h.nx+1=h2.nx:=by omega
 rw[bQ t];by_cases he:e=0
 ·simp[DS,he];rw[<-bQ t];refine sD (ahN t trivial) ?_;rw[bQ t];simp[QZ,A,q1];refine⟨?_,by omega,λi hi=>by rw[gsn,gsn,gan];exact q i hi⟩;first|exact((dW _ _ _ _).1 (lY t _)).2 1 _ _ (by rw[bQ];rfl) (by rw[bQ];rfl)|(rw[<-bQ];exact lY _ _)
 simp[DS,he,A,q1];refine⟨agL (pn _),by omega,λi hi=>by rw[gsn,gsn,gan];exact q i hi⟩
theorem A_(v:Val)(A:GJ h)(_:True):ab prog 97 [.agg (vC v)] h (I (gE v)) h:=by
 refine nM (C97 ?_);have B:(vC v).length=4:=ch v;have C:=jd v;have q:cut (vC v) 0 4=some (vC v):=by
  have:=cS (α:=vC v) (b:=[]) (n:=4) B;rwa [bO]at this
 simp[g97,q];refine sD (afd v (A.add _) trivial) ?_;rw[bQ];have r:∀i,i<h.nx->(h.add (.cells (vC v))).H.get i=h.H.get i:=λi hi=>by rw[gan]
 have K:h.nx<=(h.add (.cells (vC v))).nx:=by simp
 generalize h.add (.cells (vC v))=h1 at*;simp[Uw];refine⟨by omega,λi hi=>?_⟩;rw[gsn,gan];exact r i hi
theorem aeE{x:Sc}(hj:GJ h/\8<=id)(hc:h.E id=some (scC x))(r:id<h.nx)(hx:x.Ok):ab prog 60 [.ptr id 0] h (.psl (vCs (pB x.s x.t).1)) (h.set id (.cells (scC ⟨x.s,(pB x.s x.t).2⟩))):=by
 obtain⟨s,t0⟩:=x;have hs:s.length<=1000000000:=hx.1;refine o9 r (jQ _) (C60 ?_);simp[g60];have ad:g_ s (s.length+2) [] t0=pB s t0:=rfl;generalize hR:pB s t0=R at*;refine⟨λm vs h'=>∃acc t lv,vs=[.ptr id 0,lv]/\Ob h h' id (scC ⟨s,t⟩)/\OL 4 h h' lv acc.length (cw acc)/\t.pos<=s.length/\left s t<=m/\g_ s m acc t=R/\(t.ok=true->acc.length<=t.pos)/\acc.length<=s.length+1,s.length+2,?_,?_⟩
 ·exact⟨[],t0,.D,rfl,Ob.start hc,OL.start _ _ _,hx.2,by unfold left;split<;>omega,ad,by simp,by simp⟩
 rintro m vs h' ⟨acc,t,lv,rfl,ho,hl,hp,hm,hq,hlen,ba⟩;simp[SP];refine sD (sq (x:=⟨s,t⟩) ho.c (ho.lt r) ⟨hs,hp⟩) ?_;cases q:aO s t
 ·have S:g_ s m acc t=(acc,t):=by
   cases m with
   |zero=>rfl
   |succ m=>unfold g_;rw[O (by rw[q];simp)]
  rw[hq]at S;subst S;simp[Vg,F7];exact⟨sn hl (ay _),ho⟩
 have C:t.ok=true:=by unfold aO at q;simp only[aI]at q;exact q.1
 obtain⟨m,rfl⟩:∃k,m=k+1:=⟨m-1,by unfold left at hm;rw[Z C]at hm;omega⟩;have T:=hq;unfold g_ at T;rw[Z q]at T;have aj:=mw s t hp;have bb:=ui s 17 _ aj.lt;have N:=Af s t hp;simp[];refine sD (DF (x:=⟨s,t⟩) ho.c (ho.lt r) ⟨hs,hp⟩) ?_;have K:=ho.set (scC ⟨s,bq s t⟩);have al:=hl.set r (.cells (scC ⟨s,bq s t⟩));simp only at K al ⊢;generalize h'.set id (.cells (scC ⟨s,bq s t⟩))=h2 at*;refine sD (acH (x:=⟨s,bq s t⟩) ⟨hj.1.ob K hj.2,hj.2⟩ K.c (K.lt r) ⟨hs,aj.lt⟩) ?_;have U:=K.set (scC ⟨s,lr s (bq s t)⟩);have an:=al.set r (.cells (scC ⟨s,lr s (bq s t)⟩));simp only at U an ⊢;generalize h2.set id (.cells (scC ⟨s,lr s (bq s t)⟩))=A at*;have hA:gf s t=⟨(lr s (bq s t)).pos,(lr s (bq s t)).first,(lr s (bq s t)).ok&&(gE (mf s (bq s t))==0)⟩:=rfl;generalize lr s (bq s t)=u at*;generalize hv:mf s (bq s t)=v at*;have M:=ch v;have V:=jd v;have bd:=U.nx;have hz:(A.add (.cells z4)).E A.nx=some z4:=cas;have aS:=Y0 (cs:=vC v) hz rfl M V;have af:A.add (.cells [I 0,I 0,.str [],.D])=A.add (.cells z4):=rfl;simp only[y5,sC,iT,C1,qi];rw[af,aS];have P:Ob h ((A.add (.cells z4)).set A.nx (.cells (vC v))) id (scC ⟨s,u⟩):=U.app r (by simp) λi hi=>by rw[gsn,gan]
 have ao:OL 4 h ((A.add (.cells z4)).set A.nx (.cells (vC v))) lv acc.length (cw acc):=an.aY (by simp) λi hi bk=>by rw[gsn,gan]
 have W:((A.add (.cells z4)).set A.nx (.cells (vC v))).E A.nx=some (vC v):=cse;have bp:((A.add (.cells z4)).set A.nx (.cells (vC v))).nx=A.nx+1:=by simp
 generalize(A.add (.cells z4)).set A.nx (.cells (vC v))=h4 at*;have B:h4.E id=some [.str s,I u.pos,.bool u.first,.bool u.ok]:=P.c;simp[];refine⟨λvs h5=>vs=[.ptr id 0,lv,.ptr A.nx 0]/\Ob h h5 id (scC ⟨s,gf s t⟩)/\OL 4 h h5 lv acc.length (cw acc)/\h5.E A.nx=some (vC v)/\A.nx+1<=h5.nx,?_,?_⟩
 ·rw[hA];have ar:A.nx≠id:=by omega
  cases av:u.ok
  ·rw[av]at B;simp[Hm,B,EC,B];exact⟨P.set _,ao.set r _,by rw[O ar];exact W,by omega⟩
  rw[av]at B;simp[Hm,B,XB W M];refine sD (A_ (v:=v) (hj.1.ob P hj.2) trivial) ?_;simp[EC,B];exact⟨P.set _,ao.set r _,by rw[O ar];exact W,by omega⟩
 rintro vs h5 ⟨rfl,aw,aT,a1,bs⟩;obtain⟨bx,h6,hk,a6,bY,a7⟩:=kt (bytes:=56) (tc:=vC v) aT aw.nx M V (by have:=hlen C;omega) (by omega);have a8:=afK (z:=[I 0,I 0,.str [],.D]) rfl M V;simp[Ux,XB a1 M,a8,hk];refine⟨m,by omega,acc++[v],gf s t,aw.app r (by omega) a7,?_,N.1.lt,?_,T,?_,?_⟩
 ·rw[rD,au];exact a6
 ·unfold left at hm ⊢;rw[Z C]at hm;by_cases hu:(gf s t).ok=true
  ·rw[Z hu];have:=N.2 hu;have:=N.1.lt;omega
  rw[O hu];omega
 ·intro hu;have:=N.2 hu;have:=hlen C;rw[au];simp only[dP];omega
 have:=hlen C;rw[au];simp only[dP];omega
set_option maxRecDepth 100000
def YY(q r:AV)(h:AH)(Q:QT):=(Ca 146 [q,r,xi 0,xi (-1)] λv7=>Q v7) h
theorem aim{v0 v1 h Q}(q:YY v0 v1 h Q):ah prog 124 [v0,v1] h Q:=ax [] func124 q
section
variable (x:AX)(b c f e d a g o p i:AV)(h:AH)(Q:QT)(k:NT)(J:KT)
def Sm:=(wI g (Ar .add (Ca 164 [b,c]) (xi 1) λq=>k [b,c,f,q]) (k [b,c,f,e])) h
def adr:=(Ar .add p i λr=>Ss (some r) none o λm=>Ar .add a (xi 1) λn=>J .nrm [m,c,f,e,d,n] [m,d,n]) h
def O_:=(wI (Ar .lss a e) (Ca 72 [b,c] λj=>wI (Ar .lss j (xi 0)) (J (.exit 0) [b,c,f,e,d,a] [b,d,a]) (Ar .add j f λs=>Ss none (some s) b λt=>Ix 1 d a λu=>St 1 u t λ_=>Ls c λi=>(adr c f e d a b j i · J))) (J (.exit 0) [b,c,f,e,d,a] [b,d,a])) h
def DR:=(St 1 (Ix 1 d a) b λ_=>Ar .add a (xi 1) λv=>Sli 1 none (some v) none d λw=>Q w) h
def SF:=(wX x ((DR b d a · Q)) [(0,(DR b d a · Q))] (Q .undef)) h
def OK:=(Mm false e (Ar .add (Ls b) (xi 1)) λl=>Mk 1 16 [.str []] l l λy=>Ar .sub l (xi 1) λz=>wL (nL6 O_) [b,c,f,z,y,I 0] (nX3 SF Q)) h
def Y6:=(wI (Ar .eql e (xi 0)) (Q .D) (wI (Ar .eql c (xs' [])) (Ca 163 [b,e] λA=>Q A) (Ar .lss e (xi 0) λg=>wJ (Sm b c f e g) (nJ4 OK Q)))) h
end
theorem ahS{v0 v1 v2 v3 h Q}(q:Y6 v0 v1 v2 v3 h Q):ah prog 146 [v0,v1,v2,v3] h Q:=ax [(8,.jn [0,1,2,3]),(15,.l [0,1,2,3,9,10] [0,9,10])] func146 q
theorem G0:Fex prog 164:=⟨_,func164,rfl,by decide⟩
theorem afo:Fex prog 147:=⟨_,func147,rfl,by decide⟩
theorem aem:Fex prog 148:=⟨_,func148,rfl,by decide⟩
variable {hp:Array Obj}{cargs:Array Value}
theorem wu{L:Nat->Prop}{a b:Str}(q:Go.Eng.RL hp L β [.str a,.str b] cargs.toList):cargs = #[.string ⟨a.toArray⟩,.string ⟨b.toArray⟩]:=by
 have r:=q.1;obtain⟨l⟩:=cargs;match l,r,q with
 |[u,v],_,q=>
  have A:=q.2 0 _ u rfl rfl;have h1:=q.2 1 _ v rfl rfl;cases A;cases h1;rfl
theorem ac8(h:AH)(s:Str)(_:¬(32:UInt8)∈s):ab prog 164 [.str s,.str [32]] h (I 0) h:=by
 rename_i q;refine ab.lib G0 λown β wd cargs hs r=>?_
 have:=wu r;subst this;have A:=Zd ⟨s.toArray⟩ 32 wd;refine A.mono ?_;rintro e w' ⟨rfl,rfl⟩;have B:Lib.countByte (⟨s.toArray⟩:ByteArray).data.toList 32=0:=by
  unfold Lib.countByte;exact List.count_eq_zero.2 q
 rw[B];exact⟨_,rfl,.int _ _,Below.refl _ _⟩
theorem aei(s:Str)(q:¬(32:UInt8)∈s)(r:Q (I 0) h):tU prog 164 [.str s,.str [32]] h Q:=sD (ac8 h s q) r
theorem afn(s p:Str)(_:True):ab prog 147 [.str s,.str p] h (.tup [.str (Lib.trimPrefix s p),.bool (Lib.hasPrefix s p)]) h:=by
 refine ab.lib afo λown β wd cargs hs q=>?_
 have:=wu q;subst this;refine(aiC ⟨s.toArray⟩ ⟨p.toArray⟩ wd).mono ?_;rintro e w' ⟨rfl,rfl⟩;exact⟨_,rfl,vd (.str _) (.bool _),Below.refl _ _⟩
theorem acw(s:Str):Lib.decodeGo ⟨s.toArray⟩=eY s:=by
 unfold Lib.decodeGo eY Lib.decodeL;by_cases hs:s=[]
 ·subst hs;rfl
 have:(⟨s.toArray⟩:ByteArray).size≠0:=by
  have:=j5.2 hs;simp[ByteArray.size];exact hs
 rw[O this,O hs]
theorem agB(s:Str)(q:GJ h)(_:True):ab prog 148 [.str s] h (.tup [.int .i32 ((eY s).1:Int),I ((eY s).2:Int)]) h:=by
 refine ab.lib aem λown β wd cargs hs r=>?_
 obtain⟨u,rfl,hu⟩:=rR r;cases hu;refine(ait ⟨s.toArray⟩ wd (N4 hs q)).mono ?_;rintro e w' ⟨rfl,hb⟩;rw[acw];exact⟨_,rfl,vd (.int _ _) (.int _ _),hb⟩
theorem abh{w:Str}(N:¬(32:UInt8)∈w/\w.length<=1000):ab prog 146 [.str w,.str [32],I 0,I (-1)] h (cV [w]) h:=by
 refine fU (ahS ?_);simp[Y6];refine⟨λvs h'=>vs=[.str w,.str [32],I 0,I 1]/\h'=h,?_,?_⟩
 ·simp[Sm];refine aei w N.1 ?_;simp[]
 rintro vs h' ⟨rfl,rfl⟩;have r:jk h' false (I 1) (I ((w.length:Int)+1))=some (I 1,h'):=by
  simp[jk];omega
 have A:kz h' 1 16 [.str []] (I 1) (I 1)=some (.rsl h'.nx 0 1 1,h'.add (.cells [.str []])):=by
  simp[kz,fI]
 simp(disch:=first|go_size|fail)[OK];rw[r];simp[];rw[A];simp[];have B:(h'.add (.cells [.str []])).E h'.nx=some [.str []]:=cas;have C:∀i,i<h'.nx->(h'.add (.cells [.str []])).H.get i=h'.H.get i:=λi hi=>by rw[gan]
 have P:h'.nx<=(h'.add (.cells [.str []])).nx:=by simp
 generalize h'.add (.cells [.str []])=h1 at*;refine⟨λm vs h2=>vs=[.str w,.str [32],I 0,I 0,.rsl h'.nx 0 1 1,I 0]/\h2=h1,0,⟨rfl,rfl⟩,?_⟩;rintro m vs h2 ⟨rfl,rfl⟩;have K:∀h:AH,aC h 1 (.rsl h'.nx 0 1 1) (I 0)=some (.ptr h'.nx 0,h):=λh=>gO (by omega) (by omega)
 have M:∀h:AH,kSl h 1 (.rsl h'.nx 0 1 1) none (some (I 1)) none=some (.rsl h'.nx 0 1 1,h):=λh=>by
  simp[kSl,mH,asl,cj,abd,hJ]
 simp[O_,SF,DR];rw[K];simp[B];rw[M];simp[];refine⟨DW rfl cse (ay _) (λH j a q=>?_),by omega,λi hi=>by rw[gsn];exact C i hi⟩;match j with
 |0=>simp at q;subst q;exact .str _
 |j+1=>simp at q
theorem acA(w:Str)(C:¬(32:UInt8)∈w/\w.length<=1000):ab prog 124 [.str w,.str [32]] h (cV [w]) h:=by
 refine kY (R:=λv h'=>v=cV [w]/\h'=h) (aim ?_) λK h' ⟨h1,h2⟩=>⟨?_,by rw[h2];exact ay _,λi _=>by rw[h2]⟩
 ·simp[YY];exact sD (abh C) ⟨rfl,rfl⟩
 rw[h1];exact .psl rfl _ _ rfl (λi x y q r=>by rw[q]at r;cases r;rfl) λi x y j c d q r A B=>by
  rw[q]at r;cases r;rw[A]at B;cases B;match i with
  |0=>
   simp at q;subst q;match j with
   |0=>simp at A;subst A;exact .str _
   |j+1=>simp at A
  |i+1=>simp at q
theorem WK(_:True):ab prog 133 [] h (cV bl) h:=by
 refine fU (ain ?_);simp[Yr];refine⟨?_,λi hi=>?_⟩
 ·exact o_ (l:=bl) cas (ay _)
 rw[gan]
theorem VD(_:True):ab prog 134 [] h (cV pkN) h:=by
 refine fU (ahs ?_);simp[YE];refine⟨?_,λi hi=>?_⟩
 ·exact o_ (l:=pkN) cas (ay _)
 rw[gan]
theorem Pb(_:True):ab prog 57 [] h (cV fx) h:=by
 refine fU (C57 ?_);simp[g57];refine⟨?_,λi hi=>?_⟩
 ·exact o_ (l:=fx) cas (ay _)
 rw[gan]
theorem BL(_:True):ab prog 61 [] h (cV dY) h:=by
 refine fU (C61 ?_);simp[g61];refine⟨?_,λi hi=>?_⟩
 ·exact o_ (l:=dY) cas (ay _)
 rw[gan]
theorem A0(n:Int)(_:True):ab prog 132 [I n] h (.bool (mP n)) h:=by
 refine wv (ah4 ?_);have A:mP n=(decide (32<=n)&&decide (n<=1114111)&&(decide (n<55296)||decide (57343<n))&&(decide (n<65)||decide (90<n))):=by
  simp[mP,zS,Bool.decide_or,Bool.and_assoc]
 rw[A];by_cases q1:32<=n
 ·by_cases q2:n<=1114111
  ·by_cases q3:n<55296
   ·by_cases q:n<65
    ·simp[qX,q1,q2,q3,rV,q,r5]
    simp[qX,q1,q2,q3,rV,q,r5]
   by_cases r:57343<n
   ·by_cases q:n<65
    ·omega
    simp[qX,q1,q2,q3,rV,q,r,r5]
   simp[qX,q1,q2,q3,rV,r,r5]
  simp[qX,q1,q2,rV,r5]
 simp[qX,q1,rV,r5]
theorem acD(s p:Str):Lib.hasPrefix s p=decide (s.take p.length=p):=by
 unfold Lib.hasPrefix;by_cases h:s.take p.length=p
 ·rw[eD h];rw[List.isPrefixOf_iff_prefix];exact List.prefix_iff_eq_take.2 h.symm
 rw[dx h];cases hb:p.isPrefixOf s
 ·rfl
 exact absurd (List.prefix_iff_eq_take.1 (List.isPrefixOf_iff_prefix.1 hb)).symm h
theorem acO(i:Nat)(r:Str)(m:Nat):mU i (r,m)=(Lib.trimPrefix r ((bl.getD i [])++[43]),if Lib.hasPrefix r ((bl.getD i [])++[43])=true then m+2^i else m):=by
 unfold mU Lib.trimPrefix;rw[acD];generalize(bl.getD i [])++[43]=p;by_cases h:r.take p.length=p
 ·simp only[h,bt,decide_true]
 simp only[h,bH,tO,dT]
theorem M3(w:Str):∀i,(db w i).2<2^i
 |0=>by simp[db]
 |i+1=>by
  have:=M3 w i;have e:2^(i+1)=2^i*2:=tP 2 i;unfold db mU;split
  ·simp only;omega
  omega
theorem af8(h:AH)(i:Nat)(q:i<4):aG h .shl (I 1) (I i)=some (I ((2^i:Nat):Int),h):=by
 have:i=0\/i=1\/i=2\/i=3:=by omega
 rcases this with rfl|rfl|rfl|rfl<;>rfl
theorem ahW(h:AH)(i m:Nat)(q:i<4)(r:m<2^i):aG h .or (I m) (I ((2:Int)^i))=some (I ((m:Int)+(2:Int)^i),h):=by
 have:i=0\/i=1\/i=2\/i=3:=by omega
 rcases this with rfl|rfl|rfl|rfl
 ·have:m=0:=by omega
  subst this;rfl
 ·have:m=0\/m=1:=by omega
  rcases this with rfl|rfl<;>rfl
 ·have:m=0\/m=1\/m=2\/m=3:=by omega
  rcases this with rfl|rfl|rfl|rfl<;>rfl
 have:m=0\/m=1\/m=2\/m=3\/m=4\/m=5\/m=6\/m=7:=by omega
 rcases this with rfl|rfl|rfl|rfl|rfl|rfl|rfl|rfl<;>rfl
structure C2(h h':AH)(k m:Int):Prop where
 r:h'.E h.nx=some [I 0,I 0]
 c:h'.E (h.nx+1)=some [I k,I m]
 nx:h.nx+2<=h'.nx
 get:∀i,i<h.nx->h'.H.get i=h.H.get i
 gj:GJ h'
variable {k:Int}
theorem C2.set(c:C2 h h' k m)(B:8<=h.nx)(q A:Int):C2 h (h'.set (h.nx+1) (.cells [I q,I A])) q A:=
 ⟨by rw[csn];exact c.r,cse,c.nx,λi hi=>by rw[gsn];exact c.get i hi,c.gj.set (by omega)⟩
variable {n:Nat}
theorem C2.bump(c:C2 h h' k m)(q:h'.nx<=n):C2 h ⟨h'.H,n⟩ k m:=⟨c.r,c.c,bf c.nx q,c.get,c.gj.bump q⟩
inductive CHx(h:AH)(w:Str):Nat->List AV->AH->Prop
 |mk {h':AH} (i:Nat) (hi:i<=4) (hc:C2 h h' 0 ((db w i).2:Int)):CHx h w (4-i) [.str (db w i).1,.ptr h.nx 0,.ptr (h.nx+1) 0,cV bl,I 4,I i] h'
theorem R_(r:Str):(eY r).1<=1114111:=by
 unfold eY;split
 ·decide
 exact Lib.decodeL_rune r
theorem abn(r:Str):(!(jo r))=(decide ((eY r).2≠r.length)||(decide ((eY r).2=0)||((decide ((eY r).1=65533)&&decide ((eY r).2=1))||(decide ((eY r).1=32) || !(mP (eY r).1))))):=by
 unfold jo;generalize eY r=d;obtain⟨c,n⟩:=d;simp only;cases mP c<;>by_cases q:n=r.length<;>by_cases a2:n=0<;>by_cases a3:c=65533<;>by_cases a4:n=1<;>by_cases a5:c=32<;>simp[q,a2,a3,a4,a5]<;>omega
def Io(w:Str):AV:=.tup [.agg [I (dz w).1,I (dz w).2.1],.bool (dz w).2.2]
theorem abe(w:Str)(hg:GJ h)(hw:w.length<=1000):ab prog 125 [.str w] h (Io w) h:=by
 refine fU (ahz ?_);have h8:=hg.2;simp[YV];have af:C2 h ((h.add (.cells [I 0,I 0])).add (.cells [I 0,I 0])) 0 0:=by
  refine⟨?_,cas,by simp,λi hi=>?_,(hg.add _).add _⟩
  ·rw[can];exact cas
  rw[gan,gan]
 generalize(h.add (.cells [I 0,I 0])).add (.cells [I 0,I 0])=h1 at*;refine sD (WK trivial) ?_;simp[wo];refine⟨CHx h w,4,.mk 0 (by omega) af,?_⟩;rintro m vs h' hI;cases hI with
 |mk i hi C=>
 have A:=M3 w i;have q:db w (i+1)=mU i (db w i):=rfl;have hn:=C.nx;by_cases M:i<4
 ·have R:(i:Int)<4:=by omega
  obtain⟨md,N⟩:∃md,bl[i]?=some md:=⟨bl[i]'M,bF M⟩;have aj:bl.getD i []=md:=by rw[gF,N];rfl
  rw[<-Prod.eta (db w i),acO,aj]at q;simp[Cj,R];generalize db w i=x at*;obtain⟨r,K⟩:=x;simp only at C A q ⊢;refine⟨λvs h2=>vs=[.str (db w (i+1)).1,.ptr h.nx 0,.ptr (h.nx+1) 0,cV bl,I 4,I i]/\C2 h h2 0 ((db w (i+1)).2:Int),?_,?_⟩
  ·rw[q];have W:∀h:AH,aG h .add (.str md) (.str [43])=some (.str (md++[43]),h):=by
    have:i=0\/i=1\/i=2\/i=3:=by omega
    rcases this with rfl|rfl|rfl|rfl<;>(simp[bl]at N;subst N;intro h;rfl)
   simp[Q9,ki h' bl i md N];rw[W];simp[];refine sD (afn r (md++[43]) trivial) ?_;have T:=C.c;cases hp:Lib.hasPrefix r (md++[43])
   ·rw[hp]at q;simp[BO];refine⟨?_,C⟩;unfold Lib.trimPrefix;rw[hp];rfl
   rw[hp]at q;have h1:∀h:AH,aG h .shl (I 1) (I i)=some (I ((2^i:Nat):Int),h):=λh=>af8 h i M
   have h2:∀h:AH,aG h .or (I K) (I ((2:Int)^i))=some (I ((K:Int)+(2:Int)^i),h):=λh=>ahW h i K M A
   simp[BO,T];rw[h1];simp[];rw[h2];simp[];have al:(AH.mk h'.H (h'.nx+7)).E (h.nx+1)=some [I 0,I K]:=T;simp[Q6,al];exact(C.bump (n:=h'.nx+7) (by omega)).set h8 0 ((K:Int)+(2:Int)^i)
  rintro vs h2 ⟨rfl,an⟩;simp(disch:=first|go_size|fail)[O4];exact⟨4-(i+1),by omega,.mk (i+1) (by omega) an⟩
 have R:¬(i:Int)<4:=by omega
 obtain rfl:i=4:=by omega
 simp(disch:=first|go_size|fail)[Cj,QJ,Cz];refine sD (VD trivial) ?_;have aS:(db w 4).2<16:=A;unfold Io dz;generalize(db w 4).1=r at*;generalize(db w 4).2=K at*;have hr:=C.r;have T:=C.c;simp(disch:=first|go_size|fail)[PB];refine sD (P8 (cV pkN) pkN r ⟨.inl rfl,by decide⟩) ?_;have B:∀(k:Int) (F:AH),F=((h'.set (h.nx+1) (.cells [I k,I K])).set h.nx (.cells [I k,I K]))->Frz (fresh F h.nx) false (.tup [.agg [I k,I K],.bool true]) (.tup [.agg [I k,I K],.bool true])/\h.nx<=F.nx/\∀i,i<h.nx->F.H.get i=h.H.get i:=λk F hF=>by
  subst hF;refine⟨kU (Kq ⟨.int _ _,.int _ _,trivial⟩) (.bool _),by simp;omega,λi hi=>?_⟩;rw[gsn,gsn];exact C.get i hi
 have q0:¬h.nx=h.nx+1:=by omega
 by_cases hk:0<=idx pkN r
 ·rw[Z hk];have ao:=uN pkN r;have aT:idx pkN r<23:=ao;simp(disch:=first|go_size|fail)[hk,T,hr];have:=B (1+idx pkN r) _ rfl;exact this.2
 rw[O hk];simp[hk];by_cases hs:r=jS
 ·rw[Z hs];have S:r=[115,112,97,99,101]:=hs;simp[S,T,hr];exact(B 32 _ rfl).2
 rw[O hs];have S:¬r=[115,112,97,99,101]:=hs;simp[S];refine sD (agB r C.gj trivial) ?_;simp[Ou];refine⟨λvs h2=>vs=[.ptr h.nx 0,.ptr (h.nx+1) 0,.int .i32 ((eY r).1:Int),.bool (!(jo r))]/\h2=h',?_,?_⟩
 ·rw[abn];have U:=R_ r;generalize eY r=d at*;obtain⟨c,n⟩:=d;simp only at U ⊢;have P:IntKind.i64.wrap (c:Int)=c:=lW (by omega) (by omega);by_cases a1:n=r.length
  ·subst a1;by_cases a2:r=[]
   ·subst a2;simp[rU,rT,rP]
   have a6:¬(r.length:Int)=0:=by
    have:=j5.2 a2;omega
   by_cases a3:c=65533
   ·subst a3;by_cases a4:r.length=1
    ·have V:(r.length:Int)=1:=by omega
     simp[rU,a2,rT,a4,rP]
    have V:¬(r.length:Int)=1:=by omega
    simp[rU,a2,rT,a4,V,rP];have ad:IntKind.i64.wrap 65533=65533:=P;rw[ad];refine sD (A0 65533 trivial) ?_;simp[]
   have ar:¬(c:Int)=65533:=by omega
   by_cases a5:c=32
   ·subst a5;simp[rU,a2,rT,rP]
   have av:¬(c:Int)=32:=by omega
   simp[rU,a2,a3,rT,av,a5,ar,rP];rw[P];refine sD (A0 c trivial) ?_;simp[]
  have aw:¬(n:Int)=r.length:=by omega
  simp[rU,a1,aw,rT,rP]
 rintro vs h2 ⟨rfl,rfl⟩;cases hd:jo r
 ·simp[DN,hr];refine⟨by omega,λi hi=>?_⟩;rw[gsn];exact C.get i hi
 have U:=R_ r;have P:IntKind.i64.wrap ((eY r).1:Int)=(eY r).1:=lW (by omega) (by omega);simp[DN,hr,T,P];exact(B _ _ rfl).2
def mj(w:Str):LA:=[I (dz w).1,I (dz w).2.1]
def pCL(w:Str):List (LA):=if gY w=true then [mj w]else []
def pCE(w:Str):Int:=if 100<w.length then 2 else if(dz w).2.2=true then 0 else 3
inductive SHx(h:AH)(w:Str):Nat->List AV->AH->Prop
 |zero {h':AH} (hn:h.nx<=h'.nx) (hg:∀i,i<h.nx->h'.H.get i=h.H.get i) (gj:GJ h'):SHx h w 1 [.D,cV [w],I 1,I 0] h'
 |one {h':AH} (lv:AV) (hok:(dz w).2.2=true) (ol:OL 2 h h' lv 1 (mj w)) (hn:h.nx<=h'.nx) (hg:∀i,i<h.nx->h'.H.get i=h.H.get i):SHx h w 0 [lv,cV [w],I 1,I 1] h'
theorem adP(w:Str)(R:GJ h)(U:¬(32:UInt8)∈w/\w.length<=1000000000):ab prog 93 [.str w] h (.tup [.psl (pCL w),I (pCE w)]) h:=by
 refine fU (C93 ?_);have h8:=R.2;unfold pCL pCE gY;by_cases S:w.length<=100
 ·have q:¬100<w.length:=by omega
  have A:¬(100:Int)<w.length:=by omega
  simp[g93,A];refine sD (acA w ⟨U.1,by omega⟩) ?_;simp[wo];refine⟨SHx h w,1,.zero (ay _) (λ_ _=>rfl) R,?_⟩;rintro m vs h' V;cases V with
  |zero T B gj=>
   have N:=ki h' [w] 0 w rfl;simp[EY];rw[show(I 0:AV)=I ((0:Nat):Int)from rfl];rw[N];simp[];refine sD (abe w gj (by omega)) ?_;unfold Io;have W:mj w=[I (dz w).1,I (dz w).2.1]:=rfl;have r:∀i,i<h.nx->((h'.add (.cells [I 0,I 0])).set h'.nx (.cells (mj w))).H.get i=h.H.get i:=λi hi=>by
    rw[gsn,gan];exact B i hi
   cases C:(dz w).2.2
   ·simp[Gl,GA,q];exact⟨.D,by omega,λi hi=>r i hi⟩
   simp[Gl,U2];refine .one _ C (.inr ⟨h'.nx+1+1,rfl,by omega,by omega,by simp,?_,rfl⟩) (by simp;omega) λi hi=>?_
   ·exact cas
   rw[gan,gan];exact r i hi
  |one lv C ol T B=>
   simp[EY,GA];have P:bn h' lv=some (I 1,h'):=Nd ol h';simp[Hv,P,S,q,C];refine⟨?_,T,B⟩;have:=rS (z:=2) (ys:=[mj w]) (λy M=>by rw[j6.1 M];rfl) (λy M H j c K=>by
    rw[j6.1 M]at K;match j with
    |0=>simp[mj]at K;subst K;exact .int _ _
    |1=>simp[mj]at K;subst K;exact .int _ _
    |j+2=>simp[mj]at K) (by simpa using ol) (ay h.nx)
   first|exact this|exact kU this (.int _ _)
 have q:100<w.length:=by omega
 have A:(100:Int)<w.length:=by omega
 simp[g93,A,S,q];exact .D
theorem abl(s:Str)(t:PS):¬(32:UInt8)∈b9 s t:=by
 intro h;unfold b9 bX at h;have q:=List.all_takeWhile (l:=s.drop (bq s t).pos) (p:=aH false);rw[fi]at q;have:=q _ h;simp[aH]at this
theorem aaV{x:Sc}(hj:GJ h/\8<=id)(hc:h.E id=some (scC x))(q:id<h.nx)(M:x.Ok):ab prog 59 [.ptr id 0] h (.agg (nw x.s x.t)) (h.set id (.cells (scC ⟨x.s,kF x.s x.t⟩))):=by
 obtain⟨s,t⟩:=x;obtain⟨hg,h8⟩:=hj;refine o9 q (jQ _) (C59 ?_);simp[g59];have R:GJ (h.add (.cells [I 0,I 0])):=hg.add _;have B:Ob h (h.add (.cells [I 0,I 0])) id (scC ⟨s,t⟩):=(Ob.start hc).new q (by simp) λi hi=>by rw[gan]
 have S:(h.add (.cells [I 0,I 0])).E h.nx=some [I 0,I 0]:=cas;have T:(h.add (.cells [I 0,I 0])).nx=h.nx+1:=by simp
 generalize h.add (.cells [I 0,I 0])=h1 at*;refine sD (HS (x:=⟨s,t⟩) B.c (by omega) M) ?_;have an:=aaJ s t M.2;have A:=B.set (scC ⟨s,bm s t⟩);have U:GJ (h1.set id (.cells (scC ⟨s,bm s t⟩))):=R.set h8;have C:(h1.set id (.cells (scC ⟨s,bm s t⟩))).E h.nx=some [I 0,I 0]:=by rw[csn];exact S
 have ao:(h1.set id (.cells (scC ⟨s,bm s t⟩))).nx=h.nx+1:=by simpa using T
 simp only at*;generalize h1.set id (.cells (scC ⟨s,bm s t⟩))=h2 at*;have V:=abl s t;have hlen:(b9 s t).length<=1000000000:=by
  have:=ln (aH false) (s.drop (bq s t).pos);rw[bW]at this;have hs:s.length<=1000000000:=M.1;unfold b9 bX;omega
 have eT:kF s t=⟨(bm s t).pos,(bm s t).first,(bm s t).ok&&gY (b9 s t)⟩:=rfl;have eV:nw s t=if gY (b9 s t)=true then [I (dz (b9 s t)).1,I (dz (b9 s t)).2.1]else [I 0,I 0]:=rfl
 rw[eT,eV];generalize b9 s t=w at*;generalize bm s t=t1 at*;simp[VN];refine sD (adP w U ⟨V,hlen⟩) ?_;simp[UC];have K:pCL w=if gY w=true then [mj w]else []:=rfl
 have W:pCE w=if 100<w.length then 2 else if(dz w).2.2=true then 0 else 3:=rfl
 have ad:gY w=(decide (w.length<=100)&&(dz w).2.2):=rfl;refine⟨λvs N=>vs=[.ptr id 0,.ptr h.nx 0,.psl (pCL w),.bool (!(gY w))]/\N=h2,?_,?_⟩
 ·rw[K,W,ad];by_cases P:w.length<=100
  ·have r:¬100<w.length:=by omega
   cases a2:(dz w).2.2
   ·simp[yU,P,r]
   simp[yU,P,r]
  have r:100<w.length:=by omega
  simp[yU,P,r]
 rintro vs N ⟨rfl,rfl⟩;have af:N.E id=some [.str s,I t1.pos,.bool t1.first,.bool t1.ok]:=A.c;have q1:¬h.nx=id:=by omega
 cases hk:gY w
 ·simp[Hk,af,C,q1];exact(A.set _).vA q (ay _) _
 rw[K,hk];simp only[bt];have aj:∀h:AH,aC h 2 (.psl [mj w]) (I 0)=some (.ai (mj w),h):=λh=>gQ (i:=0) rfl rfl
 simp[Hk];rw[aj];have al:mj w=[I (dz w).1,I (dz w).2.1]:=rfl;rw[al];simp[C];exact A.vA q (ay _) _
def oC(x:Int×AV×Int×AV):LA:=edC x.1 x.2.1 x.2.2.1 x.2.2.2
def z15:LA:=[I 0,.D,.D,.D,I 0,I 0,.bool false,I 0,I 0,I 0,I 0,I 0,I 0,.D,I 0]
structure P3(h h':AH)(id k3:Nat)(c1 c3:LA):Prop where
 a:h'.E id=some c1
 b:h'.E k3=some c3
 r:h'.E h.nx=some z15
 lt:h.nx<k3/\k3<h'.nx
 get:∀i,i≠id->i<h.nx->h'.H.get i=h.H.get i
 gj:GJ h'
variable {k3:Nat}{c1 c3:LA}
theorem P3.gM(p:P3 h h' id k3 c1 c3)(A:id<h.nx)(q:8<=id)(d:LA):P3 h (h'.set id (.cells d)) id k3 d c3:=
 have B:=p.lt
 ⟨cse,by rw[csn];exact p.b,by rw[csn];exact p.r,p.lt,λi h1 h2=>by rw[dQ,O h1];exact p.get i h1 h2,p.gj.set q⟩
theorem P3.zE(p:P3 h h' id k3 c1 c3)(q:id<h.nx)(A:8<=id)(d:LA):P3 h (h'.set k3 (.cells d)) id k3 c1 d:=
 have B:=p.lt
 ⟨by rw[csn];exact p.a,cse,by rw[csn];exact p.r,p.lt,λi h1 h2=>by rw[gsn];exact p.get i h1 h2,p.gj.set (by omega)⟩
theorem P3.new(p:P3 h h' id k3 c1 c3)(B:id<h.nx)(C:8<=id)(hb:k3<b)(K:h'.nx<=h2.nx)(q:∀i,i<b->h2.H.get i=h'.H.get i):P3 h h2 id k3 c1 c3:=
 have A:=p.lt
 ⟨by rw[aV (q _ (by omega))];exact p.a,by rw[aV (q _ hb)];exact p.b,by rw[aV (q _ (by omega))];exact p.r,⟨A.1,by omega⟩,λi h1 h2=>by rw[q i (by omega)];exact p.get i h1 h2,
  p.gj.mG (λi hi=>q i (by omega)) (by omega)⟩
def aho(h h':AH)(c d:LA):Prop:=∀h2:AH,h'.nx<=h2.nx->(∀i,h.nx<i->i<h'.nx->h2.H.get i=h'.H.get i)->bU (fresh h2 h.nx) false c d
variable {H:AH}{c:AV}
theorem Cn{n:Int}{r q A:AV}(h1:Frz H false r q)(h2:Frz H false c A):bU H false (edC k r n c) (edC k q n A):=by
 unfold edC;repeat' (first|exact trivial|refine And.intro ?_ ?_|exact .int _ _|exact .bool _|exact .str _|exact .fo|assumption)
inductive PMc(h:AH)(id:Nat)(s:Str)(x:(Int×AV×Int×AV)×PS)(k3:Nat):List AV->AH->Prop
 |mk {h':AH} (k:Int) (r:AV) (n:Int) (c:AV) (hp:P3 h h' id k3 (scC ⟨s,x.2⟩) (edC k r n c)) (ho:r.one=true/\c.one=true) (hf:aho h h' (edC k r n c) (oC x.1)):PMc h id s x k3 [.ptr h.nx 0,.ptr k3 0] h'
inductive PCx(h hb:AH)(id k3:Nat)(s:Str)(rv:AV)(N:Int)(R:List Int×PS)(kr:Nat)(rc:List AV):Nat->List AV->AH->Prop
 |mk {h':AH} (m:Nat) (acc:List Int) (t:PS) (lv:AV) (hp:P3 h h' id k3 (scC ⟨s,t⟩) (edC 15 rv N lv)) (hO:OL 2 hb h' lv acc.length (hH acc).flatten) (hcr:h'.E kr=some rc) (hn:hb.nx<=h'.nx) (ht:t.pos<=s.length) (hm:left s t<=m) (hq:hY s m acc t=R) (hlen:t.ok=true->acc.length<=t.pos):
  PCx h hb id k3 s rv N R kr rc m [.ptr id 0,.ptr h.nx 0,.ptr k3 0] h'
theorem D?(s:Str)(t:PS):-9223372036854775808<=dB s t/\dB s t<=9223372036854775807:=by
 unfold dB gw;split
 ·rename_i n q;exact Lib.atoiAll_bounds q
 ·unfold Lib.atoiSat;split<;>omega
 omega
theorem aif(h:AH)(n:Int)(r : -9223372036854775808<=n/\n<=9223372036854775807):kUn h .neg (I n)=some (I (ng n),h):=by
 unfold ng;by_cases q:n = -9223372036854775808
 ·subst q;rfl
 rw[O q];exact acv h n (by omega) (by omega)
theorem abu(l:List Int):∀y∈hH l,y.length=2:=by
 intro y q;obtain⟨n,_,rfl⟩:=eK.1 q;rfl
theorem Lo(l:List Int):∀y∈hH l,∀(H:AH) (j:Nat) (c:AV),y[j]?=some c->Frz H false c c:=by
 intro y r H j c q;obtain⟨n,_,rfl⟩:=eK.1 r;match j with
 |0=>simp[clP]at q;subst q;exact .int _ _
 |1=>simp[clP]at q;subst q;exact .bool _
 |j+2=>simp[clP]at q
theorem Kc(s:Str)(t:PS)(q:t.pos<=s.length)(K:s.length<=1000000000):(iv s t).length<=1000000000:=by
 have key:∀(n:Nat) (out:Str) (t:PS),t.pos<=s.length->out.length<=t.pos->(pQL s n out t).1.length<=s.length:=by
  intro n;induction n with
  |zero=>intro out t q h;simp only[pQL];omega
  |succ n A=>
   intro out t q h;unfold pQL;by_cases hm:aO s t=true
   ·rw[Z hm];cases r:s[t.pos]? with
    |none=>simp only;omega
    |some c=>
     simp only;split
     ·simp only;omega
     have B:=AN s c t r;have C:=(aL.1 r).1;refine A _ _ B.lt ?_;rw[au];simp only[dP];have:t.pos+1<=(pQ1 s c t).2.pos:=by
      unfold pQ1;split
      ·unfold fb;simp only;split
       ·split
        ·simp only;omega
        simp only;omega
       simp only;omega
      simp only;omega
     omega
   rw[O hm];simp only;omega
 have h1:=mw s t q;have h2:=nH s 34 (bq s t) h1.lt;have:=key s.length [] (aD s 34 (bq s t)) h2.1.lt (by simp);unfold iv ku je;omega
theorem y!{id:Nat}{x:Sc}(hj:GJ h/\8<=id)(hc:h.E id=some (scC x))(q:id<h.nx)(hx:x.Ok):ab prog 63 [.ptr id 0] h (.agg (oC (d_ x.s x.t).1)) (h.set id (.cells (scC ⟨x.s,(d_ x.s x.t).2⟩))):=by
 obtain⟨s,t⟩:=x;obtain⟨hg,P⟩:=hj;have hs:s.length<=1000000000:=hx.1;refine o9 q (jQ _) (C63 ?_);simp[g63];have dc:(h.add (.cells z15)).add (.cells (cg.map .str))=(h.add (.cells z15)).add (.cells [.str [98,101,103,105,110],.str [117,112,100,97,116,101],.str [99,111,109,109,105,116],.str [99,97,110,99,101,108]]):=rfl;have ca:((h.add (.cells z15)).add (.cells (cg.map .str))).E id=some (scC ⟨s,t⟩):=by
  rw[can (by simp;omega),can];exact hc
 have cb:((h.add (.cells z15)).add (.cells (cg.map .str))).E (h.nx+1)=some (cg.map .str):=cas;have cc:((h.add (.cells z15)).add (.cells (cg.map .str))).E h.nx=some z15:=by
  rw[can];exact cas
 have ez:((h.add (.cells z15)).add (.cells (cg.map .str))).nx=h.nx+2:=by simp
 have a7:∀i,i<h.nx->((h.add (.cells z15)).add (.cells (cg.map .str))).H.get i=h.H.get i:=λi hi=>by rw[gan,gan]
 have cd:GJ ((h.add (.cells z15)).add (.cells (cg.map .str))):=(hg.add _).add _;change tU prog 56 [.ptr id 0,.rsl (h.nx+1) 0 4 1] ((h.add (.cells z15)).add (.cells (cg.map .str))) _
 generalize(h.add (.cells z15)).add (.cells (cg.map .str))=h1 at*;refine sD (Ky (x:=⟨s,t⟩) (l:=cg) ca (by omega) hx ⟨.inr ⟨h.nx+1,rfl,by omega,cb⟩,by decide⟩) ?_;have ad:=rB s cg t hx.2;have eA : -1<=bN s cg t/\bN s cg t<4:=⟨xy _ _,uN cg _⟩;unfold d_;simp only;generalize bN s cg t=K at*;generalize bc s cg t=t1 at*;simp(disch:=first|go_size|fail)[T5];obtain⟨k3,cf⟩:∃k3,k3=h1.nx:=⟨_,rfl⟩;have B:P3 h (((h1.set id (.cells (scC ⟨s,t1⟩))).add (.cells z15)).set k3 (.cells (edC (14+K) .D 0 .D))) id k3 (scC ⟨s,t1⟩) (edC (14+K) .D 0 .D):=by
  refine⟨?_,cse,?_,⟨by omega,by simp;omega⟩,λi h2 A=>?_,((cd.set P).add _).set (by omega)⟩
  ·rw[csn,can (by simp;omega)];exact cse
  ·rw[csn,can (by simp;omega),csn];exact cc
  rw[gsn,gan,dQ,O h2];exact a7 i A
 have ar:((h1.set id (.cells (scC ⟨s,t1⟩))).add (.cells [I 0,.D,.D,.D,I 0,I 0,.bool false,I 0,I 0,I 0,I 0,I 0,I 0,.D,I 0])).set h1.nx (.cells [I (14+K),.D,.D,.D,I 0,I 0,.bool false,I 0,I 0,I 0,I 0,I 0,I 0,.D,I 0])=((h1.set id (.cells (scC ⟨s,t1⟩))).add (.cells z15)).set k3 (.cells (edC (14+K) .D 0 .D)):=by rw[cf];rfl
 rw[ar,<-cf];generalize((h1.set id (.cells (scC ⟨s,t1⟩))).add (.cells z15)).set k3 (.cells (edC (14+K) .D 0 .D))=h2 at*;clear ar ca cb cc a7 cd dc;generalize hX:(if K=2 then((16,AV.psl (iE (iv s t1)),0,AV.D),fY s t1)else if K=1 then((15,AV.psl (iE (iv s t1)),dB s (fY s t1),AV.psl (hH (pH s (bK s (fY s t1))).fst)),(pH s (bK s (fY s t1))).snd)else((14+K,AV.D,0,AV.D),t1):(Int×AV×Int×AV)×PS)=X;refine⟨PMc h id s X k3,?_,?_⟩
 ·by_cases k2:K=2
  ·rw[Z k2]at hX;subst hX;subst k2;simp[xT];refine sD (Ht (x:=⟨s,t1⟩) ⟨B.gj,P⟩ B.a (by have:=B.lt;omega) ⟨hs,ad.lt⟩) ?_;have U:=B.gM q P (scC ⟨s,fY s t1⟩);have hT:=Kc s t1 ad.lt hs;simp only at U ⊢;generalize h2.set id (.cells (scC ⟨s,fY s t1⟩))=A at*;generalize iv s t1=T at*;generalize fY s t1=t2 at*;have cl:=U.lt;simp[TB];rw[sk A T hT];have af:=U.new (h2:=A.add (.cells ((ak T).map az))) q P (b:=A.nx) (by omega) (by simp) λi hi=>by rw[gan]
   have aj:(A.add (.cells ((ak T).map az))).E A.nx=some ((ak T).map az):=cas;have bx:(A.add (.cells ((ak T).map az))).nx=A.nx+1:=by simp
   obtain⟨kr,bY⟩:∃kr,kr=A.nx:=⟨_,rfl⟩;rw[<-bY]at aj bx ⊢;generalize A.add (.cells ((ak T).map az))=h4 at*;have b0:h4.E k3=some [I (14+2),.D,.D,.D,I 0,I 0,.bool false,I 0,I 0,I 0,I 0,I 0,I 0,.D,I 0]:=af.b;simp[b0];have V:=af.zE q P (edC 16 (.rsl kr 0 (ak T).length 1) 0 .D);refine .mk 16 (.rsl kr 0 (ak T).length 1) 0 .D V ⟨rfl,rfl⟩ λh5 cn cr=>Cn (wm ?_ (by omega)) .fo
   rw[aV (cr kr (by omega) (by show kr<h4.nx;omega)),csn];exact aj
  rw[O k2]at hX;by_cases k1:K=1
  ·rw[Z k1]at hX;subst k1;simp[xT];refine sD (Ht (x:=⟨s,t1⟩) ⟨B.gj,P⟩ B.a (by have:=B.lt;omega) ⟨hs,ad.lt⟩) ?_;have U:=B.gM q P (scC ⟨s,fY s t1⟩);have hT:=Kc s t1 ad.lt hs;have ct:=tY s t1 ad.lt;simp only at U ⊢;generalize h2.set id (.cells (scC ⟨s,fY s t1⟩))=A at*;generalize iv s t1=T at*;generalize fY s t1=t2 at*;have cl:=U.lt;simp[TO];rw[sk A T hT];have af:=U.new (h2:=A.add (.cells ((ak T).map az))) q P (b:=A.nx) (by omega) (by simp) λi hi=>by rw[gan]
   have aj:(A.add (.cells ((ak T).map az))).E A.nx=some ((ak T).map az):=cas;have bx:(A.add (.cells ((ak T).map az))).nx=A.nx+1:=by simp
   obtain⟨kr,bY⟩:∃kr,kr=A.nx:=⟨_,rfl⟩;rw[<-bY]at aj bx ⊢;generalize A.add (.cells ((ak T).map az))=h4 at*;have b0:h4.E k3=some [I (14+1),.D,.D,.D,I 0,I 0,.bool false,I 0,I 0,I 0,I 0,I 0,I 0,.D,I 0]:=af.b;simp[b0];have cv:(AV.rsl kr 0 (ak T).length 1).one=true:=rfl;have V:=af.zE q P (edC 15 (.rsl kr 0 (ak T).length 1) 0 .D);have cx:(h4.set k3 (.cells (edC 15 (.rsl kr 0 (ak T).length 1) 0 .D))).E kr=some ((ak T).map az):=by rw[csn];exact aj
   have cn:(h4.set k3 (.cells (edC 15 (.rsl kr 0 (ak T).length 1) 0 .D))).nx=h4.nx:=rfl;have aT:h4.set k3 (.cells [I 15,.rsl kr 0 (ak T).length 1,.D,.D,I 0,I 0,.bool false,I 0,I 0,I 0,I 0,I 0,I 0,.D,I 0])=h4.set k3 (.cells (edC 15 (.rsl kr 0 (ak T).length 1) 0 .D)):=rfl;rw[aT];generalize h4.set k3 (.cells (edC 15 (.rsl kr 0 (ak T).length 1) 0 .D))=h5 at*;have dd:=lK s t2 ct.lt;refine sD (KN (x:=⟨s,t2⟩) ⟨V.gj,P⟩ V.a (by have:=V.lt;omega) ⟨hs,ct.lt⟩) ?_;have b1:=V.gM q P (scC ⟨s,bK s t2⟩);have cy:(h5.set id (.cells (scC ⟨s,bK s t2⟩))).E kr=some ((ak T).map az):=by rw[csn];exact cx
   have eB:(h5.set id (.cells (scC ⟨s,bK s t2⟩))).nx=h5.nx:=rfl;simp only at b1 ⊢;generalize h5.set id (.cells (scC ⟨s,bK s t2⟩))=h6 at*;generalize dB s t2=N at*;generalize bK s t2=t3 at*;generalize df:AV.rsl kr 0 (ak T).length 1=W at*;have dk:h6.E k3=some [I 15,W,.D,.D,I 0,I 0,.bool false,I 0,I 0,I 0,I 0,I 0,I 0,.D,I 0]:=b1.b;simp[dk];have b2:=b1.zE q P (edC 15 W N .D);have cN:(h6.set k3 (.cells (edC 15 W N .D))).E kr=some ((ak T).map az):=by rw[csn];exact cy
   have eC:(h6.set k3 (.cells (edC 15 W N .D))).nx=h6.nx:=rfl;have a6:h6.set k3 (.cells [I 15,W,.D,.D,I 0,I 0,.bool false,I 0,I 0,I 0,I 0,I 0,I N,.D,I 0])=h6.set k3 (.cells (edC 15 W N .D)):=rfl;rw[a6];generalize h6.set k3 (.cells (edC 15 W N .D))=h7 at*;have b5:hY s (s.length+2) [] t3=pH s t3:=rfl;generalize eF:pH s t3=R at*;subst hX;refine⟨PCx h h7 id k3 s W N R kr ((ak T).map az),s.length+2,?_,?_⟩
   ·exact .mk (s.length+2) [] t3 .D b2 (OL.start _ _ _) cN (ay _) dd.lt (by unfold left;split<;>omega) b5 (by simp)
   rintro m vs h' hI;cases hI with
   |mk m acc t lv hp hO a8 eH av hm hq hlen=>
   have ba:id<h'.nx:=by have:=hp.lt;omega
   simp[UW];refine sD (sq (x:=⟨s,t⟩) hp.a ba ⟨hs,av⟩) ?_;simp only;cases C:aO s t
   ·have bb:hY s m acc t=(acc,t):=by
     cases m with
     |zero=>rfl
     |succ m=>unfold hY;rw[C];rfl
    rw[hq]at bb;subst bb;simp[TV,E9];refine .mk 15 W N lv hp ⟨cv,kx hO⟩ λds eb cu=>Cn ?_ ?_
    ·rw[<-df];exact wm (by rw[aV (cu kr (by omega) (by omega))];exact a8) (by omega)
    have ec:OL 2 h7 ds lv (hH acc).length (hH acc).flatten:=by
     rw[show(hH acc).length=acc.length by simp[hH]];exact hO.aY eb λi q1 q2=>cu i (by omega) q2
    exact rS (abu acc) (Lo acc) ec (by omega)
   obtain⟨m,rfl⟩:∃k,m=k+1:=⟨m-1,by
    unfold left at hm;unfold aO at C;simp only[aI,ck]at C;rw[Z C.1]at hm;omega⟩
   have b3:t.ok=true:=by
    unfold aO at C;simp only[aI]at C;exact C.1
   have aw:=hq;unfold hY at aw;rw[C]at aw;simp only[bt]at aw;have bd:=lK s t av;have ee:=D? s t;simp[];refine sD (KN (x:=⟨s,t⟩) ⟨hp.gj,P⟩ hp.a ba ⟨hs,av⟩) ?_;have an:=hp.gM q P (scC ⟨s,bK s t⟩);have cR:=hO.set (id:=id) (by omega) (.cells (scC ⟨s,bK s t⟩));have b6:(h'.set id (.cells (scC ⟨s,bK s t⟩))).E kr=some ((ak T).map az):=by rw[csn];exact a8
   have et:(h'.set id (.cells (scC ⟨s,bK s t⟩))).nx=h'.nx:=rfl;have bk:=Oz av (s:=s);simp only at an ⊢;generalize h'.set id (.cells (scC ⟨s,bK s t⟩))=M at*;generalize dB s t=S at*;generalize bK s t=t5 at*;have cT:M.E k3=some [I 15,W,.D,.D,I 0,I 0,.bool false,I 0,I 0,I 0,I 0,I 0,I N,lv,I 0]:=an.b;obtain⟨aS,al,c6,bp,ev,bs⟩:=kt (bytes:=16) (tc:=clP S) cR (by omega) rfl rfl (by have:=hlen b3;omega) (by omega);have ej:kUn M .neg (I S)=some (I (ng S),M):=aif M S ee;have ek:jk M true (I S) (I (ng S))=some (I (max S (ng S)),M):=Am _ _ _;have en:fy (M.add (.cells [I (max S (ng S)),.bool (decide (S<0))])) 2 16 lv (.rsl M.nx 0 1 2)=some (aS,al):=c6;simp[cT];rw[ej];simp[ek,WA];rw[en];have ao:=an.new q P (b:=h7.nx) (by have:=b2.lt;omega) (by omega) bs;have c7:al.E k3=some [I 15,W,.D,.D,I 0,I 0,.bool false,I 0,I 0,I 0,I 0,I 0,I N,lv,I 0]:=ao.b;have b7:al.E kr=some ((ak T).map az):=by rw[aV (bs kr (by omega))];exact b6
   have eo:kSt al 1 (.ptr k3 13) aS=some (.undef,al.set k3 (.cells (edC 15 W N aS))):=by
    have c8:=bp;rcases c8 with⟨_,h0,_⟩|⟨k,ep,_⟩
    ·omega
    rw[ep];simp[c7];rfl
   simp[];rw[eo];simp[];have er:=ao.lt;refine⟨m,by omega,.mk m (acc++[S]) t5 aS (ao.zE q P _) ?_ (by rw[csn];exact b7) (by simp;omega) bd.lt ?_ aw ?_⟩
   ·have e1:(acc++[S]).length=acc.length+1:=by simp
    have e2:(hH (acc++[S])).flatten=(hH acc).flatten++clP S:=by simp[hH]
    rw[e1,e2];exact bp.set (by have:=b2.lt;omega) _
   ·unfold left at hm ⊢;rw[Z b3]at hm;split
    ·rename_i b4;have:=bk b4;have:=bd.lt;omega
    omega
   intro b4;have:=bk b4;have:=hlen b3;rw[au];simp only[dP];omega
  rw[O k1]at hX;subst hX;have a1:¬14+K=16:=by omega
  have a2:¬14+K=15:=by omega
  simp[xT,a1,a2];exact .mk (14+K) .D 0 .D B ⟨rfl,rfl⟩ λh5 cn cr=>Cn .fo .fo
 rintro vs h' hM;cases hM with
 |mk k r n c hp ho hf=>
 have hb:h'.E k3=some [I k,r,.D,.D,I 0,I 0,.bool false,I 0,I 0,I 0,I 0,I 0,I n,c,I 0]:=hp.b;have hr:h'.E h.nx=some [I 0,.D,.D,.D,I 0,I 0,.bool false,I 0,I 0,I 0,I 0,I 0,I 0,.D,I 0]:=hp.r;have cl:=hp.lt;have o1:=ho.1;have o2:=ho.2;simp[W4,hb,hr,o1,o2];refine⟨hf _ (ay _) λi q1 q2=>by rw[gsn],?_,(show h.nx<=h'.nx by omega),λi q1 q2=>by rw[gsn];exact hp.get i q1 q2⟩;rw[csn];exact hp.a
theorem L3.gj{r:LA}(l:L3 h h' c1 r)(q:GJ h):GJ h':=
 have A:=q.2;q.mG (λi hi=>l.get i (by omega)) (by have:=l.nx;omega)
abbrev Pt4(h:AH)(s:Str):LA:=.str s::Pt3 h
def LMP(h:AH)(s:Str)(x:List AV×PS):NT:=λvs h'=>vs=Pt4 h s/\∃c2,L3 h h' (scC ⟨s,x.2⟩) c2/\tq h h' c2 x.1
theorem I'(s:Str)(t:PS)(q:t.pos<=s.length):bV s t (kF s t):=by
 have h:=oS s t q;refine⟨h.le,h.lt,λe=>h.ok ?_⟩;unfold kF at e;simp only[aI]at e;exact e.1
theorem af3(h:AH)(i:Nat)(q:i<9):aG h .shl (I 1) (I i)=some (I ((2:Int)^i),h):=by
 have:i=0\/i=1\/i=2\/i=3\/i=4\/i=5\/i=6\/i=7\/i=8:=by omega
 rcases this with rfl|rfl|rfl|rfl|rfl|rfl|rfl|rfl|rfl<;>rfl
abbrev LP(h h':AH)(s:Str)(t:PS)(c:LA):Prop:=GJ h/\LS (scC ⟨s,t⟩) s t.pos h h' c
def LH(h h1:AH)(s:Str)(k:Int)(x:List AV×PS):Prop:=mI (.str s) (.ptr h.nx 0) (.ptr (h.nx+1) 0) (.ptr (h.nx+2) 0) (I k) h1 (LMP h s x)
def LU(s:Str)(t:PS)(h h':AH)(c:LA)(G:Prop):Prop:=LP h h' s t c->h'.E (h.nx+2)=some c->c.length=37->h.nx+3<=h'.nx->G
variable {G:Prop}{off:Nat}{vs:LA}{y:AV}
section
variable {h h':AH} {s:Str} {t:PS} {c:LA} {Q:QT}
theorem zD(L:LP h h' s t c)(q:LU s t h h' c G):G:=q L L.2.l.b L.2.c.len L.2.l.nx
theorem zp{u:PS}(L:LP h h' s t c)(k:bV s t u):LP h (h'.set (h.nx+1) (.cells (scC ⟨s,u⟩))) s u c:=⟨L.1,L.2.r k.lt⟩
theorem kE(L:LP h h' s t c):(GJ h'/\8<=h.nx+1)/\h.nx+1<h'.nx/\(Sc.mk s t).Ok:=⟨⟨L.2.l.gj L.1,by have:=L.1.2;omega⟩,by have:=L.2.l.nx;omega,L.2.hs,L.2.p⟩
theorem hD(L:LP h h' s t c)(hb:off+vs.length<=37:=by simp)(q:vs.all pln=true:=by rfl):LP h (h'.set (h.nx+2) (.cells (stN c off vs))) s t (stN c off vs):=⟨L.1,L.2.st hb q⟩
theorem kp(L:LP h h' s t c)(q:∀h2,LU s (bK s t) h h2 c (Q (I (dB s t)) h2)):tU prog 58 [.ptr (h.nx+1) 0] h' Q:=
 sD (KN (kE L).1 L.2.l.a (kE L).2.1 (kE L).2.2) (zD (zp L (lK s t L.2.p)) (q _))
theorem Iw{l:List Str}(L:LP h h' s t c)(r:SSx h' (h.nx+1) y l)(q:∀h2,LU s (bc s l t) h h2 c (Q (I (bN s l t)) h2)):tU prog 56 [.ptr (h.nx+1) 0,y] h' Q:=
 sD (Ky L.2.l.a (kE L).2.1 (kE L).2.2 r) (zD (zp L (rB s l t L.2.p)) (q _))
theorem XV(l:List Str){k:Nat}(L:LP h h' s t c)(r:k=h'.nx)(A:n=l.length/\n<=1000)(q:∀h2,LU s (bc s l t) h h2 c (Q (I (bN s l t)) h2)):tU prog 56 [.ptr (h.nx+1) 0,.rsl k 0 n 1] (h'.add (.cells (l.map .str))) Q:=by
 have B:=L.2.l.new (h2:=h'.add (.cells (l.map .str))) (by simp) λi hi=>by rw[gan]
 refine Iw ⟨L.1,B,L.2.hs,L.2.p,L.2.c⟩ ⟨.inr ⟨k,by rw[A.1],by have:=L.2.l.nx;omega,by rw[r];exact cas⟩,by omega⟩ q
end
variable {t:PS}
theorem agp(L:LP h h1 s t (stN zIn 0 [I 1])):LH h h1 s 1 (rh s t):=by
 simp[LH,mI];refine sD (Pb trivial) ?_;simp[VY];refine Iw L ⟨.inl rfl,by decide⟩ λ_ L hb q r=>?_
 have : -1<=bN s fx t/\bN s fx t<6:=⟨xy _ _,uN fx _⟩;simp(disch:=first|go_size|fail)[Wr,hb,spl];refine kp (hD L) λ_ L hb q r=>?_
 simp[TR];refine kp L λ_ L hb q r=>?_
 simp[S0];refine kp L λ_ L hb q r=>?_
 simp[WY];refine kp L λ_ L hb q r=>?_
 simp[UT];refine kp L λ_ L hb q r=>?_
 simp[Vn,Wb,hb,spl];exact⟨rfl,(hD (hD (hD (hD (hD L))))).2.fin⟩
theorem ag6(L:LP h h1 s t (stN zIn 0 [I 2])):LH h h1 s 2 (pN s t):=by
 simp[LH,mI];unfold pN;obtain⟨q,r,A⟩:∃q r:Int,nw s t=[I q,I r]:=by unfold nw;split<;>exact⟨_,_,rfl⟩
 refine sD (aaV (kE L).1 L.2.l.a (kE L).2.1 (kE L).2.2) ?_;refine zD (zp L (I' s t L.2.p)) λL hb B C=>?_
 simp only[A];generalize h1.set _ _=h2 at*;simp[hb,spl];refine kp (hD L) λ_ L hb B C=>?_
 simp[hb,spl];exact⟨rfl,(hD L).2.fin⟩
theorem afp(L:LP h h1 s t (stN zIn 0 [I 3])):LH h h1 s 3 (sx s t):=by
 simp[LH,mI];refine kp L λ_ L hb q r=>?_
 simp[hb,spl];exact⟨rfl,(hD L).2.fin⟩
theorem ae_(L:LP h h1 s t (stN zIn 0 [I 4])):LH h h1 s 4 (sJ s t):=by
 simp[LH,mI];refine kp L λ_ L hb q r=>?_
 simp[QX];refine kp L λ_ L hb q r=>?_
 simp[Ud,hb,spl];exact⟨rfl,(hD (hD L)).2.fin⟩
theorem aec(L:LP h h1 s t (stN zIn 0 [I 5])):LH h h1 s 5 (sy s t):=by
 simp[LH,mI];refine XV gm L rfl ⟨rfl,by decide⟩ λ_ L hb q r=>?_
 simp[Re,hb,spl];refine XV iW (hD L) rfl ⟨rfl,by decide⟩ λ_ L hb q r=>?_
 simp[PA,hb,spl];refine kp (hD L) λ_ L hb q r=>?_
 simp[OS,hb,spl];exact⟨rfl,(hD L).2.fin⟩
theorem aev(L:LP h h1 s t (stN zIn 0 [I 6])):LH h h1 s 6 (qK s t):=by
 simp[LH,mI];refine sD (aeE (kE L).1 L.2.l.a (kE L).2.1 (kE L).2.2) ?_;have l:=L.2.l.gM (scC ⟨s,(pB s t).2⟩);have hb:=l.b;have q:=L.2.c.len;simp[PT,hb,spl];exact⟨rfl,_,l.st 15 _ (by simp) rfl,.plain (L.2.c.st 15 _ (by simp) rfl λH=>Jl (AO _ H)).frz⟩
theorem af4(L:LP h h1 s t (stN zIn 0 [I 7])):LH h h1 s 7 (oq s t):=by
 simp[LH,mI,Rj];refine kp L λ_ L hb r q=>?_
 simp[R6];refine kp L λ_ L hb r q=>?_
 simp[Ph,hb,spl];refine sD (BL trivial) ?_;simp[Ot];refine Iw (hD (hD L)) ⟨.inl rfl,by decide⟩ λ_ L hb r q=>?_
 unfold oq ve;simp only;have ob:∀t, -1<=bN s dY t/\bN s dY t<9:=λ_=>⟨xy _ _,uN dY _⟩
 replace ob:=ob (bK s (bK s t))
 generalize bN s dY _=o at*;obtain⟨n,q⟩:∃n:Nat,n=(max o 0).toNat:=⟨_,rfl⟩;have A:n<9:=by omega
 have hm:∀h:AH,jk h true (I 0) (I o)=some (I n,h):=λh=>by rw[Am,show max 0 o=(n:Int)by omega]
 rw[<-q];simp[PD];rw[hm];simp[];rw[af3 _ n A];simp[hb,spl];refine kp (hD L) λ_ L hb r q=>?_
 simp[Pz];refine kp L λ_ L hb r q=>?_
 simp[QM];refine sD (Ht (kE L).1 L.2.l.a (kE L).2.1 (kE L).2.2) ?_;refine zD (zp L (tY s _ L.2.p)) λL hb r q=>?_
 generalize AH.set _ _ _=h2 at*;simp[Rg,R4,hb,spl];exact⟨rfl,(hD (hD (hD L))).2.fin⟩
open Go.Eng Go.St Tryz
theorem Mj(s:Str)(t:PS):aM (oC (d_ s t).1)=true:=by
 unfold oC d_;simp only;split
 ·rfl
 split
 ·rfl
 rfl
theorem MF(s:Str)(t:PS):∀H:AH,bU H false (gC (d_ s t).1) (gC (d_ s t).1):=by
 have K:∀(x:Str) (H:AH),Frz H false (.psl (iE x)) (.psl (iE x)):=λx H=>
  .psl rfl _ _ rfl (λi x y r q=>by rw[r]at q;cases q;rfl) λi M y j c d r q A B=>by
   rw[r]at q;cases q;rw[A]at B;cases B;obtain⟨n,_,rfl⟩:=eK.1 (cQ r);match j with
   |0=>simp at A;subst A;exact .int _ _
   |j+1=>simp at A
 have C:∀(l:List Int) (H:AH),Frz H false (.psl (hH l)) (.psl (hH l)):=λl H=>
  .psl rfl _ _ rfl (λi x y r q=>by rw[r]at q;cases q;rfl) λi M y j c d r q A B=>by
   rw[r]at q;cases q;rw[A]at B;cases B;exact Lo l M (cQ r) H j c A
 intro H;unfold gC d_;simp only;split
 ·exact kW (K _ H) .fo
 split
 ·exact kW (K _ H) (C _ H)
 exact kW .fo .fo
theorem ahb(L:LP h h1 s t (stN zIn 0 [I 8])):LH h h1 s 8 (gC (d_ s t).1,(d_ s t).2):=by
 obtain⟨B,r,hs,hp,_⟩:=L;have M:=B.2;unfold LH;simp[mI,DA];refine sD (y! (x:=⟨s,t⟩) ⟨r.gj B,by omega⟩ r.a (by have:=r.nx;omega) ⟨hs,hp⟩) ?_;have l_1:=r.gM (scC ⟨s,(d_ s t).2⟩);simp only at l_1 ⊢;have K:=MF s t;have C:=Mj s t;generalize h1.set (h.nx+1) (.cells (scC ⟨s,(d_ s t).2⟩))=h2 at*;generalize d_ s t=X at*;obtain⟨x,t2⟩:=X;simp only at*;have hb:=l_1.b;have q:(oC x).length=15:=rfl;have A:aP (stN zIn 0 [I 8]) 22 (oC x)=some (stN (stN zIn 0 [I 8]) 22 (oC x)):=nJ (show 22+15<=(stN zIn 0 [I 8]).length by decide);have l_2:=l_1.st 22 (oC x) (show 22+15<=37 by decide) C;simp[hb,q,C,A];exact⟨rfl,_,l_2,.plain λH=>K H⟩
theorem aej(q:L3 h h1 (scC ⟨s,t⟩) (stN zIn 0 [I 0])):LH h h1 s 0 (zIn,t):=by
 unfold LH;simp[mI,DA];exact⟨rfl,_,q,.plain DE⟩
variable {X:List AV×PS}
theorem afU(C : -1<=k/\k<8)(B:X=if k=0 then rh s t else if k=1 then pN s t else if k=2 then sx s t else if k=3 then sJ s t else if k=4 then sy s t
 else if k=5 then qK s t else if k=6 then oq s t else if k=7 then(gC (d_ s t).1,(d_ s t).2)else(zIn,t)) (r:GJ h) (A:s.length<=1000000000) (hp:t.pos<=s.length) (q:L3 h h1 (scC ⟨s,t⟩) (stN zIn 0 [I (1+k)])):LH h h1 s (1+k) X:=by
 subst B;have:k = -1\/k=0\/k=1\/k=2\/k=3\/k=4\/k=5\/k=6\/k=7:=by omega
 rcases this with rfl|rfl|rfl|rfl|rfl|rfl|rfl|rfl|rfl
 ·exact aej q
 ·exact agp ⟨r,q,A,hp,.p fu⟩
 ·exact ag6 ⟨r,q,A,hp,.p fu⟩
 ·exact afp ⟨r,q,A,hp,.p fu⟩
 ·exact ae_ ⟨r,q,A,hp,.p fu⟩
 ·exact aec ⟨r,q,A,hp,.p fu⟩
 ·exact aev ⟨r,q,A,hp,.p fu⟩
 ·exact af4 ⟨r,q,A,hp,.p fu⟩
 exact ahb ⟨r,q,A,hp,.p fu⟩
theorem Qk(s:Str)(hg:GJ h)(hs:s.length<=1000000000):ab prog 27 [.str s] h (.tup [.agg (fN s).1,.bool (gD s)]) h:=by
 refine fU (C27 ?_);have h8:=hg.2;simp[g27];have N:L3 h ((((h.add (.cells zIn)).add (.cells (scC ⟨s,⟨0,true,true⟩⟩))).add (.cells zIn)).add (.cells (bC.map .str))) (scC ⟨s,⟨0,true,true⟩⟩) zIn:=by
  refine⟨?_,?_,?_,by simp,λi hi=>?_,rfl,rfl⟩
  ·rw[can (by simp;omega),can (by simp;omega),can];exact cas
  ·rw[can,can];exact cas
  ·rw[can];exact cas
  rw[gan,gan,gan,gan]
 have ad:((((h.add (.cells zIn)).add (.cells (scC ⟨s,⟨0,true,true⟩⟩))).add (.cells zIn)).add (.cells (bC.map .str))).E (h.nx+3)=some (bC.map .str):=cas;change tU prog 56 [.ptr (h.nx+1) 0,.rsl (h.nx+3) 0 8 1] ((((h.add (.cells zIn)).add (.cells (scC ⟨s,⟨0,true,true⟩⟩))).add (.cells zIn)).add (.cells (bC.map .str))) (λv h_1=>DU (.str s) (.ptr h.nx 0) (.ptr (h.nx+1) 0) (.ptr (h.nx+2) 0) v h_1 _)
 generalize(((h.add (.cells zIn)).add (.cells (scC ⟨s,⟨0,true,true⟩⟩))).add (.cells zIn)).add (.cells (bC.map .str))=h1 at*;refine sD (Ky (x:=⟨s,⟨0,true,true⟩⟩) (l:=bC) N.a (by have:=N.nx;omega) ⟨hs,by simp⟩ ⟨.inr ⟨h.nx+3,rfl,by omega,ad⟩,by decide⟩) ?_;have af : -1<=bN s bC ⟨0,true,true⟩/\bN s bC ⟨0,true,true⟩<8:=⟨xy _ _,uN bC _⟩;have aj:=(rB s bC ⟨0,true,true⟩ (by simp)).lt;have P:=N.gM (scC ⟨s,bc s bC ⟨0,true,true⟩⟩);have V:fN s=fN s:=rfl;conv at V=>rhs;unfold fN
 simp only at P V ⊢;generalize h1.set (h.nx+1) (.cells (scC ⟨s,bc s bC ⟨0,true,true⟩⟩))=h2 at*;generalize bN s bC ⟨0,true,true⟩=k at*;generalize bc s bC ⟨0,true,true⟩=t at*;have hb:=P.b;have al:aP zIn 0 [I (1+k)]=some (stN zIn 0 [I (1+k)]):=nJ (show 0+1<=zIn.length by decide);have l_2:=P.st 0 [I (1+k)] (by simp) rfl;have ao:(stN zIn 0 [I (1+k)])[0]?=some (I (1+k)):=rfl;have ar:∀hx:0<(stN zIn 0 [I (1+k)]).length,(stN zIn 0 [I (1+k)])[0]'hx=I (1+k):=λ_=>rfl
 simp(disch:=first|go_size|fail)[DU,hb,al];generalize h2.set (h.nx+2) (.cells (stN zIn 0 [I (1+k)]))=h3 at*;refine⟨LMP h s (fN s),afU af V hg hs aj l_2,?_⟩;unfold gD;clear V;generalize fN s=LL at*;obtain⟨cs,u⟩:=LL;rintro vs B ⟨rfl,c2,C,W⟩;simp only at C W ⊢;have hn:=C.nx;have R:B.E (h.nx+1)=some [.str s,I u.pos,.bool u.first,.bool u.ok]:=C.a;have hb:=C.b;have hr:=C.r;have q:cut c2 0 37=some c2:=by
  have:=cS (α:=c2) (b:=[]) (n:=37) C.len;rwa [bO]at this
 have K:=C.one;have hlen:=C.len;have M:aP zIn 0 c2=some c2:=iH (by rw[hlen];rfl);have A:∀(b:Bool),b=(u.ok&&decide (u.pos=s.length))->Frz (fresh ((AH.mk B.H (B.nx+16)).set h.nx (.cells c2)) h.nx) false (.tup [.agg c2,.bool b]) (.tup [.agg cs,.bool (u.ok&&decide (u.pos=s.length))])/\h.nx<=((AH.mk B.H (B.nx+16)).set h.nx (.cells c2)).nx/\∀i,i<h.nx->((AH.mk B.H (B.nx+16)).set h.nx (.cells c2)).H.get i=h.H.get i:=λb hb=>by
  subst hb;refine⟨kU (Kq (W _ (by simp) λi h1 h2=>by rw[gsn])) (.bool _),by simp;omega,λi hi=>?_⟩;rw[gsn];exact C.get i hi
 have U:decide ((u.pos:Int)=s.length)=decide (u.pos=s.length):=by rw[pY];omega
 have an:bT (.read (h.nx+1)) (.eff (AH.mk B.H (B.nx+16)) ((AH.mk B.H (B.nx+16)).set h.nx (.cells c2)))=true:=kM _ _ _ _ (by omega);have S:bU (fresh ((AH.mk B.H (B.nx+16)).set h.nx (.cells c2)) h.nx) false c2 cs:=W _ (by simp) λi h1 h2=>by rw[gsn]
 cases T:u.ok
 ·rw[T]at R A;have hz:=A false (by simp);simp[GX,hb,R,q,Ei,hlen,K,hr,M,q];exact⟨S,by omega,hz.2.2⟩
 rw[T]at R A;have hz:=A (decide (u.pos=s.length)) (by simp);simp[GX,hb,R,q,Ei,hlen,K,hr,M,q,R];exact⟨⟨S,U⟩,by omega,hz.2.2⟩
open Go.RowKit
theorem R9:∀s:Str,Lib.index s [10]=if(s.takeWhile (· != 10)).length<s.length then((s.takeWhile (· != 10)).length:Int)else -1
 |[]=>rfl
 |b::l=>by
  have r:=R9 l;have hle:=ln (· != 10) l;unfold Lib.index;by_cases hb:b=10
  ·subst hb;simp
  have h1:(List.isPrefixOf [10] (b::l))=false:=by
   simp[List.isPrefixOf,lI hb]
  have h2:(b::l).takeWhile (· != 10)=b::l.takeWhile (· != 10):=by
   rw[tL (by simpa using hb)]
  rw[h1,h2,r];simp only[aF,dT,bH];by_cases q:(l.takeWhile (· != 10)).length<l.length
  ·rw[Z q,Z (show(l.takeWhile (· != 10)).length+1<l.length+1 by omega)];have:¬(((l.takeWhile (· != 10)).length:Int) == -1)=true:=by simp
   rw[O this];simp
  rw[O q,O (show ¬(l.takeWhile (· != 10)).length+1<l.length+1 by omega)];rfl
def ei(s:Str):Str:=s.takeWhile (· != 10)
theorem agJ:Fex prog 89:=⟨_,func89,rfl,by decide⟩
theorem ab0:∀s:Str,Lib.indexByte s 10=if(ei s).length<s.length then((ei s).length:Int)else -1:=by
 intro s;rw[<-Lib.index_one];exact R9 s
theorem acf(s:Str)(_:True):ab prog 89 [.str s,.str [10]] h (I (if(ei s).length<s.length then((ei s).length:Int)else -1)) h:=by
 refine ab.lib agJ λown β wd cargs hs q=>?_
 have:=wu q;subst this;refine(aiu ⟨s.toArray⟩ 10 wd).mono ?_;rintro e w' ⟨rfl,rfl⟩;have r:Lib.indexByte (⟨s.toArray⟩:ByteArray).data.toList 10=if(ei s).length<s.length then((ei s).length:Int)else -1:=ab0 s
 rw[r];exact⟨_,rfl,.int _ _,Below.refl _ _⟩
theorem TU(s:Str):(ei s).length<=s.length:=ln (· != 10) s
theorem Nu(s:Str):s.take (ei s).length=ei s:=by
 obtain⟨r,h1,_⟩:=rM (· != 10) s;have h2:s=ei s++r:=h1;conv=>lhs;rw[h2]
 rw[<-h2];conv=>lhs;arg 2;rw[h2]
 rw[tV rfl]
theorem aaN(h:¬(ei s).length<s.length):ei s=s:=by
 have h1:=Nu s;have h2:=TU s;rw[dH (by omega)]at h1;exact h1.symm
theorem Lz{a b:AV}(h1:Frz H false a a)(h2:Frz H false b b)(q:Frz H false c c):Frz H false (.tup [a,b,c]) (.tup [a,b,c]):=qb h1 h2 q
def Jk(s:Str):AV:=.tup [.str (ei s),.str (s.drop ((ei s).length+1)),.bool (decide ((ei s).length<s.length))]
theorem acy{h:AH}(s:Str)(C:s.length<=1000000000):ab prog 55 [.str s,.str [10]] h (Jk s) h:=by
 refine nM (C55 ?_) (λ_=>Lz (.str _) (.str _) (.bool _));have hle:=TU s;have r:=Nu s;unfold Jk;simp[g55];refine sD (acf s trivial) ?_;by_cases q:(ei s).length<s.length
 ·rw[Z q,eD q];have s1:=λh=>OX (h:=h) (s:=s) (b:=(ei s).length) (by omega)
  have s2:∀h:AH,iD h (.str s) (some (I (((ei s).length:Int)+1))) none=some (.str (s.drop ((ei s).length+1)),h):=λh=>Lw (h:=h) (s:=s) (a:=(ei s).length+1) (by omega)
  rw[r]at s1;generalize(ei s)=c at*;simp(disch:=first|go_size|fail)[s1,U1,s2]
 rw[O q,dx q];have A:=aaN q;have B:s.drop ((ei s).length+1)=[]:=gp (by omega);rw[B,A];simp[]
theorem ag3(s:Str)(r:GJ h)(q:s.length<=1000000000):ab prog 26 [.str s,.str [10]] h (.tup [.str (ei s),.str (s.drop ((ei s).length+1)),.bool (decide ((ei s).length<s.length))]) h:=by
 refine wv (C26 ?_) (λ_=>Lz (.str _) (.str _) (.bool _));simp[g26];refine sD (acy s q) ?_;unfold Jk;simp[U3]
theorem Mc(s:Str):Cel (fN s).1:=by
 unfold fN rh Jn sx sJ sy qK oq ve;simp only;generalize bc s bC ⟨0,true,true⟩=t at*;generalize bN s bC ⟨0,true,true⟩=k at*;split
 ·exact .p fu
 split
 ·obtain⟨r,A,q⟩:∃r A:Int,nw s t=[I r,I A]:=by unfold nw;split<;>exact⟨_,_,rfl⟩
  unfold pN;rw[q];exact .p (.p (.p fu))
 split
 ·exact .p (.p fu)
 split
 ·exact .p (.p (.p fu))
 split
 ·exact .p (.p (.p fu))
 split
 ·exact(Cel.p fu).st 15 _ (by simp) rfl λH=>Jl (AO _ H)
 split
 ·exact .p (.p (.p (.p (.p (.p (.p fu))))))
 split
 ·refine⟨rfl,?_,MF _ _⟩;have h1:=Mj s t;have h2:gC (d_ s t).1=stN (stN zIn 0 [I 8]) 22 (oC (d_ s t).1):=rfl;rw[h2];exact KZ rfl h1
 exact fu
variable {lv:AV}{out:List (LA)}
theorem RP.gj(p:RP h h' lv out)(q:GJ h):GJ h':=
 have r:=q.2;q.mG (λi hi=>p.get i (by omega)) p.nx
inductive QI(h:AH)(R:Option (List (List AV))×Nat×Int):Nat->List AV->AH->Prop
 |mk {h':AH} (n:Nat) (s:Str) (lv:AV) (out:List (LA)) (hP:RP h h' lv out) (hs:s.length<=1000000000) (hn:s.length<=n) (hq:prs (λl=>(fN l).1) gD n s out=R) (hol:out.length<=200):QI h R s.length [.str s,lv] h'
theorem acT(s:Str)(hg:GJ h)(hs:s.length<=1000000000):ab prog 12 [.str s] h (YR (yF s)) h:=by
 refine fU (C12 ?_);unfold yF;generalize hR:prs (λl=>(fN l).1) gD s.length s []=R;simp[g12];refine⟨QI h R,s.length,?_,?_⟩
 ·exact .mk s.length s .D [] ⟨OL.start _ _ _,ay _,λ_ _=>rfl,by simp⟩ hs (ay _) hR (by simp)
 rintro m vs h' hI;cases hI with
 |mk n s lv out r hs hn B a7=>
 have hlen:=Nd r.ol;by_cases C:s=[]
 ·subst C;have an:R=(some out,out.length,0):=by
   rw[<-B];cases n with
   |zero=>rfl
   |succ n=>unfold prs;rw[Z rfl]
  subst an;simp[Ez,yk,Fb,hlen];exact⟨qb (Z' r.cel r.ol (ay _)) (.int _ _) (.int _ _),r.nx,r.get⟩
 have a6:=j5.2 C;obtain⟨n,rfl⟩:∃k,n=k+1:=⟨n-1,by omega⟩;unfold prs at B;rw[O C]at B;simp[Ez,C];refine sD (ag3 s (r.gj hg) hs) ?_;have a8:(ei s).length<=s.length:=ln (· != 10) s;have ba:(s.drop ((ei s).length+1)).length=s.length-((ei s).length+1):=bW;have ao:s.takeWhile (· != 10)=ei s:=rfl;rw[ao]at B;generalize ei s=w at*;by_cases h2:200<=out.length
 ·rw[Z h2]at B;subst B;have M:(200:Int)<=out.length:=by omega
  simp[FO,hlen,M,yk];exact⟨qb .D (.int _ _) (.int _ _),r.nx,r.get⟩
 rw[O h2]at B;have M:¬(200:Int)<=out.length:=by omega
 simp[FO,hlen,M];refine sD (Qk w (r.gj hg) (by omega)) ?_;have q:=Mc w;generalize(fN w).1=cells at*;have V:aP [I 0,I 0,I 0,I 0,I 0,I 0,I 0,I 0,I 0,I 0,I 0,I 0,.bool false,.bool false,I 0,.D,I 0,I 0,I 0,I 0,I 0,.str [],I 0,.D,.D,.D,I 0,I 0,.bool false,I 0,I 0,I 0,I 0,I 0,I 0,.D,I 0] 0 cells=some cells:=iH (by rw[q.len];rfl);have ar:aQ [I 0,I 0,I 0,I 0,I 0,I 0,I 0,I 0,I 0,I 0,I 0,I 0,.bool false,.bool false,I 0,.D,I 0,I 0,I 0,I 0,I 0,.str [],I 0,.D,.D,.D,I 0,I 0,.bool false,I 0,I 0,I 0,I 0,I 0,I 0,.D,I 0] [(0,37,.agg cells)]=some cells:=ahK q.len q.one rfl;have W:cut cells 0 37=some cells:=by
  have:=cS (α:=cells) (b:=[]) (n:=37) q.len;rwa [bO]at this
 have ad:=q.len;have af:=q.one;have bb:=r.nx;have S:∀i,i<h'.nx->((h'.add (.cells zIn)).set h'.nx (.cells cells)).H.get i=h'.H.get i:=λi hi=>by rw[gsn,gan]
 have A:RP h ((h'.add (.cells zIn)).set h'.nx (.cells cells)) lv out:=⟨r.ol.aY (by simp) λi _ hi=>S i hi,by simp;omega,λi hi=>by rw[S i (by omega)];exact r.get i hi,r.cel⟩;have av:((h'.add (.cells zIn)).set h'.nx (.cells cells)).nx=h'.nx+1:=by simp
 have T:((h'.add (.cells zIn)).set h'.nx (.cells cells)).E h'.nx=some cells:=cse;simp[VC,ad,af,V];change qz (xS lv (.str (s.drop (w.length+1))) (.bool (decide (w.length<s.length))) (.ptr h'.nx 0) (.bool (gD w)) ((h'.add (.cells zIn)).set h'.nx (.cells cells))) _
 obtain⟨k9,aj⟩:∃k9,k9=h'.nx:=⟨_,rfl⟩;rw[<-aj]at T A av ⊢;generalize(h'.add (.cells zIn)).set k9 (.cells cells)=h5 at*;refine⟨λvs h6=>vs=[lv,.str (s.drop (w.length+1)),.ptr k9 0,.bool (!(gD w) || !(decide (w.length<s.length)))]/\h6=h5,?_,?_⟩
 ·cases U:gD w
  ·simp[xS]
  simp[xS]
 rintro vs h6 ⟨rfl,rfl⟩;by_cases K:gD w=true/\w.length<s.length
 ·rw[Z K]at B;obtain⟨N,h3,aw,aS,bd,aT⟩:=kt (bytes:=376) (tc:=cells) A.ol A.nx q.len q.one (by omega) (by omega);have al:fy (h6.add (.cells cells)) 37 376 lv (.rsl h6.nx 0 1 37)=some (N,h3):=aw;simp[G1,K,T,W,ar];rw[al];have a1:RP h h3 N (out++[cells]):=by
   refine⟨?_,by omega,λi hi=>by rw[aT i hi];exact A.get i hi,?_⟩
   ·rw[au,dP,List.flatten_append];simpa using aS
   intro y P;rcases nC.1 P with P|P
   ·exact r.cel y P
   rw[j6.1 P];exact q
  simp[];exact⟨(s.drop (w.length+1)).length,by omega,.mk n _ N (out++[cells]) a1 (by omega) (by omega) B (by rw[au,dP];omega)⟩
 rw[O K]at B;subst B;have hb:(!(gD w) || !(decide (w.length<s.length)))=true:=by
  cases U:gD w
  ·rfl
  have:¬w.length<s.length:=λe=>K ⟨U,e⟩
  simp[this]
 rw[hb];simp[G1,hlen,yk];exact⟨qb .D (.int _ _) (.int _ _),A.nx,A.get⟩
