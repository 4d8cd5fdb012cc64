/- ScriptInputs, walked. -/
import Derived.Test.YtndpneieplopaaaGreatDoorStXk
set_option linter.unusedSimpArgs false
set_option linter.unusedVariables false
noncomputable section
namespace Go.Proofs.YtndpneieplopaaaGreatDoor
open Go.Eng Go.St Go.RowKit Tryz
variable {h:AH}{A:AV}{Q:QT}
theorem TN(L:List Inp)(b:List (LA))(q:GJ h)(t:Lst h A b)(u:vk L b)(j:∀i∈L,BW i)(x:Q (.tup [.str (jL L).1,I (jL L).2]) h):tU prog 17 [A] h Q:=by
 refine sD (abg h A L b q ⟨t,u,λi hi=>⟨(j i hi).lb,(j i hi).ib,(j i hi).w⟩⟩) ?_;rw[aaR L λi hi=>⟨(j i hi).w,(j i hi).p⟩];exact x
theorem TD(L:List Inp)(b:List (LA))(q:Lst h A b)(t:vk L b)(j:∀i∈L,BW i)(u:Q (.tup [.str (jL L).1,I (jL L).2]) h):tU prog 10 [A] h Q:=
 sD (aa3 A L b ⟨q,t,λi hi=>⟨(j i hi).pb,bf (j i hi).p (by omega)⟩⟩) u
structure PlB(i:Inp):Prop where
 tm : -100000<=i.time/\i.time<=100000
 ver : -100000<=i.ver/\i.ver<=100000
 unit : -100000<=i.unit/\i.unit<=100000
 bw:∀a b c:Int, -1<=a->a<=1 -> -1<=b->b<=1->BW {i with time:=i.time+a,ver:=i.ver+b,unit:=i.unit+c}
variable {i:Inp}
theorem PlB.self(h:PlB i):BW i:=by
 have:=h.bw 0 0 0 (by omega) (by omega) (by omega) (by omega);simpa using this
inductive QI1(h:AH)(A B:AV)(L:List Inp):Nat->List AV->AH->Prop
 |mk {m:Nat} {h':AH} (i:Nat):i+m=L.length->(∀x∈L.take i,smB x=true)->Fr h h'->QI1 h A B L m [A,B,I i] h'
inductive QI2(h2:AH)(id:Nat)(r:Nat):List AV->AH->Prop
 |mk {h':AH} (x:Sr) (j1 j2:Inp) (k:Nat):x.Ok->BW j1->BW j2->Ob h2 h' id (srC x)->h2.nx<=k->k<h'.nx->h'.E k=some (inC j1++inC j2)->QI2 h2 id r [.ptr id 0,I r,.rsl k 0 2 37] h'
inductive QI3(h2:AH)(id:Nat):Nat->List AV->AH->Prop
 |mk {m:Nat} {h':AH} (r:Nat) (x:Sr):r+m=4->x.Ok->Ob h2 h' id (srC x)->QI3 h2 id m [.ptr id 0,I r] h'
variable {k:Nat}
theorem adl{h2 j:AH}{p q:Inp}(t:h2.nx<=k)(u:k<j.nx)(b:j.E k=some (inC p++inC q)):Lst j (.rsl k 0 2 37) [inC p,inC q]:=by
 refine aeG (hb:=h2) (.inr ⟨k,rfl,by simp,t,u,?_,by simp[(Bg _).len]⟩) (λc b=>?_)
 ·simpa using b
 simp at b;rcases b with rfl|rfl<;>exact(Bg _).len
theorem aeV(h:AH)(L:List Inp)(l:List Int)(hg:GJ h)(hm:∀i∈L,i.rt.length<=maxLen)(hL:(∀i∈L,smB i=true)->∀i∈L,BW i)(ba:∀x:Sr,PlB (plI x)):ab prog 4 [.psl (L.map inC),ints l] h (.bool true) h:=by
 refine dj (λ_=>.bool _) (C4 ?_);have l1:∀h:AH,bn h (.psl (L.map inC))=some (I L.length,h):=λh=>by simp
 have hA:∀h,Lst h (.psl (L.map inC)) (L.map inC):=λh=>U0 (.inl rfl) (λc hc=>by
  obtain⟨i,_,rfl⟩:=eK.1 hc;rfl)
 by_cases S:(6:Int)<L.length
 ·simp[g4,l1,S];exact Fr.refl h
 have hI:=KY L;simp[g4,l1,S];refine⟨QI1 h (.psl (L.map inC)) (ints l) L,L.length,.mk 0 (by simp) (by simp) (Fr.refl h),?_⟩;rintro m vs q ⟨i,eS,al,R⟩;have eT:=hg.fr R;cases m with
 |succ m=>
  have hi:i<L.length:=by omega
  have bb:(i:Int)<L.length:=by omega
  obtain⟨p,hp⟩:=(hA q).at_ i (inC L[i]) (by simp[hi]);have p1:=(hp q (Fr.refl q)).1;have p2:=(hp q (Fr.refl q)).2;have cx:=hm _ (gG hi);have cy:∀x∈L.take (i+1),smB L[i]=true->smB x=true:=λx K hs=>by
   rw[vD hi]at K;rcases nC.1 K with K|K
   ·exact al x K
   rw[j6.1 K];exact hs
  generalize L[i]=y at*;generalize cN:(AV.psl (L.map inC))=A at*;simp[II,l1,bb,p1,p2];refine sD (adn y cx) ?_;cases hs:smB y
  ·simp[FJ];exact R
  simp(disch:=first|go_size|fail)[];exact⟨m,by omega,.mk (i+1) (show i+1+m=L.length by omega) (λx K=>cy x K hs) R⟩
 |zero=>
  obtain rfl:i=L.length:=by omega
  rw[oM]at al;have hB:=hL al;have bd:=λh=>hA h
  have bb:¬((L.length:Int)<L.length):=by omega
  generalize cN:(AV.psl (L.map inC))=A at*;simp(disch:=first|go_size|fail)[II,l1];unfold FJ;simp(disch:=first|go_size|fail)[];unfold HB;simp(disch:=first|go_size|fail)[];refine aio l ?_;have K:=acI l;have bp:(q.add (.cells (srC (mn l)))).E q.nx=some (srC (mn l)):=cas;have hid:q.nx<(q.add (.cells (srC (mn l)))).nx:=by simp
  have C:Fr h (q.add (.cells (srC (mn l)))):=R.add _;have bs:=R.nx;generalize q.add (.cells (srC (mn l)))=h2 at*;have cR:=hg.fr C;generalize mn l=x at*;refine TN L (L.map inC) cR (bd h2) hI hB ?_;simp[Ye];refine TD L (L.map inC) (bd h2) hI hB ?_;generalize(jL L).1=u at*;generalize(jL L).2=e at*;simp[X4];refine⟨λvs h3=>vs=[.ptr q.nx 0,.bool false]/\h3=h2,?_,?_⟩
  ·simp[XA]
  rintro vs h3 ⟨rfl,rfl⟩;simp[W9];refine⟨QI3 h3 q.nx,4,.mk 0 x (by omega) K (Ob.start bp),?_⟩;clear K bp;rintro m vs h4 ⟨r,x,hr,K,t⟩;have bx:Fr h h4:=⟨by have:=t.nx;have:=C.nx;omega,λi hi=>by rw[t.get i (by omega) (by have:=C.nx;omega)];exact C.get i hi⟩;have cT:=hg.fr bx;cases m with
  |zero=>
   obtain rfl:r=4:=by omega
   simp[IK,X9];unfold IH;simp[];refine sD (acX cT trivial) ?_;simp[];exact bx
  |succ m=>
   have cf:(r:Int)<4:=by omega
   simp[IK,cf];refine sD (R5 t.c (t.lt hid) K) ?_;have t:=t.set (srC (plS x));have bY:=Wk K;have an:=ba x;generalize h4.set q.nx (.cells (srC (plS x)))=h5 at*;generalize plI x=i1 at*;generalize plS x=x2 at*;obtain⟨eW,hZ⟩:∃eW:List AV,eW=zIn++zIn:=⟨_,rfl⟩;have b0:eW=[I 0,I 0,I 0,I 0,I 0,I 0,I 0,I 0,I 0,I 0,I 0,I 0,.bool false,.bool false,I 0,.D,I 0,I 0,I 0,I 0,I 0,.str [],I 0,.D,.D,.D,I 0,I 0,.bool false,I 0,I 0,I 0,I 0,I 0,I 0,.D,I 0,I 0,I 0,I 0,I 0,I 0,I 0,I 0,I 0,I 0,I 0,I 0,I 0,.bool false,.bool false,I 0,.D,I 0,I 0,I 0,I 0,I 0,.str [],I 0,.D,.D,.D,I 0,I 0,.bool false,I 0,I 0,I 0,I 0,I 0,I 0,.D,I 0]:=hZ;unfold XP;rw[<-b0];simp[];refine sD (R5 t.c (t.lt hid) bY) ?_;have t:=t.set (srC (plS x2));have b3:=Wk bY;have ad:=ba x2;generalize h5.set q.nx (.cells (srC (plS x2)))=S at*;generalize plI x2=i2 at*;generalize plS x2=x3 at*;have c1:aP eW 0 (inC i1)=some (inC i1++zIn):=by rw[hZ];rfl
   have c6:aP (inC i1++zIn) 37 (inC i2)=some (inC i1++inC i2):=rfl;have bs:=(Bg i1).len;have c7:=(Bg i2).len;clear hZ b0;simp[bs,c7,c1,c6];have ao:=t.app (h2:=S.add (.cells (inC i1++inC i2))) hid (by simp) (λi hi=>by rw[uz,O (by have:=t.nx;omega)]);have c8:(S.add (.cells (inC i1++inC i2))).E S.nx=some (inC i1++inC i2):=cas;have dc:S.nx<(S.add (.cells (inC i1++inC i2))).nx:=by simp
   have b4:=t.nx;generalize S.add (.cells (inC i1++inC i2))=h7 at*;generalize S.nx=j at*;refine sD (n_d 3 ao.c (ao.lt hid) ⟨b3,by omega⟩) ?_;have b5:=ao.set (srC (nS x3 3));have av:=aN b3 3;have aw:(h7.set q.nx (.cells (srC (nS x3 3)))).E j=some (inC i1++inC i2):=by rw[csn];exact c8
   have dd:j<(h7.set q.nx (.cells (srC (nS x3 3)))).nx:=dc;generalize h7.set q.nx (.cells (srC (nS x3 3)))=M at*;generalize nS x3 3=N at*;generalize nV x3 3=c3 at*;simp[];refine⟨QI2 h3 q.nx r,?_,?_⟩
   ·by_cases h0:c3=0
    ·have b6:∀h:AH,aC h 37 (.rsl j 0 2 37) (I 0)=some (.ptr j 0,h):=λh=>gO (i:=0) (by omega) (by omega)
     have af:∀h:AH,aC h 37 (.rsl j 0 2 37) (I 1)=some (.ptr j 37,h):=λh=>gO (i:=1) (by omega) (by omega)
     have d46:(inC i1++inC i2)[46]?=some (I i2.time):=rfl;have aS:¬j=q.nx:=by omega
     have et:¬q.nx=j:=by omega
     simp[I2,h0,af,aw,d46];have t:=b5.bump (M.nx+10) (by omega);have aT:(AH.mk M.H (M.nx+10)).E j=some (inC i1++inC i2):=aw;have df:j<(AH.mk M.H (M.nx+10)).nx:=by show j<M.nx+10;omega
     have eV:(AH.mk M.H (M.nx+10)).nx=M.nx+10:=rfl;generalize AH.mk M.H (M.nx+10)=T at*;refine sD (n_d 2 t.c (t.lt hid) ⟨av,by omega⟩) ?_;have m1:=dK N 2;have m2:=dr N (show(1:Int)<=2 by omega);have t:=t.set (srC (nS N 2));have b7:=aN av 2;have cl:(T.set q.nx (.cells (srC (nS N 2)))).E j=some (inC i1++inC i2):=by rw[csn];exact aT
     have ev:j<(T.set q.nx (.cells (srC (nS N 2)))).nx:=df;have dk:bT (.read j) (.eff T (T.set q.nx (.cells (srC (nS N 2)))))=true:=kM _ _ _ _ aS;have ez:(T.set q.nx (.cells (srC (nS N 2)))).nx=T.nx:=rfl;generalize eA:T.set q.nx (.cells (srC (nS N 2)))=z at*;generalize nS N 2=U at*;generalize nV N 2=a at*;have ht:=ad.tm;have ka:=λh=>JQ h i2.time a (by omega) (by omega)
     simp[ka,af];refine⟨by omega,?_⟩;simp[XX,cl,dk];obtain⟨V,a1⟩:∃Y,Y=inC i1++inC {i2 with time:=i2.time+a}:=⟨_,rfl⟩;have ds:aP (inC i1++inC i2) 46 [I (i2.time+a)]=some V:=by rw[a1];rfl
     have d16:V[16]?=some (I i1.ver):=by rw[a1];rfl
     simp[ds,b6,d16];have t:=(t.app (h2:=z.set j (.cells V)) hid (by simp) (λi hi=>by rw[gsn])).bump (z.nx+12) (by simp);have cn:(AH.mk (z.set j (.cells V)).H (z.nx+12)).E j=some V:=cse;have cr:j<(AH.mk (z.set j (.cells V)).H (z.nx+12)).nx:=by show j<z.nx+12;omega
     have eB:(AH.mk (z.set j (.cells V)).H (z.nx+12)).nx=z.nx+12:=rfl;generalize AH.mk (z.set j (.cells V)).H (z.nx+12)=G at*;simp[Xv];refine sD (n_d 2 t.c (t.lt hid) ⟨b7,by omega⟩) ?_;have n1:=dK U 2;have n2:=dr U (show(1:Int)<=2 by omega);have t:=t.set (srC (nS U 2));have ca:=aN b7 2;have ct:(G.set q.nx (.cells (srC (nS U 2)))).E j=some V:=by rw[csn];exact cn
     have eC:j<(G.set q.nx (.cells (srC (nS U 2)))).nx:=cr;have eb:bT (.read j) (.eff G (G.set q.nx (.cells (srC (nS U 2)))))=true:=kM _ _ _ _ aS;have eF:(G.set q.nx (.cells (srC (nS U 2)))).nx=G.nx:=rfl;generalize eH:G.set q.nx (.cells (srC (nS U 2)))=B at*;generalize nS U 2=x6 at*;generalize nV U 2=b at*;have hv:=an.ver;have kb:=λh=>JQ h i1.ver b (by omega) (by omega)
     obtain⟨Y2,a6⟩:∃Y,Y=inC {i1 with ver:=i1.ver+b}++inC {i2 with time:=i2.time+a}:=⟨_,rfl⟩;have ec:aP V 16 [I (i1.ver+b)]=some Y2:=by rw[a1,a6];rfl
     have d63:Y2[63]?=some (I i2.unit):=by rw[a6];rfl
     refine⟨by omega,?_⟩;simp(disch:=first|go_size|fail)[kb,b6,ct,ec,eb,af];have t:=(t.app (h2:=B.set j (.cells Y2)) hid (by simp) (λi hi=>by rw[gsn])).bump (B.nx+12) (by simp);have aj:(AH.mk (B.set j (.cells Y2)).H (B.nx+12)).E j=some Y2:=cse;have cu:j<(AH.mk (B.set j (.cells Y2)).H (B.nx+12)).nx:=by show j<B.nx+12;omega
     have eL:(AH.mk (B.set j (.cells Y2)).H (B.nx+12)).nx=B.nx+12:=rfl;generalize AH.mk (B.set j (.cells Y2)).H (B.nx+12)=J at*;simp(disch:=first|go_size|fail)[X0,aj,d63];refine sD (n_d 2 t.c (t.lt hid) ⟨ca,by omega⟩) ?_;have o1:=dK x6 2;have o2:=dr x6 (show(1:Int)<=2 by omega);have t:=t.set (srC (nS x6 2));have ee:=aN ca 2;have cv:(J.set q.nx (.cells (srC (nS x6 2)))).E j=some Y2:=by rw[csn];exact aj
     have eN:j<(J.set q.nx (.cells (srC (nS x6 2)))).nx:=cu;have ej:bT (.read j) (.eff J (J.set q.nx (.cells (srC (nS x6 2)))))=true:=kM _ _ _ _ aS;have eP:(J.set q.nx (.cells (srC (nS x6 2)))).nx=J.nx:=rfl;generalize eR:J.set q.nx (.cells (srC (nS x6 2)))=a7 at*;generalize nS x6 2=x7 at*;generalize nV x6 2=c at*;have hu:=ad.unit;have kc:=λh=>JQ h i2.unit c (by omega) (by omega)
     obtain⟨Y3,cb⟩:∃Y,Y=inC {i1 with ver:=i1.ver+b}++inC {i2 with time:=i2.time+a,unit:=i2.unit+c}:=⟨_,rfl⟩;have ek:aP Y2 63 [I (i2.unit+c)]=some Y3:=by rw[a6,cb];rfl
     refine⟨by omega,?_⟩;simp(disch:=first|go_size|fail)[kc,af,X6,cv,ek,ej];have hQ:=QI2.mk (h2:=h3) (id:=q.nx) (r:=r) (h':=a7.set j (.cells Y3)) x7 {i1 with ver:=i1.ver+b} {i2 with time:=i2.time+a,unit:=i2.unit+c} j ee (by simpa using an.bw 0 b 0 (by omega) (by omega) (by omega) (by omega)) (by simpa using ad.bw a 0 c (by omega) (by omega) (by omega) (by omega)) (t.app (h2:=a7.set j (.cells Y3)) hid (by simp) (λi hi=>by rw[gsn])) b4 (by show j<a7.nx;omega) (by rw[<-cb];exact cse);exact hQ
    simp(disch:=first|go_size|fail)[I2,h0];exact .mk N i1 i2 j av an.self ad.self b5 b4 dd aw
   rintro vs T ⟨y,j1,j2,k,hy,b1,b2,a8,en,eo,aT⟩;have ep:Fr h T:=⟨by have:=a8.nx;have:=C.nx;omega,λi hi=>by rw[a8.get i (by omega) (by have:=C.nx;omega)];exact C.get i hi⟩;have er:=hg.fr ep;have cc:=adl en eo aT;have cd:∀i∈[j1,j2],BW i:=λi hi=>by
    simp at hi;rcases hi with rfl|rfl
    ·exact b1
    exact b2
   unfold Xw;simp(disch:=first|go_size|fail)[];refine TN [j1,j2] _ er cc (KY [j1,j2]) cd ?_;simp(disch:=first|go_size|fail)[XZ];refine TD [j1,j2] _ cc (KY [j1,j2]) cd ?_;generalize(jL [j1,j2]).1=u2 at*;generalize(jL [j1,j2]).2=e2 at*;simp(disch:=first|go_size|fail)[XI];refine⟨λvs z=>vs=[.ptr q.nx 0,I r,.bool false]/\z=T,?_,?_⟩
   ·simp(disch:=first|go_size|fail)[XE]
   rintro vs z ⟨rfl,rfl⟩;simp(disch:=first|go_size|fail)[X3];exact⟨m,by omega,.mk (r+1) y (show r+1+m=4 by omega) hy a8⟩
variable {d:Nat}
theorem GD(b:∀v:Val,GV d v->(cI v).length<=gB d):∀l:List Val,(∀v∈l,GV d v)->(aW (aR l)).length<=l.length*(gB d+1)
 |[],_=>by simp[aR,aW]
 |v::r,h=>by
  have j:=GD b r λu hu=>h u (by simp[hu])
  have h2:=b v (h v (by simp));simp only[aR,aW,au,aF,ie,pX];omega
theorem Jj:∀(d:Nat) (v:Val),GV d v->(cI v).length<=gB d
 |0,_,h=>h.elim
 |d+1,.mk k n s l,h=>by
  obtain⟨p,h2,b,j⟩:=h;have hi:=AF (n:=n) (by omega) (by omega);have q:=pa s;have hs:=n8 s;have t:=GD (Jj d) l j;have u:=rN (aR l);have hm:l.length*(gB d+1)<=3*(gB d+1):=kJ _ b;have x:eI.length=4:=rfl;have y:ed.length=5:=rfl;simp only[cI,gB]
  (repeat' split)
  ·omega
  ·omega
  ·omega
  ·simp only[wQ,aF,au,bz];omega
  ·simp only[aF,au,bz];omega
  simp
theorem IX:∀(d:Nat) (v:Val),d<=5->GV d v->WW v/\WB v
 |0,_,_,h=>h.elim
 |d+1,.mk k n s l,p,h=>by
  have t:=Jj (d+1) _ h;have q:=y6 (d+1) p;have j:=λv b=>IX d v (by omega) (h.2.2.2 v b)
  exact⟨.mk k n s l (by have:=h.1;omega) (by have:=h.2.1;omega) (by have:=h.2.2.1;omega) (λv b=>(j v b).1) (by omega),.mk k n s l (by have:=h.2.2.1;omega) λv b=>(j v b).2⟩
structure PlS(i:Inp):Prop where
 tm : -100000<=i.time/\i.time<=100000
 ver : -100000<=i.ver/\i.ver<=100000
 unit : -100000<=i.unit/\i.unit<=100000
 t:i.t.length<=30
 cls:i.cls.length<=20
 rt:i.rt.length<=60
 al:i.args.length<=2
 av:∀v∈i.args,GV 3 v
 pk : -1000<=i.pk/\i.pk<=1000
 nn:NB i
 cl:∀p∈i.cls,i64 p.1
 ct:i64 i.dE
 cc:i.ct=[]/\i.cr=[]
theorem PlS.pb(h:PlS i)(j:PrB i):PlB i:=by
 refine⟨h.tm,h.ver,h.unit,λa b c S a2 b1 b2=>?_⟩;have K:=h.tm;have z:=h.ver;have M:=h.al;have x:gB 3=429:=rfl;have y:=GD (Jj 3) i.args h.av;rw[x]at y;have N:=rN (aR i.args);obtain⟨n1,T,B,C,G,J⟩:=h.nn;have R:=nI i.t;have U:=h.t;have V:=h.cls;have hR:=h.rt;have q:(cK++aW (aR i.args)).length<=5000:=by
  have:cK.length=4:=rfl;rw[au];omega
 have q1:nb (i.time+a):=by unfold nb bh;omega
 have q2:nb (i.ver+b):=by unfold nb bh;omega
 have u:LB {i with time:=i.time+a,ver:=i.ver+b,unit:=i.unit+c}:=
  lb1 _ h.pk ⟨n1,q1,B,C,⟨q2,G.2⟩,J⟩ (λv p=>(IX 3 v (by omega) (h.av v p)).1) (by show i.args.length<=_;omega) (bf q (by omega)) (by show i.rt.length<=_;omega) ⟨by show(bD i.t).length<=_;omega,by show i.cls.length<=_;omega,h.cl,h.ct⟩
 refine⟨u,⟨by show i.args.length<=_;omega,λv p=>(IX 3 v (by omega) (h.av v p)).2,by show i.t.length<=_;omega,by show i.ct.length<=_;rw[h.cc.1];simp,by show i.cr.length<=_;rw[h.cc.2];simp,by show i.cls.length<=_;omega⟩,⟨j.na,j.vw,j.t,j.rt,j.nc,j.cl⟩,Mi _ u h.t h.cls h.rt ?_,Pe _ h.t h.cls h.rt ?_⟩
 ·exact bf q (by omega)
 show(prA [97,114,103,115] i.args).length<=_
 have:=Cd i.args [97,114,103,115] λv p=>bf (xL 3 v (h.av v p)) (y6 3 (by omega))
 simp only[aF,bz]at this;omega
variable {n:Int}
theorem Jf(x:Sr)(h:1<=n)(h2:n<=100000):-100000<=nV x n/\nV x n<=100000:=by
 have b:=dK x n;have h2:=dr x h;omega
theorem nbs(h : -100000<=n/\n<=100000):nb n:=by unfold nb bh;omega
theorem nbr(h : -1000<=n/\n<=1000):nb n:=nbs (by omega)
theorem nbV(x:Sr)(h:1<=n)(h2:n<=100000):nb (nV x n):=nbs (Jf x h h2)
theorem tn(q : -100000<=i.time/\i.time<=100000)(h2 : -100000<=i.ver/\i.ver<=100000)(u:i.unit=0/\i.dE=0)(x:i.t=[])(j:i.cls=[])(y:i.rt.length<=60)(p:i.args=[])(z : -1000<=i.pk/\i.pk<=1000)(B:NB i)(b:i.ct=[]/\i.cr=[]):PlS i:=
 ⟨q,h2,by omega,by rw[x];simp,by rw[j];simp,y,by rw[p];simp,by rw[p];simp,z,B,by rw[j];simp,by rw[u.2];unfold i64;omega,b⟩
theorem z0:(-100000:Int)<=0/\(0:Int)<=100000:=by omega
theorem rgb(x:Sr)(a b:Int)(j:a<=b)(h2 : -1000<=a)(p:b<=1000):-1000<=rgV x a b/\rgV x a b<=1000:=by
 have j:=dK x (b-a+1);have h2:=dr x (show(1:Int)<=b-a+1 by omega);unfold rgV;omega
theorem afG(c n:Int)(N : -1000<=n/\n<=1000)(x:Sr):PlS (plC c n x).1:=by
 have b:nb n:=nbs (by omega);have u:nb (-n):=nbs (by omega);unfold plC;split
 ·exact tn z0 z0 ⟨rfl,rfl⟩ rfl rfl (fJ _) rfl (rgb x 1 6 (by omega) (by omega) (by omega)) ⟨⟨nbV _ (by omega) (by omega),b,u,nbV _ (by omega) (by omega),nbr (rgb (nS (nS (nS x 6) 9) 99) (-9) 9 (by omega) (by omega) (by omega))⟩,nb0,⟨nb0,nb0⟩,nb0,⟨nb0,nb0⟩,nb0,nb0⟩ ⟨rfl,rfl⟩
 split
 ·exact tn (Jf _ (by omega) (by omega)) z0 ⟨rfl,rfl⟩ rfl rfl (fJ _) rfl pk0 ⟨⟨nb0,nb0,nb0,nb0,nb0⟩,nbV _ (by omega) (by omega),⟨nb0,nb0⟩,nb0,⟨nb0,nb0⟩,nb0,nb0⟩ ⟨rfl,rfl⟩
 split
 ·exact tn (by show -100000<=n/\n<=100000;omega) z0 ⟨rfl,rfl⟩ rfl rfl (fJ _) rfl pk0 ⟨⟨nb0,nb0,nb0,nb0,nb0⟩,b,⟨nb0,nb0⟩,nb0,⟨nb0,nb0⟩,nb0,nb0⟩ ⟨rfl,rfl⟩
 split
 ·exact tn z0 z0 ⟨rfl,rfl⟩ rfl rfl (fJ _) rfl pk0 ⟨⟨nb0,nb0,nb0,nb0,nb0⟩,nb0,⟨b,nbV _ (by omega) (by omega)⟩,nb0,⟨nb0,nb0⟩,nb0,nb0⟩ ⟨rfl,rfl⟩
 split
 ·have:∀k,nb (ji.getD k 0):=λk=>by
   by_cases h:k<ji.length
   ·have h2:ji.getD k 0∈ji:=cQ (by rw[bF h,gF,bF h];rfl);have:=(by decide:∀n∈ji,0<=n/\n<=1000) _ h2;exact nbs (by omega)
   rw[gF,j_ (by omega)];exact nb0
  exact tn z0 z0 ⟨rfl,rfl⟩ rfl rfl (fJ _) rfl pk0 ⟨⟨nb0,nb0,nb0,nb0,nb0⟩,nb0,⟨nb0,nb0⟩,this _,⟨nb0,nb0⟩,nb0,nb0⟩ ⟨rfl,rfl⟩
 split
 ·have h2:=dr x (show(1:Int)<=3 by omega);have C:(itV nj lu (nV x 3).toNat (nS x 3)).length<=2:=by rw[nW];omega
  have hp:∀v∈itV nj lu (nV x 3).toNat (nS x 3),GV 3 v:=r4 (p:=GV 3) (λy=>Iu 2 y) _ _;unfold pl5;generalize itV nj lu (nV x 3).toNat (nS x 3)=L at*;exact⟨z0,z0,z0,by simp[z5A],by simp[z5A],by simp[z5A],C,hp,pk0,⟨⟨nb0,nb0,nb0,nb0,nb0⟩,nb0,⟨nb0,nb0⟩,nb0,⟨nb0,nb0⟩,nb0,nb0⟩,by simp[z5A],by simp[z5A,i64],⟨rfl,rfl⟩⟩
 split
 ·have j:=yE (nS (nS (nS (nS x 9) 9) 9) 9) 4;have he:=nI (vdV (nS (nS (nS (nS x 9) 9) 9) 9) 4);have R:(4:Int).toNat=4:=rfl;have e:∀(v n a f t:Int) (r:Str),(-100000<=v/\v<=100000)->nb n->nb f->nb t->r.length<=60->PlS {Inp.z with kind:=7,ver:=v,node:=n,act:=a,frm:=f,too:=t,rt:=r}:=λv n a f t r j q h2 G J=>tn z0 j ⟨rfl,rfl⟩ rfl rfl J rfl pk0 ⟨⟨nb0,nb0,nb0,nb0,nb0⟩,nb0,⟨nb0,nb0⟩,nb0,⟨nbs j,q⟩,h2,G⟩ ⟨rfl,rfl⟩
  unfold pl6;exact e _ _ _ _ _ _ (Jf _ (by omega) (by omega)) b (nbV _ (by omega) (by omega)) (nbV _ (by omega) (by omega)) (by omega)
 have B:∀(k:Int) (y:Sr),(plT k y).length<=30:=λk y=>by
  unfold plT;split
  ·have:=yE y 5;have S:(5:Int).toNat=5:=rfl;omega
  simp
 have e:∀(k n:Int) (t:List Int) (c:List (Int×Bool)),t.length<=30->c.length<=20->i64 n->(∀p∈c,i64 p.1)->PlS (z7A k t n c):=λk n t c K M q h2=>⟨z0,z0,z0,K,M,by simp[z7A],by simp[z7A],by simp[z7A],pk0,⟨⟨nb0,nb0,nb0,nb0,nb0⟩,nb0,⟨nb0,nb0⟩,nb0,⟨nb0,nb0⟩,nb0,nb0⟩,h2,q,⟨rfl,rfl⟩⟩
 rw[E_];split
 ·refine e _ _ _ _ (B _ _) ?_ (jg (nbV _ (by omega) (by omega))) (r4 (p:=λp:Int×Bool=>i64 p.1) (λy=>jg (nbr (rgb y 1 3 (by omega) (by omega) (by omega)))) _ _);rw[nW];have h2:=dr (nS (gK (rgV x 14 17) (nS x 4)) 6) (show(1:Int)<=3 by omega);omega
 exact e _ _ _ _ (B _ _) (by simp) (jg nb0) (by simp)
theorem aez(x:Sr):PlB (plI x):=by
 refine PlS.pb ?_ (afe x).1;have b:=dK x 1003;have h2:=dr x (show(1:Int)<=1003 by omega);refine afG _ _ ?_ _;unfold rgV;rw[show(999:Int) - -3+1=1003 by omega];omega
end Go.Proofs.YtndpneieplopaaaGreatDoor
end
noncomputable section
namespace Go.Eng
open Go.RowKit
inductive SHr where
 |int (k:IntKind)
 |bool
 |str
 |sl (e:List SHr)
 |no
mutual
inductive vn:AV->SHr->Prop where
 |int (k:IntKind) (n:Int) (h:(Lit.int k n).wf=true):vn (.int k n) (.int k)
 |bool (b:Bool):vn (.bool b) .bool
 |str (s:List UInt8) (h:s.length<=maxLen):vn (.str s) .str
 |sl (xs:List (LA)) (e:List SHr) (h:xs.length<=maxLen) (hx:∀x∈xs,b_ x e):vn (.psl xs) (.sl e)
inductive b_:List AV->List SHr->Prop where
 |nil:b_ [] []
 |cons (a:AV) (s:SHr) (ar:LA) (ss:List SHr) (h:vn a s) (hs:b_ ar ss):b_ (a::ar) (s::ss)
end
theorem b_.len:∀ {ar:LA} {b:List SHr},b_ ar b->ar.length=b.length
 |_,_,.nil=>rfl
 |_,_,.cons _ _ _ _ _ hs=>by simp[hs.len]
theorem b_.append:∀ {ar j:LA} {b p:List SHr},b_ ar b->b_ j p->b_ (ar++j) (b++p)
 |_,_,_,_,.nil,k=>k
 |_,_,_,_,.cons a s ar b h hs,k=>.cons a s _ _ h (hs.append k)
def om(b:TypeId->Nat)(j:TypeId->Option (List SHr)):Nat->List Field->Option (List SHr)
 |_,[]=>some []
 |off,f::fs=>match j f.type with
  |some s=>if f.offset=off/\s.length=b f.type then(match om b j (off+s.length) fs with
   |some r=>some (s++r)
   |none=>none)else none
  |none=>none
def dD(P:Program):Nat->TypeId->Option (List SHr)
 |0,t=>some (List.replicate (P.cellsOf t) .no)
 |n+1,t=>match P.underlying t with
  |some .bool=>some [.bool]
  |some (.int k)=>some [.int k]
  |some .string=>some [.str]
  |some (.slice e)=>match dD P n e with
   |some s=>if s.length=P.cellsOf e/\0<s.length then some [.sl s]else none
   |none=>none
  |some (.struct fs)=>match om P.cellsOf (dD P n) 0 fs.toList with
   |some s=>if s.length=P.cellsOf t then some s else none
   |none=>none
  |_=>none
variable {n m:Nat}{cs:List Value}
section
variable {H:Type} {enc:TypeId×Value->H} {P:Program} {w:World} {spare:Nat->Bool} {held:Bool} {L:Nat->Prop}
theorem NS(u:∀b,¬L b)(p:∀(t:TypeId) (s:List SHr) (cs:List Value) (x:DataW H×List MemPlace),dD P m t=some s->DataW.trod enc P w 0 spare held n t cs=some x->∃ar,b_ ar s/\td w L ar cs):
  ∀(j:List Field) (off:Nat) (s:List SHr),om P.cellsOf (dD P m) off j=some s->(∀f∈j,∃y,DataW.trod enc P w 0 spare held n f.type ((cs.drop f.offset).take (P.cellsOf f.type))=some y)->
   ∃ar,b_ ar s/\∀(i:Nat) (c:AV) (v:Value),ar[i]?=some c->cs[off+i]?=some v->VR w.heap L noB c v
 |[],off,s,hs,_=>by simp[om]at hs;subst hs;exact⟨[],.nil,λi c v h=>by simp at h⟩
 |f::j,off,s,hs,q=>by
  unfold om at hs;split at hs;case h_2=>cases hs
  rename_i s1 z;split at hs;case isFalse=>cases hs
  rename_i h2;split at hs;case h_2=>cases hs
  rename_i r B;cases hs;obtain⟨y,C⟩:=q f (by simp);obtain⟨ar,q1,q2⟩:=p _ _ _ _ z C;obtain⟨G,q3,J⟩:=NS u p j _ _ B λg K=>q g (by simp[K])
  have M:=q1.len;refine⟨ar++G,q1.append q3,λi c v k1 k2=>?_⟩;rw[i_]at k1;split at k1
  ·rename_i hi;refine q2.2 i c v k1 ?_;rw[gN,ifp,ew,h2.1];exact k2
  rename_i hi;refine J (i-ar.length) c v k1 ?_;rw[<-k2];congr 1;omega
theorem KJ(hL:∀b,¬L b):∀(n m:Nat),n<=m->∀(t:TypeId) (s:List SHr) (cs:List Value) (x:DataW H×List MemPlace),dD P m t=some s->DataW.trod enc P w 0 spare held n t cs=some x->∃ar,b_ ar s/\td w L ar cs
 |0,m,_,t,s,cs,x,_,h=>by simp[DataW.trod]at h
 |n+1,0,aj,t,s,cs,x,hs,_=>by omega
 |n+1,m+1,aj,t,s,cs,x,hs,h=>by
  unfold dD at hs;split at hs
  ·rename_i K;cases hs;obtain⟨b,rfl,_⟩:=DataW.trod_bool K h;exact⟨[.bool b],.cons _ _ _ _ (.bool b) .nil,rfl,λi c v u h2=>by
    match i with
    |0=>simp at u h2;subst u;subst h2;exact .bool b
    |i+1=>simp at u⟩
  ·rename_i k K;cases hs;obtain⟨z,rfl,_,hw⟩:=DataW.trod_int K h;exact⟨[.int k z],.cons _ _ _ _ (.int k z hw) .nil,rfl,λi c v u h2=>by
    match i with
    |0=>simp at u h2;subst u;subst h2;exact .int k z
    |i+1=>simp at u⟩
  ·rename_i K;cases hs;obtain⟨z,rfl,_,hw⟩:=DataW.trod_string K h;refine⟨[.str z.data.toList],.cons _ _ _ _ (.str _ (by simpa using hw)) .nil,rfl,λi c v u h2=>?_⟩;match i with
   |0=>
    simp at u h2;subst u;subst h2;have:z=⟨z.data.toList.toArray⟩:=by cases z;simp
    rw[this];exact .str _
   |i+1=>simp at u
  ·rename_i e K;split at hs;case h_2=>cases hs
   rename_i s1 u;split at hs;case isFalse=>cases hs
   rename_i h2;cases hs;rcases DataW.trod_slice K h with⟨rfl,_⟩|⟨a,len,cap,elems,iX,n',hn,rfl,_,_,a1,a6,al,S,_,_⟩
   ·refine⟨[.psl []],.cons _ _ _ _ (.sl [] _ (by simp) (λx S=>by simp at S)) .nil,rfl,λi c v q1 q2=>?_⟩;match i with
    |0=>simp at q1 q2;subst q1;subst q2;exact .eu none 0
    |i+1=>simp at q1
   cases hn;have each:∀i,i<len->∃ar:List AV,b_ ar s1/\∃R,w.cells? 0 (a.add (i*P.cellsOf e)) (P.cellsOf e)=some R/\td w L ar R:=by
    intro i hi;have:=S i hi;obtain⟨y,hy⟩:∃y,elems[i]?=some y:=⟨elems[i],by simp[al,hi]⟩;rw[hy,aZ]at this;obtain⟨R,q1,q2⟩:=this;obtain⟨ar,q3,q4⟩:=KJ hL n m (by omega) e s1 R y u q2;exact⟨ar,q3,R,q1,q4⟩
   obtain⟨l,M,N⟩:=JH len each;have af:∀x∈l,b_ x s1:=λx S=>by
    obtain⟨i,hi⟩:=List.getElem?_of_mem S;exact(N i x hi).1
   refine⟨[.psl l],.cons _ _ _ _ (.sl l s1 (by omega) af) .nil,rfl,λi c v q1 q2=>?_⟩;match i with
   |i+1=>simp at q1
   |0=>
    simp at q1 q2;subst q1;subst q2;by_cases hz:len=0
    ·subst hz;have:l=[]:=mu.1 M;subst this;exact .eu _ _
    have q:∀i j,i<len->j<s1.length->∃v,w.cell? (a.add (i*P.cellsOf e+j))=some v/\∀x c,l[i]?=some x->x[j]?=some c->VR w.heap L noB c v:=by
     intro i j hi hj;obtain⟨y,hy⟩:∃y,l[i]?=some y:=⟨l[i]'(by omega),by simp[M,hi]⟩;obtain⟨q3,R,q4,q5⟩:=N i y hy;obtain⟨_,q6,q7⟩:=World.cells?_some q4;have V:j<R.length:=by omega
     have:=q7 j (by omega);rw[show(a.add (i*P.cellsOf e)).add j=a.add (i*P.cellsOf e+j)by unfold Addr.add;(repeat' split)<;>simp_all [pZ]]at this;refine⟨R[j],by rw[this];simp[V],λx c k1 k2=>?_⟩;rw[hy]at k1;cases k1;exact q5.2 j c _ k2 (by simp[V])
    obtain⟨p,B,_⟩:=q 0 0 (by omega) h2.2;obtain⟨b,o,sp⟩:=a;have an:sp=none:=by
     have:=World.cell?_spot B;simpa[Addr.add]using this
    subst an;have G:∀n,(⟨b,o,none⟩:Addr).add n=⟨b,o+n,none⟩:=λn=>nN b o n
    rw[G]at B;obtain⟨cur,T,U,hb⟩:∃cur T U,w.heap[b]?=some (.cells cur T U):=by
     unfold World.cell? at B;split at B
     ·rename_i c T U hq;exact⟨c,T,U,hq⟩
     cases B
    have J:∀n v,w.cell? ⟨b,o+n,none⟩=some v->cur[o+n]?=some v:=by
     intro n v hv;unfold World.cell? at hv;simp only[hb]at hv;simpa using hv
    have ao:o+l.length*s1.length<=cur.size:=by
     obtain⟨d,C,_⟩:=q (len-1) (s1.length-1) (by omega) (by omega);rw[G]at C;have:=(oN.1 (J _ _ C)).1;rw[<-h2.1]at this;rw[M];have h4:len*s1.length=(len-1)*s1.length+s1.length:=by
      conv=>lhs;rw[show len=(len-1)+1 by omega]
      rw[oO]
     have:=h2.2;omega
    have:=VR.psl (hp:=w.heap) (L:=L) (β:=noB) l s1.length b o cap cur T U hb (hL b) ao (λi x hi=>(N i x hi).1.len) (by omega) (λi x j c v k1 k2 k3=>?_)
    ·rw[M]at this;exact this
    have hi:i<len:=by have:=(aL.1 k1).1;omega
    have hj:j<s1.length:=by
     have:=(aL.1 k2).1;rw[(N i x k1).1.len]at this;exact this
    obtain⟨d,C,av⟩:=q i j hi hj;rw[G]at C;have:=J _ _ C;rw[<-h2.1,<-pZ]at this;rw[k3]at this;cases this;exact av x c k1 k2
  ·rename_i fs K;split at hs;case h_2=>cases hs
   rename_i s1 u;split at hs;case isFalse=>cases hs
   rename_i h2;cases hs;obtain⟨xs,n',hn,_,hlen,aw,hf⟩:=DataW.trod_struct K h;cases hn;obtain⟨ar,q1,q2⟩:=NS (cs:=cs) hL (λt s cs x a b=>KJ hL n m (by omega) t s cs x a b) fs.toList 0 s u λf aS=>by
    obtain⟨i,hi⟩:=List.getElem?_of_mem aS;have ad:fs[i]?=some f:=by simpa using hi
    have aT:i<fs.size:=(oN.1 ad).1;exact⟨xs[i]'(by omega),by rw[hf i f ad];simp[aw,aT]⟩
   exact⟨ar,q1,by rw[q1.len,hlen];exact h2,λi c v k1 k2=>q2 i c v k1 (by rw[j4];exact k2)⟩
  cases hs
end
open Go.RowKit
mutual
def mA:AV->Nat
 |.str s=>s.length+1
 |.psl xs=>mLL xs+1
 |_=>1
def mL:List AV->Nat
 |[]=>0
 |a::l=>mA a+mL l
def mLL:List (LA)->Nat
 |[]=>0
 |x::l=>mL x+mLL l
end
theorem L8:∀(a b:LA),mL (a++b)=mL a+mL b
 |[],b=>by simp[mL]
 |x::a,b=>by simp only[cp,mL,L8 a b];omega
structure zl{H:Type}(bk:DataW H->Nat)(bkA:List (DataW H)->Nat):Prop where
 str:∀s,bk (.lit (.string s))=s.length+1
 lit:∀l,1<=bk (.lit l)
 nil:1<=bk .nil
 sl:∀e r,bkA e+1<=bk (.slice e r)
 agg:∀p,bkA p<=bk (.agg p)
 nilA:bkA []=0
 cons:∀d r,bkA (d::r)=bk d+bkA r
variable {H:Type}
theorem T4{bk:DataW H->Nat}{bkA:List (DataW H)->Nat}(B:zl bk bkA):∀(l:List (LA)) (es:List (DataW H×List MemPlace)),l.length=es.length->(∀(i:Nat) (x:LA) (y:DataW H×List MemPlace),l[i]?=some x->es[i]?=some y->mL x<=bk y.1)->mLL l<=bkA (es.map (·.1))
 |[],[],_,_=>by simp[mLL]
 |[],_::_,h,_=>by simp at h
 |_::_,[],h,_=>by simp at h
 |x::l,e::es,h,hi=>by
  have p:=hi 0 x e rfl rfl;have h2:=T4 B l es (by simpa using h) λi x y b j=>hi (i+1) x y (by simpa using b) (by simpa using j)
  simp only[mLL,da,B.cons];omega
section
variable {H:Type} {bk:DataW H->Nat} {bkA:List (DataW H)->Nat} {enc:TypeId×Value->H} {P:Program} {w:World} {spare:Nat->Bool} {held:Bool} {L:Nat->Prop}
theorem ME(B:zl bk bkA)(C:∀b,¬L b)(z:∀(t:TypeId) (s:List SHr) (cs:List Value) (x:DataW H×List MemPlace),dD P m t=some s->DataW.trod enc P w 0 spare held n t cs=some x->∃ar,b_ ar s/\td w L ar cs/\mL ar<=bk x.1):
  ∀(j:List Field) (off:Nat) (s:List SHr),om P.cellsOf (dD P m) off j=some s->∀(ys:List (DataW H×List MemPlace)),ys.length=j.length->(∀(i:Nat) (f:Field),j[i]?=some f->DataW.trod enc P w 0 spare held n f.type ((cs.drop f.offset).take (P.cellsOf f.type))=ys[i]?)->
   ∃ar,b_ ar s/\mL ar<=bkA (ys.map (·.1))/\∀(i:Nat) (c:AV) (v:Value),ar[i]?=some c->cs[off+i]?=some v->VR w.heap L noB c v
 |[],off,s,hs,ys,_,_=>by simp[om]at hs;subst hs;exact⟨[],.nil,by simp[mL],λi c v h=>by simp at h⟩
 |f::j,off,s,hs,[],p,q=>by simp at p
 |f::j,off,s,hs,y::ys,u,q=>by
  unfold om at hs;split at hs;case h_2=>cases hs
  rename_i s1 G;split at hs;case isFalse=>cases hs
  rename_i h2;split at hs;case h_2=>cases hs
  rename_i r J;cases hs;have p:DataW.trod enc P w 0 spare held n f.type ((cs.drop f.offset).take (P.cellsOf f.type))=some y:=q 0 f rfl;obtain⟨ar,q1,q2,R⟩:=z _ _ _ _ G p;obtain⟨K,q3,S,M⟩:=ME B C z j _ _ J ys (by simpa using u) λi g N=>by simpa using q (i+1) g (by simpa using N)
  have T:=q1.len;refine⟨ar++K,q1.append q3,by rw[L8,da,B.cons];omega,λi c v k1 k2=>?_⟩;rw[i_]at k1;split at k1
  ·rename_i hi;refine q2.2 i c v k1 ?_;rw[gN,ifp,ew,h2.1];exact k2
  rename_i hi;refine M (i-ar.length) c v k1 ?_;rw[<-k2];congr 1;omega
theorem KW(B:zl bk bkA)(hL:∀b,¬L b):∀(n m:Nat),n<=m->∀(t:TypeId) (s:List SHr) (cs:List Value) (x:DataW H×List MemPlace),dD P m t=some s->DataW.trod enc P w 0 spare held n t cs=some x->∃ar,b_ ar s/\td w L ar cs/\mL ar<=bk x.1
 |0,m,_,t,s,cs,x,_,h=>by simp[DataW.trod]at h
 |n+1,0,aj,t,s,cs,x,hs,_=>by omega
 |n+1,m+1,aj,t,s,cs,x,hs,h=>by
  unfold dD at hs;split at hs
  ·rename_i N;cases hs;obtain⟨b,rfl,rfl⟩:=DataW.trod_bool N h;refine⟨[.bool b],.cons _ _ _ _ (.bool b) .nil,⟨rfl,λi c v u h2=>?_⟩,by simpa[mL,mA]using B.lit _⟩;match i with
   |0=>simp at u h2;subst u;subst h2;exact .bool b
   |i+1=>simp at u
  ·rename_i k N;cases hs;obtain⟨z,rfl,rfl,hw⟩:=DataW.trod_int N h;refine⟨[.int k z],.cons _ _ _ _ (.int k z hw) .nil,⟨rfl,λi c v u h2=>?_⟩,by simpa[mL,mA]using B.lit _⟩;match i with
   |0=>simp at u h2;subst u;subst h2;exact .int k z
   |i+1=>simp at u
  ·rename_i N;cases hs;obtain⟨z,rfl,rfl,hw⟩:=DataW.trod_string N h;refine⟨[.str z.data.toList],.cons _ _ _ _ (.str _ (by simpa using hw)) .nil,⟨rfl,λi c v u h2=>?_⟩,by simp[mL,mA,B.str]⟩;match i with
   |0=>
    simp at u h2;subst u;subst h2;have:z=⟨z.data.toList.toArray⟩:=by cases z;simp
    rw[this];exact .str _
   |i+1=>simp at u
  ·rename_i e N;split at hs;case h_2=>cases hs
   rename_i s1 u;split at hs;case isFalse=>cases hs
   rename_i h2;cases hs;rcases DataW.trod_slice N h with⟨rfl,rfl⟩|⟨a,len,cap,elems,iX,n',hn,rfl,rfl,_,aT,a1,al,T,_,_⟩
   ·refine⟨[.psl []],.cons _ _ _ _ (.sl [] _ (by simp) (λx T=>by simp at T)) .nil,⟨rfl,λi c v q1 q2=>?_⟩,by simpa[mL,mA,mLL]using B.nil⟩;match i with
    |0=>simp at q1 q2;subst q1;subst q2;exact .eu none 0
    |i+1=>simp at q1
   cases hn;have each:∀i,i<len->∃ar:List AV,b_ ar s1/\∃S,w.cells? 0 (a.add (i*P.cellsOf e)) (P.cellsOf e)=some S/\td w L ar S/\∀y,elems[i]?=some y->mL ar<=bk y.1:=by
    intro i hi;have:=T i hi;obtain⟨y,U⟩:∃y,elems[i]?=some y:=⟨elems[i],by simp[al,hi]⟩;rw[U,aZ]at this;obtain⟨S,q1,q2⟩:=this;obtain⟨ar,q3,q4,q5⟩:=KW B hL n m (by omega) e s1 S y u q2;exact⟨ar,q3,S,q1,q4,λz hz=>by rw[U]at hz;cases hz;exact q5⟩
   obtain⟨l,R,C⟩:=JH len each;have af:∀x∈l,b_ x s1:=λx T=>by
    obtain⟨i,hi⟩:=List.getElem?_of_mem T;exact(C i x hi).1
   have a6:=T4 B l elems (by omega) λi x y h3 h4=>by
    obtain⟨_,_,_,_,h5⟩:=C i x h3;exact h5 y h4
   have a7:=B.sl (elems.map (·.1)) (iX.map (·.1));refine⟨[.psl l],.cons _ _ _ _ (.sl l s1 (by omega) af) .nil,⟨rfl,λi c v q1 q2=>?_⟩,by simp only[mL,mA];omega⟩;match i with
   |i+1=>simp at q1
   |0=>
    simp at q1 q2;subst q1;subst q2;by_cases hz:len=0
    ·subst hz;have:l=[]:=mu.1 R;subst this;exact .eu _ _
    have q:∀i j,i<len->j<s1.length->∃v,w.cell? (a.add (i*P.cellsOf e+j))=some v/\∀x c,l[i]?=some x->x[j]?=some c->VR w.heap L noB c v:=by
     intro i j hi hj;obtain⟨y,U⟩:∃y,l[i]?=some y:=⟨l[i]'(by omega),by simp[R,hi]⟩;obtain⟨q3,S,q4,q5,_⟩:=C i y U;obtain⟨_,q6,q7⟩:=World.cells?_some q4;have ad:j<S.length:=by omega
     have:=q7 j (by omega);rw[show(a.add (i*P.cellsOf e)).add j=a.add (i*P.cellsOf e+j)by unfold Addr.add;(repeat' split)<;>simp_all [pZ]]at this;refine⟨S[j],by rw[this];simp[ad],λx c k1 k2=>?_⟩;rw[U]at k1;cases k1;exact q5.2 j c _ k2 (by simp[ad])
    obtain⟨p,G,_⟩:=q 0 0 (by omega) h2.2;obtain⟨b,o,sp⟩:=a;have an:sp=none:=by
     have:=World.cell?_spot G;simpa[Addr.add]using this
    subst an;have K:∀n,(⟨b,o,none⟩:Addr).add n=⟨b,o+n,none⟩:=λn=>nN b o n
    rw[K]at G;obtain⟨cur,V,fz,hb⟩:∃cur V fz,w.heap[b]?=some (.cells cur V fz):=by
     unfold World.cell? at G;split at G
     ·rename_i c V fz hq;exact⟨c,V,fz,hq⟩
     cases G
    have M:∀n v,w.cell? ⟨b,o+n,none⟩=some v->cur[o+n]?=some v:=by
     intro n v hv;unfold World.cell? at hv;simp only[hb]at hv;simpa using hv
    have ao:o+l.length*s1.length<=cur.size:=by
     obtain⟨d,J,_⟩:=q (len-1) (s1.length-1) (by omega) (by omega);rw[K]at J;have:=(oN.1 (M _ _ J)).1;rw[<-h2.1]at this;rw[R];have h4:len*s1.length=(len-1)*s1.length+s1.length:=by
      conv=>lhs;rw[show len=(len-1)+1 by omega]
      rw[oO]
     have:=h2.2;omega
    have:=VR.psl (hp:=w.heap) (L:=L) (β:=noB) l s1.length b o cap cur V fz hb (hL b) ao (λi x hi=>(C i x hi).1.len) (by omega) (λi x j c v k1 k2 k3=>?_)
    ·rw[R]at this;exact this
    have hi:i<len:=by have:=(aL.1 k1).1;omega
    have hj:j<s1.length:=by
     have:=(aL.1 k2).1;rw[(C i x k1).1.len]at this;exact this
    obtain⟨d,J,av⟩:=q i j hi hj;rw[K]at J;have:=M _ _ J;rw[<-h2.1,<-pZ]at this;rw[k3]at this;cases this;exact av x c k1 k2
  ·rename_i fs N;split at hs;case h_2=>cases hs
   rename_i s1 u;split at hs;case isFalse=>cases hs
   rename_i h2;cases hs;obtain⟨xs,n',hn,rfl,hlen,aw,hf⟩:=DataW.trod_struct N h;cases hn;obtain⟨ar,q1,q3,q2⟩:=ME (cs:=cs) B hL (λt s cs x a b=>KW B hL n m (by omega) t s cs x a b) fs.toList 0 s u xs (by simpa using aw) λi f hi=>by
    have aS:fs[i]?=some f:=by simpa using hi
    exact hf i f aS
   exact⟨ar,q1,⟨by rw[q1.len,hlen];exact h2,λi c v k1 k2=>q2 i c v k1 (by rw[j4];exact k2)⟩,bf q3 (B.agg _)⟩
  cases hs
end
end Go.Eng
end
noncomputable section
namespace Go.Proofs.YtndpneieplopaaaGreatDoor
open Go.Eng Go.St Tryz
theorem s3(m:Nat):dD prog (m+1) 3=some [.int .i64]:=by kernel_rfl
theorem s9(m:Nat):dD prog (m+1) 9=some [.str]:=by kernel_rfl
theorem c3:prog.cellsOf 3=1:=by kernel_rfl
theorem c9:prog.cellsOf 9=1:=by kernel_rfl
theorem c63:prog.cellsOf 63=4:=by kernel_rfl
theorem c35:prog.cellsOf 35=1:=by kernel_rfl
variable {m:Nat}{s:List SHr}
theorem s35(h:dD prog m 63=some s)(b:s.length=4):dD prog (m+1) 35=some [.sl s]:=by
 unfold dD;rw[Tryz.underlying35];simp[h,b,c63]
theorem s63(h:dD prog m 63=some s)(j:s.length=4):dD prog (m+2) 63=some [.int .i64,.int .i64,.str,.sl s]:=by
 have b:=s35 h j;have p:=s3 m;have q:=s9 m;unfold dD;rw[Tryz.underlying63];simp[om,p,q,b,c3,c9,c35,c63]
inductive VIn:Val->Prop
 |mk (k n:Int) (s:Str) (l:List Val):(Lit.int .i64 k).wf=true->(Lit.int .i64 n).wf=true->s.length<=maxLen->l.length<=maxLen->(∀v∈l,VIn v)->VIn (.mk k n s l)
theorem Cu(b:∀ar,b_ ar s->∃v:Val,ar=vC v/\VIn v):∀(xs:List (LA)),(∀x∈xs,b_ x s)->∃l:List Val,xs=vCs l/\∀v∈l,VIn v
 |[],_=>⟨[],rfl,by simp⟩
 |x::xs,h=>by
  obtain⟨v,j,h2⟩:=b x (h x (by simp));obtain⟨l,p,q⟩:=Cu b xs λy t=>h y (by simp[t])
  refine⟨v::l,by simp[vCs,j,p],λu hu=>?_⟩;rcases cE.1 hu with rfl|hu
  ·exact h2
  exact q u hu
variable {ar:LA}
theorem XT(h:b_ ar (.no::s)):False:=by
 cases h with
 |cons a s ar b h hs=>cases h
theorem Za:∀m:Nat,∃s,dD prog m 63=some s/\s.length=4/\∀ar,b_ ar s->∃v:Val,ar=vC v/\VIn v
 |0=>⟨[.no,.no,.no,.no],by kernel_rfl,rfl,λar h=>(XT h).elim⟩
 |1=>⟨[.no,.no,.no,.no],by kernel_rfl,rfl,λar h=>(XT h).elim⟩
 |m+2=>by
  obtain⟨s,t,h2,u⟩:=Za m;refine⟨_,s63 t h2,rfl,λar h=>?_⟩;cases h with
  |cons a _ ar _ y j=>
  cases j with
  |cons b _ ar _ z j=>
  cases j with
  |cons c _ ar _ B j=>
  cases j with
  |cons d _ ar _ C j=>
  cases j;cases y with
  |int _ k G=>
  cases z with
  |int _ n J=>
  cases B with
  |str x K=>
  cases C with
  |sl xs e q p=>
  obtain⟨l,rfl,M⟩:=Cu u xs p;refine⟨.mk k n x l,by simp[vC],.mk k n x l G J K ?_ M⟩;rw[gP]at q;exact q
variable {k:IntKind}
theorem dI(h:b_ ar (.int k::s)):∃n r,ar =.int k n::r/\(Lit.int k n).wf=true/\b_ r s:=by
 cases h with
 |cons a _ ar _ b j=>
 cases b with
 |int _ n p=>exact⟨n,ar,rfl,p,j⟩
theorem Bi(h:b_ ar (.bool::s)):∃b r,ar =.bool b::r/\b_ r s:=by
 cases h with
 |cons a _ ar _ j p=>
 cases j with
 |bool b=>exact⟨b,ar,rfl,p⟩
theorem aeg(h:b_ ar (.str::s)):∃x r,ar =.str x::r/\x.length<=maxLen/\b_ r s:=by
 cases h with
 |cons a _ ar _ b j=>
 cases b with
 |str x p=>exact⟨x,ar,rfl,p,j⟩
variable {e:List SHr}
theorem sO(h:b_ ar (.sl e::s)):∃xs r,ar =.psl xs::r/\xs.length<=maxLen/\(∀x∈xs,b_ x e)/\b_ r s:=by
 cases h with
 |cons a _ ar _ b j=>
 cases b with
 |sl xs _ p q=>exact⟨xs,ar,rfl,p,q,j⟩
theorem r9(h:b_ ar []):ar=[]:=by cases h;rfl
variable {α:Type}
theorem Ec{f:α->LA}(b:∀ar,b_ ar e->∃a,ar=f a):∀(xs:List (LA)),(∀x∈xs,b_ x e)->∃l:List α,xs=l.map f
 |[],_=>⟨[],rfl⟩
 |x::xs,h=>by
  obtain⟨a,rfl⟩:=b x (h x (by simp));obtain⟨l,rfl⟩:=Ec b xs λy j=>h y (by simp[j])
  exact⟨a::l,rfl⟩
variable {xs:List (LA)}
theorem Xt(h:∀x∈xs,b_ x [.int .i32]):∃l:List Int,xs=rnC l:=
 Ec (λar h=>by
  obtain⟨n,r,rfl,_,h⟩:=dI h;rw[r9 h];exact⟨n,rfl⟩) xs h
theorem ahk(h:∀x∈xs,b_ x [.int .i64,.int .i64]):∃l:List (Int×Int),xs=chC l:=
 Ec (f:=λp:Int×Int=>[I p.1,I p.2]) (λar h=>by
  obtain⟨n,r,rfl,_,h⟩:=dI h;obtain⟨m,r,rfl,_,h⟩:=dI h;rw[r9 h];exact⟨(n,m),rfl⟩) xs h
def Yw(l:List (Int×Bool)):Prop:=∀p∈l,(Lit.int .i64 p.1).wf=true
theorem Yb:∀ {xs:List (LA)},(∀x∈xs,b_ x [.int .i64,.bool])->∃l:List (Int×Bool),xs=cbC l/\Yw l
 |[],_=>⟨[],rfl,λp h=>by simp at h⟩
 |x::xs,h=>by
  obtain⟨n,r,j,h2,q⟩:=dI (h x (by simp));obtain⟨b,G,t,u⟩:=Bi q;obtain⟨l,z,B⟩:=Yb (xs:=xs) λy C=>h y (by simp[C])
  refine⟨(n,b)::l,by rw[j,t,r9 u,z];rfl,λp hp=>?_⟩;rcases cE.1 hp with rfl|hp
  ·exact h2
  exact B p hp
abbrev i8:SHr:=.int .i64
theorem s28(m:Nat):dD prog (m+4) 28=some [i8,i8,i8,i8,i8,i8]:=by kernel_rfl
theorem s30(m:Nat):dD prog (m+4) 30=some [i8,i8]:=by kernel_rfl
theorem s32(m:Nat):dD prog (m+4) 32=some [i8,i8]:=by kernel_rfl
theorem s34(m:Nat):dD prog (m+4) 34=some [.bool,.bool,i8]:=by kernel_rfl
theorem s37(m:Nat):dD prog (m+4) 37=some [i8,i8,i8,i8,i8,.str]:=by kernel_rfl
abbrev Ja:List SHr:=[i8,.sl [.int .i32],.sl [.int .i32],.sl [i8,i8],i8,i8,.bool,i8,i8,i8,i8,i8,i8,.sl [i8,.bool],i8]
theorem s46(m:Nat):dD prog (m+6) 46=some Ja:=by kernel_rfl
theorem c48:prog.cellsOf 48=37:=by kernel_rfl
theorem cX:prog.cellsOf 28=6/\prog.cellsOf 30=2/\prog.cellsOf 32=2/\prog.cellsOf 34=3/\prog.cellsOf 37=6/\prog.cellsOf 46=15:=⟨by kernel_rfl,by kernel_rfl,by kernel_rfl,by kernel_rfl,by kernel_rfl,by kernel_rfl⟩
def inS(s:List SHr):List SHr:=[i8,i8,i8,i8,i8,i8,i8,i8,i8,i8,i8,i8,.bool,.bool,i8,.sl s,i8,i8,i8,i8,i8,.str]++Ja
theorem s48(h:dD prog (m+5) 63=some s)(C:s.length=4):dD prog (m+7) 48=some (inS s):=by
 have b:=s35 h C;have G:=s3 (m+5);have j:=s28 (m+2);have p:=s30 (m+2);have q:=s32 (m+2);have t:=s34 (m+2);have u:=s37 (m+2);have x:=s46 m;obtain⟨c28,y,z,B,c37,c46⟩:=cX;unfold dD;rw[Tryz.underlying48];simp[om,G,j,p,q,t,b,u,x,c3,c28,y,z,B,c35,c37,c46,c48,inS]
structure qZ(i:Inp):Prop where
 ints:(Lit.int .i64 i.kind).wf=true/\(Lit.int .i64 i.pk).wf=true/\(Lit.int .i64 i.pid).wf=true/\(Lit.int .i64 i.px).wf=true/\(Lit.int .i64 i.py).wf=true/\(Lit.int .i64 i.pt).wf=true/\(Lit.int .i64 i.pw).wf=true/\(Lit.int .i64 i.key).wf=true/\(Lit.int .i64 i.cH).wf=true/\(Lit.int .i64 i.time).wf=true/\(Lit.int .i64 i.sw).wf=true/\(Lit.int .i64 i.sh).wf=true/\(Lit.int .i64 i.scale).wf=true/\(Lit.int .i64 i.ver).wf=true/\(Lit.int .i64 i.node).wf=true/\(Lit.int .i64 i.act).wf=true/\(Lit.int .i64 i.frm).wf=true/\(Lit.int .i64 i.too).wf=true/\(Lit.int .i64 i.tk).wf=true/\(Lit.int .i64 i.unit).wf=true/\(Lit.int .i64 i.dir).wf=true/\(Lit.int .i64 i.n).wf=true/\(Lit.int .i64 i.a).wf=true/\(Lit.int .i64 i.b).wf=true/\(Lit.int .i64 i.x).wf=true/\(Lit.int .i64 i.y).wf=true/\(Lit.int .i64 i.dE).wf=true/\(Lit.int .i64 i.tt).wf=true
 args:∀v∈i.args,VIn v
 cls:Yw i.cls
 rt:i.rt.length<=maxLen
set_option maxRecDepth 10000 in
theorem ahm(hs:∀ar,b_ ar s->∃v:Val,ar=vC v/\VIn v)(h:b_ ar (inS s)):∃i,ar=inC i/\qZ i:=by
 simp only[inS,Ja,cp,cD]at h;obtain⟨t,r,rfl,u,h1⟩:=dI h;obtain⟨a1,r,rfl,a6,h2⟩:=dI h1;obtain⟨S,r,rfl,T,h3⟩:=dI h2;obtain⟨a7,r,rfl,a8,h4⟩:=dI h3;obtain⟨ba,r,rfl,bb,h5⟩:=dI h4;obtain⟨bd,r,rfl,bp,h6⟩:=dI h5;obtain⟨bs,r,rfl,bx,h7⟩:=dI h6;obtain⟨U,r,rfl,gX,h8⟩:=dI h7;obtain⟨x,r,rfl,y,h9⟩:=dI h8;obtain⟨z,r,rfl,gI,cl⟩:=dI h9;obtain⟨bY,r,rfl,b0,cn⟩:=dI cl;obtain⟨b1,r,rfl,b2,cr⟩:=dI cn;obtain⟨B,r,rfl,ct⟩:=Bi cr;obtain⟨C,r,rfl,cu⟩:=Bi ct;obtain⟨b,r,rfl,j,cv⟩:=dI cu;obtain⟨e3,r,rfl,e4,cx,cy⟩:=sO cv;obtain⟨G,rfl,J⟩:=Cu hs _ cx;obtain⟨V,r,rfl,ad,cN⟩:=dI cy;obtain⟨K,r,rfl,M,cR⟩:=dI cN;obtain⟨af,r,rfl,aj,cT⟩:=dI cR;obtain⟨al,r,rfl,an,c1⟩:=dI cT;obtain⟨ao,r,rfl,av,c6⟩:=dI c1;obtain⟨b3,r,rfl,b4,c7⟩:=aeg c6;obtain⟨b5,r,rfl,b6,c8⟩:=dI c7;obtain⟨e5,r,rfl,e6,dc,dd⟩:=sO c8;obtain⟨df,rfl⟩:=Xt dc;obtain⟨eW,r,rfl,e0,b7,dk⟩:=sO dd;obtain⟨ca,rfl⟩:=Xt b7;obtain⟨e1,r,rfl,e2,cb,ds⟩:=sO dk;obtain⟨cc,rfl⟩:=ahk cb;obtain⟨N,r,rfl,R,eb⟩:=dI ds;obtain⟨aw,r,rfl,aS,ec⟩:=dI eb;obtain⟨aT,r,rfl,ee⟩:=Bi ec;obtain⟨ej,r,rfl,ek,en⟩:=dI ee;obtain⟨eo,r,rfl,ep,er⟩:=dI en;obtain⟨et,r,rfl,ev,ez⟩:=dI er;obtain⟨eA,r,rfl,eB,eC⟩:=dI ez;obtain⟨eF,r,rfl,eH,eL⟩:=dI eC;obtain⟨p,r,rfl,q,eN⟩:=dI eL;obtain⟨e7,r,rfl,e8,eP,eR⟩:=sO eN;obtain⟨eS,rfl,eT⟩:=Yb eP;obtain⟨cd,r,rfl,cf,eV⟩:=dI eR
 rw[r9 eV];refine⟨⟨t,a1,S,a7,ba,bd,bs,U,x,z,bY,b1,B,C,b,G,V,K,af,al,ao,b3,b5,df,ca,cc,N,aw,aT,ej,eo,et,eA,eF,p,eS,cd⟩,rfl,⟨⟨u,a6,T,a8,bb,bp,bx,gX,y,gI,b0,b2,j,ad,M,aj,an,av,b6,R,aS,ek,ep,ev,eB,eH,q,cf⟩,J,eT,b4⟩⟩
theorem s25(h:dD prog (m+5) 63=some s)(p:s.length=4):dD prog (m+8) 25=some [.sl (inS s)]:=by
 have b:=s48 h p;have j:(inS s).length=37:=rfl;unfold dD;rw[Tryz.underlying25];simp[b,j,c48]
theorem W8(p:∀ar,b_ ar s->∃v:Val,ar=vC v/\VIn v):∀(xs:List (LA)),(∀x∈xs,b_ x (inS s))->∃L:List Inp,xs=L.map inC/\∀i∈L,qZ i
 |[],_=>⟨[],rfl,by simp⟩
 |x::xs,h=>by
  obtain⟨i,q,h2⟩:=ahm p (h x (by simp));obtain⟨L,t,u⟩:=W8 p xs λy z=>h y (by simp[z])
  refine⟨i::L,by simp[q,t],λj b=>?_⟩;rcases cE.1 b with rfl|b
  ·exact h2
  exact u j b
theorem afi(m:Nat):∃s,dD prog (m+8) 25=some s/\∀ar,b_ ar s->∃L:List Inp,ar=[.psl (L.map inC)]/\∀i∈L,qZ i:=by
 obtain⟨s,b,h2,j⟩:=Za (m+5);refine⟨_,s25 b h2,λar h=>?_⟩;obtain⟨xs,r,rfl,_,p,q⟩:=sO h;rw[r9 q];obtain⟨L,rfl,t⟩:=W8 j xs p;exact⟨L,rfl,t⟩
open Go.RowKit
theorem zc(k n:Int)(s:Str)(l:List Val):mL (vC (.mk k n s l))=s.length+4+mLL (vCs l):=by
 simp only[vC,mL,mA];omega
variable {n:Int}
theorem iw(h:(Lit.int .i64 n).wf=true):i64 n:=by
 unfold i64;have b:IntKind.i64.min = -9223372036854775808:=by rfl
 have j:IntKind.i64.max=9223372036854775807:=by rfl
 simp[Lit.wf]at h;omega
theorem xR:∀ {v:Val},VIn v->(cI v).length+1<=22*mL (vC v):=λb=>by
 induction b with
 |mk k n s l u p hs x _ j=>
  rw[zc];have hi:=aaT (iw p);have q:=pa s;have h2:=n8 s;have t:∀l:List Val,(∀v∈l,(cI v).length+1<=22*mL (vC v))->(aW (aR l)).length<=22*mLL (vCs l):=λl=>by
   induction l with
   |nil=>simp[aR,aW]
   |cons a l j=>
    intro h;have q:=j λv b=>h v (by simp[b])
    have h2:=h a (by simp);simp only[aR,aW,aF,au,vCs,mLL];omega
  have y:=t l j;have z:=rN (aR l);simp only[cI]
  (repeat' split)
  ·omega
  ·have:eI.length=4:=rfl;omega
  ·have:ed.length=5:=rfl;omega
  ·simp only[wQ,aF,au,bz];omega
  ·simp only[aF,au,bz];omega
  simp;omega
theorem GY:∀l:List Val,4*l.length<=mLL (vCs l)
 |[]=>by simp
 |.mk k n s l::r=>by
  have b:=GY r;have h2:=zc k n s l;simp only[vCs,mLL,aF];omega
theorem yb{v:Val}:∀ {l:List Val},v∈l->mL (vC v)<=mLL (vCs l)
 |a::l,h=>by
  simp only[vCs,mLL];rcases cE.1 h with rfl|h
  ·omega
  have:=yb h;omega
variable {l:List Val}
theorem ad9(h:∀v∈l,VIn v):(aW (aR l)).length<=22*mLL (vCs l):=by
 induction l with
 |nil=>simp[aR,aW]
 |cons a l b=>
  have p:=b λv j=>h v (by simp[j])
  have h2:=xR (h a (by simp));simp only[aR,aW,aF,au,vCs,mLL];omega
theorem aeI(i:Inp):mLL (vCs i.args)<=mL (inC i):=by
 simp only[inC,inG,mL,mA];omega
variable {i:Inp}
theorem Vv:∀ {L:List Inp},i∈L->mL (inC i)<=mLL (L.map inC)
 |a::L,h=>by
  simp only[da,mLL];rcases cE.1 h with rfl|h
  ·omega
  have:=Vv h;omega
mutual
theorem TE:∀(v:Val) (d m:Int),(Go.St.chk d v m).1=0->(cI v).length<=900000000->VW v
 |.mk k n s l,d,m,h,hl=>by
  have hT:=A9 _ d m h;have hl2:(eU (.mk k n s l)).length<=1000000000000:=by rw[hT];omega
  rw[Go.St.chk]at h;by_cases c1:k=4/\16<=d
  ·rw[Z c1]at h;simp at h
  rw[O c1]at h;by_cases c2:iJ k n s l=false
  ·rw[Z c2]at h;simp at h
  rw[O c2]at h;by_cases c3:kZ k n=true
  ·rw[Z c3]at h;simp at h
  rw[O c3]at h;by_cases c4:2000<s.length\/100<l.length\/1000<m+1
  ·rw[Z c4]at h;simp at h
  rw[O c4]at h;by_cases c5:Go.Lib.validD s=false
  ·rw[Z c5]at h;simp at h
  rw[O c5]at h;have hn : -1000000000000000000<=n/\n<=1000000000000000000:=by
   unfold iJ at c2;unfold kZ at c3;simp only[iY,aI,ck,j7,pW,jx]at c3;by_cases q1:k=1
   ·by_cases q : -1099511627776<=n/\n<=1099511627776
    ·omega
    exact absurd (.inl ⟨q1,by omega⟩) c3
   by_cases q2:k=2
   ·by_cases q:n=0\/n=1
    ·omega
    exact absurd (.inr ⟨⟨q2,by omega⟩,by omega⟩) c3
   rw[ifn]at c2;by_cases q3:k=3
   ·rw[Z q3]at c2;simp at c2;omega
   rw[O q3]at c2;by_cases q4:k=4
   ·rw[Z q4]at c2;simp at c2;omega
   rw[O q4]at c2;exact absurd rfl c2
  by_cases c6:k≠4
  ·refine .mk k n s l hn (by omega) (by omega) ?_ hl2;have:l=[]:=by
    unfold iJ at c2;by_cases k1:k=1\/k=2
    ·rw[Z k1]at c2;simp at c2;exact c2.2
    rw[O k1]at c2;by_cases k3:k=3
    ·rw[Z k3]at c2;simp at c2;exact c2.2
    rw[O k3,O c6]at c2;exact absurd rfl c2
   subst this;simp
  rw[O c6]at h;by_cases c7:(Go.St.ea (d+1) l (m+1) []).1≠0
  ·rw[Z c7]at h;exact absurd h c7
  refine .mk k n s l hn (by omega) (by omega) (Pt l (d+1) (m+1) [] (by simpa using c7) λv hv=>?_) hl2;have h2:=J1 _ _ (Ao hv);have k4:k=4:=by omega
  simp[cI,k4]at hl;omega
theorem Pt:∀(l:List Val) (d m:Int) (ts:List Ty),(Go.St.ea d l m ts).1=0->(∀v∈l,(cI v).length<=900000000)->∀v∈l,VW v
 |[],_,_,_,_,_=>by simp
 |v::l,d,m,ts,h,hl=>by
  rw[Go.St.ea]at h;by_cases c:(Go.St.chk d v m).1≠0
  ·rw[Z c]at h;exact absurd h c
  rw[O c]at h;intro u hu;rcases cE.1 hu with he|hu
  ·rw[he];exact TE v d m (by simpa using c) (hl v (by simp))
  exact Pt l d _ _ h (λx hx=>hl x (by simp[hx])) u hu
end
theorem agu:∀ {v:Val},VIn v->mL (vC v)<=1048576->WW v:=λb=>by
 induction b with
 |mk k n s l t q hs u j x=>
  intro hm;have hw:=xR (.mk k n s l t q hs u j);have p:=hm;rw[zc]at p;have y:=GY l;refine .mk k n s l (iw q) (by omega) (by omega) (λv b=>x v b ?_) (by omega);have:=yb b;omega
theorem agn:∀ {v:Val},VIn v->mL (vC v)<=1048576->WB v:=λb=>by
 induction b with
 |mk k n s l q t hs u p j=>
  intro hm;rw[zc]at hm;have x:=GY l;refine .mk k n s l (by omega) λv b=>j v b ?_
  have:=yb b;omega
theorem adX(h:qZ i)(hs:smB i=true)(hm:mLL (vCs i.args)<=1048576):BW i:=by
 have hi:=h.ints;unfold smB at hs;simp only[ck]at hs;obtain⟨s1,s2,s3,s4,s5,s6⟩:=hs;have G:∀v∈i.args,mL (vC v)<=1048576:=λv G=>by have:=yb G;omega
 have ao:=ad9 h.args;have hj:(cm (cK::aR i.args)).length<=38000000:=by
  show(cK++aW (aR i.args)).length<=_
  have:cK.length=4:=rfl;rw[au];omega
 have av:=nI i.t;obtain⟨U,J,y,K,M,N,R,gX,V,gI,S,T,j,z,x,af,B,C,al,ad,aj,aw,aS,aT,a1,a6,q,an⟩:=hi;have lb:LB i:=by
  refine⟨iw J,?_,iw gI,?_,iw j,?_,?_,λv b=>agu (h.args v b) (G v b),by omega,by omega,by omega,⟨by omega,by omega,λp hp=>iw (h.cls p hp),iw q⟩⟩
  ·simp only[lE];exact⟨iw y,iw K,iw M,iw N,iw R,by simp⟩
  ·simp only[lE];exact⟨iw S,iw T,by simp⟩
  ·simp only[lE];exact⟨iw z,iw x,by simp⟩
  simp only[lE];exact⟨iw B,iw C,by simp⟩
 refine⟨lb,⟨by omega,λv b=>agn (h.args v b) (G v b),by omega,by omega,by omega,by omega⟩,⟨by omega,λv b hc=>?_,by omega,by omega,by omega,λp hp=>(iw (h.cls p hp)).2⟩,Mi i lb s2 s3 s6 hj,Pe i s2 s3 s6 ?_⟩
 ·have:=xR (h.args v b);have:=G v b;exact TE v 0 0 (by have:=(wi v).2 hc;exact this) (by omega)
 have e:∀(l:List Val) (acc:Str),(∀v∈l,VIn v)->(prA acc l).length<=acc.length+22*mLL (vCs l):=λl=>by
  induction l with
  |nil=>intro acc _;simp[prA]
  |cons v l ih=>
   intro acc hl;unfold prA;split
   ·simp
   rename_i hc;have h1:=ih (acc++32::eU v) λu hu=>hl u (by simp[hu])
   have h2:=xR (hl v (by simp));have h3:eU v=cI v:=A9 v 0 0 ((wi v).2 (by simpa using hc));rw[h3]at h1 ⊢;simp only[au,aF,vCs,mLL]at h1 ⊢;omega
 have:=e i.args [97,114,103,115] h.args;simp only[aF,bz]at this;omega
theorem aat(h:AH)(L:List Inp)(l:List Int)(j:GJ h)(b:∀i∈L,qZ i)(p:mL [.psl (L.map inC)]<=1048576):ab prog 4 [.psl (L.map inC),ints l] h (.bool true) h:=by
 simp only[mL,mA]at p;refine aeV h L l j (λi hi=>(b i hi).rt) (λhs i hi=>adX (b i hi) (hs i hi) ?_) aez;have q:=aeI i;have h2:=Vv hi;omega
open Go.Eng Go.St Go.RowKit Tryz
def HV:Hp:=((((PM.leaf.put 1 (.dN 1 (sj.map (.int .u8)))).put 2 (.dN 2 (nk.map (.int .u8)))).put 3 (.dN 3 [.iface 258 (.ptr 6 0)])).put 4 (.dN 4 [.iface 258 (.ptr 7 0)])).put 5 (.dN 5 (ra.map (.int .u64)))
def hV:AH:=⟨HV,8⟩
theorem Tl(i:Nat):HV.get i=if i=5 then some (.dN 5 (ra.map (.int .u64)))else if i=4 then some (.dN 4 [.iface 258 (.ptr 7 0)])else if i=3 then some (.dN 3 [.iface 258 (.ptr 6 0)])else if i=2 then some (.dN 2 (nk.map (.int .u8)))else if i=1 then some (.dN 1 (sj.map (.int .u8)))else none:=by
 unfold HV;simp only[PM.lT];repeat' split
 all_goals rfl
variable {id:Nat}{o:bg}
theorem u9(h:HV.get id=some o):∃cs,(id,cs)∈VG/\o =.dN id cs:=by
 rw[Tl]at h;split at h
 ·rename_i hi;subst hi;cases h;exact⟨_,by simp[VG],rfl⟩
 split at h
 ·rename_i hi;subst hi;cases h;exact⟨_,by simp[VG],rfl⟩
 split at h
 ·rename_i hi;subst hi;cases h;exact⟨_,by simp[VG],rfl⟩
 split at h
 ·rename_i hi;subst hi;cases h;exact⟨_,by simp[VG],rfl⟩
 split at h
 ·rename_i hi;subst hi;cases h;exact⟨_,by simp[VG],rfl⟩
 cases h
variable {g:Nat}{cs:LA}
theorem Iv(h:(g,cs)∈VG):HV.get g=some (.dN g cs):=by
 simp only[VG,cE,Prod.mk.injEq,jN,lG]at h;rw[Tl];rcases h with⟨rfl,rfl⟩|⟨rfl,rfl⟩|⟨rfl,rfl⟩|⟨rfl,rfl⟩|⟨rfl,rfl⟩<;>simp
theorem ag1:GJ hV:=⟨λ_ _ h=>Iv h,ay _⟩
def bG(s r:Nat×Nat):Bl:=λid=>if id=0 then none else if id<6 then some (id,0)else if id=6 then some s else if id=7 then some r else none
def uy:AV->Bool
 |.int k _=>k !=.i64
 |.iface _ (.ptr id _)=>decide (id<8)
 |_=>false
theorem aa6:VG.all (λx=>x.2.all uy)=true:=by decide +kernel
variable {c:AV}
theorem Yd(h:(g,cs)∈VG)(b:c∈cs):uy c=true:=
 fi.1 (fi.1 aa6 _ h) c b
theorem xk(h:(g,cs)∈VG):1<=g/\g<=5:=by
 simp only[VG,cE,Prod.mk.injEq,jN,lG]at h;omega
theorem ae9(h:1<=id/\id<=5):∃cs,(id,cs)∈VG:=by
 have:id=1\/id=2\/id=3\/id=4\/id=5:=by omega
 rcases this with rfl|rfl|rfl|rfl|rfl
 ·exact⟨sj.map (.int .u8),by simp[VG]⟩
 ·exact⟨nk.map (.int .u8),by simp[VG]⟩
 ·exact⟨[.iface 258 (.ptr 6 0)],by simp[VG]⟩
 ·exact⟨[.iface 258 (.ptr 7 0)],by simp[VG]⟩
 exact⟨ra.map (.int .u64),by simp[VG]⟩
variable {hp hp':Array Obj}{L L':Nat->Prop}{β:Bl}{a:AV}{v:Value}
theorem ab7{β':Bl}(z:∀id,id<8->β' id=β id)(u:uy a=true){x:Value}(h:VR hp L β a v)(q:VR hp' L' β' a x):v=x:=by
 cases a<;>simp[uy]at u
 ·cases h;cases q;rfl
 rename_i t p;cases p<;>simp at u;rename_i id off;cases h with
 |iface _ _ v h=>
 cases q with
 |iface _ _ x q=>
 cases h with
 |ptr _ _ b base B=>
 cases q with
 |ptr _ _ C y j=>
 rw[z id u,B]at j;cases j;rfl
theorem J'(j:uy a=true)(h:VR hp L β a v):VR hp' L' β a v:=by
 cases a<;>simp[uy]at j
 ·cases h;exact .int _ _
 rename_i t p;cases p<;>simp at j;cases h with
 |iface _ _ v h=>
 cases h with
 |ptr _ _ b base q=>exact .iface _ _ _ (.ptr _ _ _ _ q)
def Jm(W:World)(s r:Nat×Nat):Prop:=∀g cs,(g,cs)∈VG->∃cur e fz,W.heap[g]?=some (.cells cur e fz)/\Go.Eng.RL W.heap (λ_=>False) (bG s r) cs cur.toList
variable {r:Nat×Nat}
theorem uX{s:Nat×Nat}(h:1<=g/\g<=5):bG s r g=some (g,0):=by
 unfold bG;rw[ifn,ifp]
variable {f:Nat}{pargs:LA}{W:World}{cargs:Array Value}
theorem aax(q:ab prog f pargs hV (.bool true) hV){s:Nat×Nat}(hs:s.1<W.heap.size)(hr:r.1<W.heap.size)(u:Jm W s r)
  (hR:Go.Eng.RL W.heap (Go.Eng.LL (λ_=>False) (bG s r) hV.H) (bG s r) pargs cargs.toList):Calls prog f cargs W λe V=>e =.returned (.bool true)/\Below W.heap.size W V:=by
 have hS:aB (λ_=>False) (bG s r) hV.H hV.nx W:=by
  refine⟨λid hid=>?_,λid b base j=>?_,λb u=>u.elim,λid o ho=>?_,λid af o o' b x y p h2 K z=>?_⟩
  ·have h8:8<=id:=hid;unfold bG;rw[ifn,ifn,ifn,ifn]
  ·unfold bG at j;split at j
   ·cases j
   split at j
   ·cases j;have:=ae9 (show 1<=id/\id<=5 by omega);obtain⟨cs,hm⟩:=this;obtain⟨cur,e,M,p,_⟩:=u id cs hm;exact gR p
   split at j
   ·cases j;exact hs
   split at j
   ·cases j;exact hr
   cases j
  ·obtain⟨cs,hm,rfl⟩:=u9 ho;obtain⟨cur,e,M,p,h2⟩:=u id cs hm;refine⟨id,0,uX (xk hm),λhf=>hf.elim,rfl,rfl,cur,e,M,p,?_,λi c v q N=>?_⟩
   ·have:=h2.1;simpa using this
   exact J' (Yd hm (cQ q)) (h2.2 i c v q (by simpa using N))
  obtain⟨cs,hm,_⟩:=u9 p;obtain⟨aj,R,_⟩:=u9 h2;rw[uX (xk hm)]at K;rw[uX (xk R)]at z;cases K;cases z;rfl
 refine(q.2 (λ_=>False) (bG s r) W cargs hS hR).mono ?_;rintro ee V ⟨cv,v,h2,β',rfl,⟨rfl,rfl⟩,S,N,t⟩;cases N;refine⟨rfl,t.os,t.tape,t.output,t.size,λk hk=>?_⟩;by_cases B:∃cs,(k,cs)∈VG
 ·obtain⟨cs,hm⟩:=B;obtain⟨cur,e,M,C,G⟩:=u k cs hm;obtain⟨b,base,p,_,h0,K,J,e',al,z,h5,h6⟩:=S.obj k _ (Iv hm);subst K;obtain⟨ad,an,h7,h8,h9⟩:=t.shape _ _ _ _ C;obtain rfl:=h9 ⟨_,_,_,Iv hm,p⟩;rw[h7]at z;cases z;rw[h7,C];have:J=cur:=by
   apply Array.ext h8;intro i T U;have hlen:=G.1;simp at hlen;have q:cs[i]?=some cs[i]:=bF (by omega);refine ab7 (β:=bG s r) (β':=β') (λid hid=>?_) (Yd hm (cQ q)) (G.2 i _ _ q (by simp[U])) (h6 i _ _ q (rk T)) |>.symm;exact t.low id hid
  rw[this]
 refine t.aY k hk ?_;rintro⟨id,o,base,p,h2⟩;obtain⟨cs,hm,_⟩:=u9 p;rw[uX (xk hm)]at h2;cases h2;exact B ⟨cs,hm⟩
inductive Mv:AV->Prop
 |int (k:IntKind) (n:Int):Mv (.int k n)
 |bool (b:Bool):Mv (.bool b)
 |str (s:Str):Mv (.str s)
 |psl (xs:List (LA)):(∀x∈xs,∃k n r,x =.int k n::r/\k ≠ .u8/\k ≠ .u64)->(∀x∈xs,∀c∈x,Mv c)->Mv (.psl xs)
def yq:AV->Bool
 |.int k _=>decide (k =.u8)||decide (k =.u64)
 |.iface _ _=>true
 |_=>false
theorem P?:VG.all (λx=>x.2.all yq)=true:=by decide +kernel
theorem aff(h:(g,cs)∈VG)(b:c∈cs):yq c=true:=
 fi.1 (fi.1 P? _ h) c b
theorem X!(b:yq a=true)(p:k ≠ .u8)(j:k ≠ .u64)(h:VR hp L β a (.int k n)):False:=by
 cases a<;>simp[yq]at b
 ·cases h;rcases b with b|b
  ·exact p b
  exact j b
 cases h
theorem PR{s:Nat×Nat}(T:Jm W s r)(h:VR W.heap (λ_=>False) noB a v):Mv a->VR W.heap (Go.Eng.LL (λ_=>False) (bG s r) hV.H) (bG s r) a v:=by
 induction h with
 |bool b=>intro _;exact .bool b
 |int k n=>intro _;exact .int k n
 |str s=>intro _;exact .str s
 |eu a cap=>intro _;exact .eu a cap
 |psl xs z b o cap cur e U q hL hs K V h ih=>
  intro hm;cases hm with
  |psl _ h1 h2=>
  by_cases M:xs=[]
  ·subst M;exact .eu _ _
  have hlen:0<xs.length:=j5.2 M;obtain⟨x0,p⟩:∃x,xs[0]?=some x:=⟨xs[0],bF hlen⟩;obtain⟨k,n,r',rfl,B,y⟩:=h1 x0 (cQ p);have C:0<z:=by have:=K 0 _ p;simp at this;omega
  have ad:0<xs.length*z:=Nat.mul_pos hlen C;refine .psl xs z b o cap cur e U q ?_ hs K V λi x j c v q1 q2 q3=>ih i x j c v q1 q2 q3 (h2 x (cQ q1) c (cQ q2))
  rintro(hf|⟨id,ob,base,g1,g2⟩)
  ·exact hf
  obtain⟨cs,hm,_⟩:=u9 g1;rw[uX (xk hm)]at g2;cases g2;obtain⟨S,e2,af,N,R⟩:=T b cs hm;rw[q]at N;cases N;have t:o<cur.size:=by omega
  have G:=h 0 _ 0 (.int k n) cur[o] p rfl (by simp[t]);have J:=R.1;simp at J;have u:cs[o]?=some cs[o]:=bF (by omega);have h6:=R.2 o _ cur[o] u (by simp[t]);generalize cur[o]=vv at*;cases G;exact X! (aff hm (cQ u)) B y h6
 |_=>intro hm;cases hm
theorem UF(l:List Val):∀x∈vCs l,∃k n r,x =.int k n::r/\k ≠ .u8/\k ≠ .u64:=by
 intro x b;rw[qH]at b;obtain⟨v,_,rfl⟩:=eK.1 b;cases v with
 |mk k n s l=>exact⟨.i64,k,_,by rw[vC],by simp,by simp⟩
mutual
theorem ags:∀(v:Val),∀c∈vC v,Mv c
 |.mk k n s l,c,hc=>by
  have h4:=G_ l;rw[vC]at hc;simp only[cE,jN,lG]at hc;rcases hc with rfl|rfl|rfl|rfl
  ·exact .int _ _
  ·exact .int _ _
  ·exact .str _
  exact .psl _ (UF l) h4
theorem G_:∀(l:List Val),∀x∈vCs l,∀c∈x,Mv c
 |[],x,hx=>by simp[vCs]at hx
 |v::l,x,hx=>by
  rw[vCs]at hx;rcases cE.1 hx with rfl|hx
  ·exact ags v
  exact G_ l x hx
end
theorem xx(f:α->LA)(j:∀a,∃k n r,f a =.int k n::r/\k ≠ .u8/\k ≠ .u64)(p:∀a,∀c∈f a,Mv c)(l:List α):Mv (.psl (l.map f)):=by
 refine .psl _ (λx b=>?_) λx b=>?_
 ·obtain⟨a,_,rfl⟩:=eK.1 b;exact j a
 obtain⟨a,_,rfl⟩:=eK.1 b;exact p a
theorem adJ(l:List Int):Mv (ints l):=xx (λx=>[I x]) (λx=>⟨.i64,x,_,rfl,by simp,by simp⟩) (λx c b=>by
 rw[j6.1 b];exact .int _ _) l
theorem agN(l:List Int):Mv (.psl (rnC l)):=xx (λn=>[az n]) (λx=>⟨.i32,x,_,rfl,by simp,by simp⟩) (λx c b=>by
 rw[j6.1 b];exact .int _ _) l
theorem agG(l:List (Int×Int)):Mv (.psl (chC l)):=xx (α:=Int×Int) (λp=>[I p.1,I p.2]) (λx=>⟨.i64,x.1,_,rfl,by simp,by simp⟩) (λx=>by
 simp only[lE,jN,false_imp_iff,implies_true,and_true];exact⟨.int _ _,.int _ _⟩) l
theorem agT(l:List (Int×Bool)):Mv (.psl (cbC l)):=xx (α:=Int×Bool) (λp=>[I p.1,.bool p.2]) (λx=>⟨.i64,x.1,_,rfl,by simp,by simp⟩) (λx=>by
 simp only[lE,jN,false_imp_iff,implies_true,and_true];exact⟨.int _ _,.bool _⟩) l
theorem ae3(i:Inp):∀c∈inC i,Mv c:=by
 have b:Mv (.psl (vCs i.args)):=.psl _ (UF i.args) (G_ i.args);simp only[inC,inG,lE,jN,false_imp_iff,implies_true,and_true];repeat' (first|exact .int _ _|exact .bool _|exact .str _|exact b|exact agN _|exact agG _|exact agT _|refine And.intro ?_ ?_)
theorem aeJ(L:List Inp):Mv (.psl (L.map inC)):=xx inC (λi=>⟨.i64,i.kind,_,rfl,by simp,by simp⟩) ae3 L
