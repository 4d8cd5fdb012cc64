/- ScriptTexts: the law. -/
import Derived.Test.YtndpneieplopaaaGreatDoorStJl
import Derived.OpenShut
set_option linter.unusedSimpArgs false
set_option linter.unusedVariables false
noncomputable section
namespace Go.Proofs.YtndpneieplopaaaGreatDoor
open Go.Eng Go.St Tryz
def afC(css:List (LA)):Prop:=∃L,wi L css/\∀i∈L,InB i
theorem Wm{css:List (LA)}(h:∀c∈css,InG c):afC css:=by
 induction css with
 |nil=>exact⟨[],⟨rfl,λk i c h=>by simp at h⟩,by simp⟩
 |cons c r ih=>
  obtain⟨L,⟨h1,h2⟩,h3⟩:=ih λd hd=>h d (by simp[hd])
  obtain⟨i,hi,hb⟩:=h c (by simp);refine⟨i::L,⟨by simp[h1],λk j d hj hd=>?_⟩,λj hj=>?_⟩
  ·cases k with
   |zero=>simp at hj hd;subst hj;subst hd;exact hi
   |succ k=>exact h2 k j d (by simpa using hj) (by simpa using hd)
  ·rcases anT.1 hj with rfl|hj
   ·exact hb
   ·exact h3 j hj
theorem TA:∀(n:Nat) (s:Str) (out:List (LA)),s.length<=1000000->(∀c∈out,InG c)->out.length<=200->(∀c∈((prs (λl=>(fg l).1) pj n s out).1.getD []),InG c)/\((prs (λl=>(fg l).1) pj n s out).1.getD []).length<=201
 |0,s,out,_,h,hl=>by simp only[prs,Option.getD_some];exact⟨h,by omega⟩
 |n+1,s,out,hs,h,hl=>by
  unfold prs;split
  ·simp only[Option.getD_some];exact⟨h,by omega⟩
  split
  ·simp
  split
  ·refine TA n _ _ (by rw[am3];omega) (λc hc=>?_) (by rw[amX,am2];omega);rcases anP.1 hc with hc|hc
   ·exact h c hc
   ·rw[anQ.1 hc];refine vp _ ?_;have:=mD (· != 10) s;omega
  ·simp
theorem M6(s:Str)(hs:s.length<=1000000):afC ((ig s).1.getD [])/\((ig s).1.getD []).length<=201:=by
 have:=TA s.length s [] hs (by simp) (by simp);exact⟨Wm this.1,this.2⟩
theorem GJ.fr{h h1:AH}(hg:GJ h)(f:Fr h h1):GJ h1:=
 hg.me (λi hi=>f.get i (by have:=hg.2;omega)) f.nx
def e7:QE prog:=
 ⟨7,λargs h Q=>∃L,args=[jO L]/\Q (.ptr h.nx 0) (h.add (.cells (srC (sL L)))),λargs h Q ⟨L,h1,h2⟩=>by
  subst h1;exact⟨_,_,ae8 h L trivial,h2⟩⟩
theorem ahr{tl h}(L:List Int){Q:QT}(hq:Q (.ptr h.nx 0) (h.add (.cells (srC (sL L))))):tb (e7::tl) 7 [jO L] h Q:=by
 rw[dJ _ tl 7 _ _ _ rfl];exact⟨L,rfl,hq⟩
@[simp ↓] theorem alj:TbT e7 7:=aH e7
def tE:List (QE prog):=[e7,e8,e9,e10,e11,e12,e13,e14,e15]
inductive LW1(t:Str)(h1 hb:AH)(id:Nat):Nat->List AV->AH->Prop
 |mk {m:Nat} {h':AH} (x:Sr) (lv:AV) (acc:List Inp):x.Ok->acc.length+m<=3->(∀i∈acc,SmI i)->GI h1 hb h' id x 37 lv acc.length (acc.map inC).flatten->LW1 t h1 hb id m [.str t,.ptr id 0,lv,I m] h'
inductive LW2(h:AH)(kt:Nat)(T:List Str):Nat->List AV->AH->Prop
 |mk {m:Nat} {h':AH} (i:Nat):i+m=5->Fr h h'->LW2 h kt T m [.rsl kt 0 5 1,I i] h'
theorem Uo(acc:List Inp):wi acc (acc.map inC):=
 ⟨by simp,λk i c h1 h2=>by
  rw[anb,h1]at h2;simp at h2;subst h2;exact Zx i⟩
theorem P6{h h1:AH}{kt:Nat}{T:List Str}(hg:GJ h1)(fr0:Fr h h1)(hc:h1.ab kt=some (T.map λs=>.str s))(hk:kt<h1.nx)(hT:T.length=5)(hl:∀s∈T,s.length<=1000000):
  b9 (λvs h k=>KP (tb tE) (ai vs 0) (ai vs 1) h k) [.rsl kt 0 5 1,I 0] h1 λx vs h2=>Rz (tb tE) x (ai vs 0) h2 λv h'=>v =.bool true/\Fr h h':=by
 refine⟨LW2 h1 kt T,5,.mk 0 rfl (Fr.refl h1),?_⟩;rintro m vs h2 ⟨i,him,fr⟩;have hg2:=hg.fr fr;cases m with
 |zero=>
  obtain rfl:i=5:=by omega
  unfold tE;simp[KP];simp[Rz];unfold PX;simp[];refine aeK hg2 trivial ?_;simp[];exact fr0.trans fr
 |succ m=>
  have hi:i<T.length:=by omega
  have hlt:(i:Int)<5:=by omega
  have hix:=qz h2 kt 5 i (by omega);have hgt:(T.map λs=>AV.str s)[i]?=some (.str T[i]):=by simp[hi]
  have hs:=hl _ (anL hi);have hc2:h2.ab kt=some (T.map λs=>.str s):=by rw[ay (fr.get kt hk)];exact hc
  generalize T[i]=s at*;generalize(T.map λs=>AV.str s)=TT at*;unfold tE;simp[KP,hlt,hix,hc2,hgt];refine XU s hg2 hs ?_;rw[wO];obtain⟨⟨L,hL,hLb⟩,hlen⟩:=M6 s hs;have ak6:L.length<=201:=by rw[hL.1];exact hlen
  have e13:yk (ig s) =.tup [.psl ((ig s).1.getD []),I (ig s).2.1,I (ig s).2.2]:=rfl;rw[e13];simp[Yy,hix,hc2,hgt];refine aeo s hs ?_;rw[e13];generalize(ig s).1.getD []=css at*;generalize((ig s).2.1:Int)=a at*;generalize(ig s).2.2=b at*;simp[Yd];refine⟨λvs h3=>vs=[.rsl kt 0 5 1,I i,.bool false]/\h3=h2,?_,?_⟩
  ·simp[XR];refine adr _ _ L L css css ⟨.inl rfl,.inl rfl,hL,hL,by omega,hLb⟩ ?_;rw[gv rfl];simp(disch:=first|go_size|fail)[Yb]
  ·rintro vs h3 ⟨rfl,rfl⟩;simp(disch:=first|go_size|fail)[X4];exact⟨m,by omega,.mk (i+1) (show i+1+m=5 by omega) fr⟩
theorem af7(h:AH)(t:Str)(l:List Int)(hg:GJ h):aK prog 3 [.str t,jO l] h (.bool true) h:=by
 refine kM (λ_=>.bool _) (C3 (aW tE) ?_);by_cases ht:(300:Int)<t.length
 ·simp[g3,ht];exact Fr.refl h
 have htl:t.length<=300:=by omega
 have htE:tE=[e7,e8,e9,e10,e11,e12,e13,e14,e15]:=rfl;unfold g3;rw[htE];simp[ht];refine ahr l ?_;have hx:=VL l;have hc1:(h.add (.cells (srC (sL l)))).ab h.nx=some (srC (sL l)):=aj _ _ _ rfl;have hid:h.nx<(h.add (.cells (srC (sL l)))).nx:=by simp
 have fr1:Fr h (h.add (.cells (srC (sL l)))):=(Fr.refl h).add _;have h8:8<=h.nx:=hg.2;generalize h.add (.cells (srC (sL l)))=h1 at*;have hg1:=hg.fr fr1;generalize sL l=x at*;refine gD 4 hc1 hid ⟨hx,by omega⟩ ?_;have ho:=(Ob.start hc1).set (srC (nS x 4));have n1:=eG x 4;have n2:=eu x (show(1:Int)<=4 by omega);obtain⟨m0,hm0⟩:=anu n1;have hx:=bn hx 4;generalize h1.set h.nx (.cells (srC (nS x 4)))=h2 at*;generalize nS x 4=x2 at*;rw[hm0];rw[<-htE];refine⟨LW1 t h1 h2 h.nx,m0,.mk x2 .aa [] hx (by simp;omega) (by simp) (GI.start 37 ho),?_⟩;clear hx ho n1 n2 hm0;rintro m vs h3 ⟨x,lv,acc,hx,hm,hsm,g⟩;cases m with
 |succ m=>
  have hlt:(0:Int)<((m+1:Nat):Int):=by omega
  rw[htE];simp[OS,hlt];refine aho g.ob.c (g.ob.lt hid) hx ?_;have g:=g.rd hid (plS x);have hx':=ZD hx;have hpi:=ZY x;generalize h3.set h.nx (.cells (srC (plS x)))=h4 at*;generalize plI x=i at*;generalize plS x=x' at*;have lr:=Wo i;obtain⟨lv',h5,k1,g,hn5,hg5⟩:=g.app hid 376 (tc:=inC i) rfl lr.one (by omega) (by omega);obtain⟨Z,hZ⟩:∃Z:List AV,Z=zIn:=⟨_,rfl⟩;have hZ':Z=[I 0,I 0,I 0,I 0,I 0,I 0,I 0,I 0,I 0,I 0,I 0,I 0,.bool false,.bool false,I 0,.aa,I 0,I 0,I 0,I 0,I 0,.str [],I 0,.aa,.aa,.aa,I 0,I 0,.bool false,I 0,I 0,I 0,I 0,I 0,I 0,.aa,I 0]:=hZ;have haf:bW Z [(0,37,.agg (inC i))]=some (inC i):=by rw[hZ];rfl
  unfold Yp;rw[<-hZ'];simp(disch:=first|go_size|fail)[haf,k1];refine⟨m,by omega,.mk x' lv' (acc++[i]) hx' (by simp;omega) (λj hj=>?_) ?_⟩
  ·rcases anP.1 hj with hj|hj
   ·exact hsm j hj
   ·rw[anQ.1 hj];exact hpi
  ·simpa using g
 |zero=>
  rw[htE];simp[OS];unfold X5;simp[];unfold S9;simp[];have agU:Lst h3 lv (acc.map inC):=aay (hb:=h2) (by have:=g.l;simpa using this) (λc hc=>by
   obtain⟨i,_,rfl⟩:=an0.1 hc;rfl)
  refine afY lv acc (acc.map inC) ⟨agU,Uo acc,λi hi=>⟨(hsm i hi).1,by have:=(hsm i hi).2;omega⟩⟩ ?_;have hul:(rl acc).1.length<=300003:=by
   unfold rl;split
   ·simp
   ·have:=DC acc [] λi hi=>(hsm i hi).2
    simp only[anr]at this;omega
  generalize(rl acc).1=u at*;generalize(rl acc).2=e at*;have ho:=g.ob;clear g agU hsm;simp[Yh];refine JL u ho.c (ho.lt hid) ⟨hx,by omega⟩ ?_;have l1:=uT x u;have ho:=ho.set (srC (spS x u));have hx:=BD hx u;generalize h3.set h.nx (.cells (srC (spS x u)))=h4 at*;generalize spV x u=r1 at*;generalize spS x u=x2 at*;simp[X2];refine JL u ho.c (ho.lt hid) ⟨hx,by omega⟩ ?_;have l2:=uT x2 u;have ho:=ho.set (srC (spS x2 u));have hx:=BD hx u;generalize h4.set h.nx (.cells (srC (spS x2 u)))=h5 at*;generalize spV x2 u=r2 at*;generalize spS x2 u=x3 at*;simp[XO];refine JL u ho.c (ho.lt hid) ⟨hx,by omega⟩ ?_;have l3:=uT x3 u;have ho:=ho.set (srC (spS x3 u));have hx:=BD hx u;generalize h5.set h.nx (.cells (srC (spS x3 u)))=h6 at*;generalize spV x3 u=r3 at*;generalize spS x3 u=x4 at*;unfold YE;simp[];refine JL r3 ho.c (ho.lt hid) ⟨hx,by omega⟩ ?_;have l4:=uT x4 r3;have ho:=ho.set (srC (spS x4 r3));have hx:=BD hx r3;generalize h6.set h.nx (.cells (srC (spS x4 r3)))=h7 at*;generalize spV x4 r3=r4 at*;generalize spS x4 r3=x5 at*;have haf:bW [.str [],.str [],.str [],.str [],.str []] [(0,1,.str t),(1,1,.str u),(2,1,.str r1),(3,1,.str r2),(4,1,.str r4)]=some ([t,u,r1,r2,r4].map λs=>.str s):=rfl;simp[haf];have fr7:Fr h h7:=⟨by have:=ho.nx;omega,λi hi=>by rw[ho.get i (by omega) (by omega)];exact fr1.get i hi⟩;have fr8:=fr7.add (.cells ([t,u,r1,r2,r4].map λs=>.str s));have hc8:(h7.add (.cells ([t,u,r1,r2,r4].map λs=>.str s))).ab h7.nx=some ([t,u,r1,r2,r4].map λs=>.str s):=aj _ _ _ rfl;have hk8:h7.nx<(h7.add (.cells ([t,u,r1,r2,r4].map λs=>.str s))).nx:=by simp
  have:=P6 (hg.fr fr8) fr8 hc8 hk8 rfl (λs hs=>by
   simp only[anT,aoc,aoT]at hs;rcases hs with rfl|rfl|rfl|rfl|rfl<;>omega)
  exact this
end Go.Proofs.YtndpneieplopaaaGreatDoor
end
noncomputable section
namespace Go.Eng
open Go.RowKit
mutual
def oJ{H:Type}(P:Program):Nat->TypeId->DataW H->Option (List AV)
 |0,_,_=>none
 |n+1,t,d=>match P.underlying t with
  |some .bool=>match d with
   |.lit (.bool b)=>some [.bool b]
   |_=>none
  |some (.int k)=>match d with
   |.lit (.int k' m)=>if k'=k then some [.int k m]else none
   |_=>none
  |some (.array len e)=>match d with
   |.agg ds=>if ds.length=len/\P.cellsOf t=len*P.cellsOf e then Da P n e (P.cellsOf e) ds else none
   |_=>none
  |some (.struct fs)=>match d with
   |.agg ds=>match qc P n fs.toList 0 ds with
    |some al=>if al.length=P.cellsOf t then some al else none
    |none=>none
   |_=>none
  |_=>none
def Da{H:Type}(P:Program):Nat->TypeId->Nat->List (DataW H)->Option (List AV)
 |_,_,_,[]=>some []
 |n,e,z,d::ds=>match oJ P n e d,Da P n e z ds with
  |some a,some b=>if a.length=z then some (a++b)else none
  |_,_=>none
def qc{H:Type}(P:Program):Nat->List Field->Nat->List (DataW H)->Option (List AV)
 |_,[],_,[]=>some []
 |n,f::fs,o,d::ds=>match oJ P n f.type d with
  |some a=>if f.offset=o/\a.length=P.cellsOf f.type then(match qc P n fs (o+a.length) ds with
   |some b=>some (a++b)
   |none=>none)else none
  |none=>none
 |_,_,_,_=>none
end
section
variable {H:Type} {enc:TypeId×Value->H} {P:Program} {w:World} {base:Nat} {spare:Nat->Bool} {held:Bool} {hp:Array Obj} {L:Nat->Prop} {β:Bl}
theorem RL.take_drop{al bs:List AV}{cs:List Value}{z:Nat}(h1:RL hp L β al (cs.take z))(hz:al.length=z)(h2:RL hp L β bs (cs.drop z)):RL hp L β (al++bs) cs:=by
 have:=h1.append h2;rwa [an9]at this
theorem D_{n m:Nat}{e:TypeId}(ih:∀(cs:List Value) (d:DataW H) (p:List MemPlace) (al:List AV),DataW.trod enc P w base spare held m e cs=some (d,p)->oJ P n e d=some al->RL hp L β al cs):
  ∀(xs:List (DataW H×List MemPlace)) (cs:List Value) (al:List AV),cs.length=xs.length*P.cellsOf e->(∀i,i<xs.length->DataW.trod enc P w base spare held m e ((cs.drop (i*P.cellsOf e)).take (P.cellsOf e))=xs[i]?)->
   Da P n e (P.cellsOf e) (xs.map (·.1))=some al->RL hp L β al cs
 |[],cs,al,hl,hx,hf=>by
  simp[Da]at hf;subst hf;have:cs=[]:=anE.1 (by simpa using hl);subst this;exact .nil
 |x::xs,cs,al,hl,hx,hf=>by
  simp only[anO,Da]at hf;split at hf
  ·rename_i a b ha hb;split at hf
   ·rename_i hz;cases hf;have h0:=hx 0 (by simp);simp at h0;obtain⟨d,p⟩:=x;have r1:=ih _ d p a h0 ha;refine r1.take_drop hz (D_ ih xs _ _ ?_ (λi hi=>?_) hb)
    ·simp only[am3,hl,am6,aoQ];omega
    ·have:=hx (i+1) (by simp;omega);rw[aoQ]at this;rw[an4,Nat.add_comm];simpa using this
   ·cases hf
  ·cases hf
theorem Eu{n m:Nat}(ih:∀(t:TypeId) (cs:List Value) (d:DataW H) (p:List MemPlace) (al:List AV),DataW.trod enc P w base spare held m t cs=some (d,p)->oJ P n t d=some al->RL hp L β al cs):
  ∀(fs:List Field) (xs:List (DataW H×List MemPlace)) (o:Nat) (cs:List Value) (al:List AV),al.length=cs.length->(∀(i:Nat) (f:Field),fs[i]?=some f->∃x,xs[i]?=some x/\o<=f.offset/\DataW.trod enc P w base spare held m f.type ((cs.drop (f.offset-o)).take (P.cellsOf f.type))=some x)->
   qc P n fs o (xs.map (·.1))=some al->RL hp L β al cs
 |[],[],o,cs,al,hl,hx,hf=>by
  simp[qc]at hf;subst hf;have:cs=[]:=anE.1 (by simpa using hl.symm);subst this;exact .nil
 |[],x::xs,o,cs,al,hl,hx,hf=>by simp[qc]at hf
 |f::fs,[],o,cs,al,hl,hx,hf=>by simp[qc]at hf
 |f::fs,x::xs,o,cs,al,hl,hx,hf=>by
  simp only[anO,qc]at hf;split at hf
  ·rename_i a ha;split at hf
   ·rename_i hc;obtain⟨hof,hz⟩:=hc;split at hf
    ·rename_i b hb;cases hf;obtain⟨x',h1,h2,h3⟩:=hx 0 f rfl;simp at h1;subst h1;rw[hof,aoS,aow]at h3;obtain⟨d,p⟩:=x;have r1:=ih _ _ d p a h3 ha;refine r1.take_drop hz (Eu ih fs xs _ _ _ ?_ (λi g hg=>?_) hb)
     ·simp at hl ⊢; omega
     ·obtain⟨y,q1,q2,q3⟩:=hx (i+1) g (by simpa using hg);have UP:o+a.length<=g.offset:=by
       clear q3;have:∀(fs:List Field) (ds:List (DataW H)) (o:Nat) (b:List AV),qc P n fs o ds=some b->∀(i:Nat) (g:Field),fs[i]?=some g->o<=g.offset:=by
        intro fs;induction fs with
        |nil=>intro ds o b _ i g hg;simp at hg
        |cons f fs ihf=>
         intro ds o b hb i g hg;cases ds with
         |nil=>simp[qc]at hb
         |cons d ds=>
         simp only[qc]at hb;split at hb
         ·split at hb
          ·rename_i hc;split at hb
           ·rename_i b' hb';cases i with
            |zero=>simp at hg;subst hg;omega
            |succ i=>have:=ihf _ _ _ hb' i g (by simpa using hg);omega
           ·cases hb
          ·cases hb
         ·cases hb
       exact this _ _ _ _ hb i g hg
      refine⟨y,by simpa using q1,UP,?_⟩;rw[<-hz,an4,show a.length+(g.offset-(o+a.length))=g.offset-o by omega];exact q3
    ·cases hf
   ·cases hf
  ·cases hf
theorem wu:∀(n m:Nat) (t:TypeId) (cs:List Value) (d:DataW H) (p:List MemPlace) (al:List AV),DataW.trod enc P w base spare held m t cs=some (d,p)->oJ P n t d=some al->RL hp L β al cs
 |0,m,t,cs,d,p,al,ht,hf=>by simp[oJ]at hf
 |n+1,m,t,cs,d,p,al,ht,hf=>by
  unfold oJ at hf;split at hf
  ·rename_i hu;obtain⟨b,rfl,hx⟩:=DataW.trod_bool hu ht;cases hx;cases hf;exact .cons (.bool _) .nil
  ·rename_i k hu;obtain⟨q,rfl,hx,_⟩:=DataW.trod_int hu ht;cases hx;simp only[anH]at hf;cases hf;exact .cons (.int _ _) .nil
  ·rename_i len e hu;obtain⟨xs,m1,rfl,hx,hcl,hxl,hel⟩:=DataW.trod_array hu ht;cases hx;simp only at hf;split at hf
   ·rename_i hc;exact D_ (n:=n) (λcs d p al h1 h2=>wu n m1 e cs d p al h1 h2) xs cs al (by rw[hcl,hc.2,hxl]) (λi hi=>hel i (by omega)) hf
   ·cases hf
  ·rename_i fs hu;obtain⟨xs,m1,rfl,hx,hcl,hxl,hel⟩:=DataW.trod_struct hu ht;cases hx;simp only at hf;split at hf
   ·rename_i al' h1;split at hf
    ·rename_i hl;cases hf;refine Eu (n:=n) (λt cs d p al h1 h2=>wu n m1 t cs d p al h1 h2) fs.toList xs 0 cs al (by rw[hl,hcl]) (λi f hi=>?_) h1;have hi':fs[i]?=some f:=by simpa using hi
     have hlt:i<xs.length:=by rw[hxl];exact(anv.1 hi').1
     have:=hel i f hi';rw[am0 hlt]at this;exact⟨xs[i],by simp[hlt],aoo _,by simpa using this⟩
    ·cases hf
   ·cases hf
  ·cases hf
end
end Go.Eng
end
noncomputable section
namespace Go.Proofs.YtndpneieplopaaaGreatDoor
open Go.Eng Go.St Go.RowKit Tryz
def HV:Hp:=((((PM.leaf.put 1 (.iq 1 (qC.map (.int .u8)))).put 2 (.iq 2 (yh.map (.int .u8)))).put 3 (.iq 3 [.iface 258 (.ptr 6 0)])).put 4 (.iq 4 [.iface 258 (.ptr 7 0)])).put 5 (.iq 5 (IV.map (.int .u64)))
def hV:AH:=⟨HV,8⟩
theorem RN(i:Nat):HV.get i=if i=5 then some (.iq 5 (IV.map (.int .u64)))else if i=4 then some (.iq 4 [.iface 258 (.ptr 7 0)])else if i=3 then some (.iq 3 [.iface 258 (.ptr 6 0)])else if i=2 then some (.iq 2 (yh.map (.int .u8)))else if i=1 then some (.iq 1 (qC.map (.int .u8)))else none:=by
 unfold HV;simp only[PM.jA];repeat' split
 all_goals rfl
theorem DJ{id:Nat}{o:dx}(h:HV.get id=some o):∃cs,(id,cs)∈VG/\o =.iq id cs:=by
 rw[RN]at h;split at h
 ·rename_i hi;subst hi;cases h;exact⟨_,by simp[VG],rfl⟩
 split at h
 ·rename_i hi;subst hi;cases h;exact⟨_,by simp[VG],rfl⟩
 split at h
 ·rename_i hi;subst hi;cases h;exact⟨_,by simp[VG],rfl⟩
 split at h
 ·rename_i hi;subst hi;cases h;exact⟨_,by simp[VG],rfl⟩
 split at h
 ·rename_i hi;subst hi;cases h;exact⟨_,by simp[VG],rfl⟩
 ·cases h
theorem PR{g:Nat}{cs:LA}(h:(g,cs)∈VG):HV.get g=some (.iq g cs):=by
 simp only[VG,anT,Prod.mk.injEq,aoc,aoT]at h;rw[RN];rcases h with⟨rfl,rfl⟩|⟨rfl,rfl⟩|⟨rfl,rfl⟩|⟨rfl,rfl⟩|⟨rfl,rfl⟩<;>simp
theorem aev:GJ hV:=⟨λ_ _ h=>PR h,amY _⟩
def bG(s r:Nat×Nat):Bl:=λid=>if id=0 then none else if id<6 then some (id,0)else if id=6 then some s else if id=7 then some r else none
def mu:AV->Bool
 |.int k _=>k !=.i64
 |.iface _ (.ptr id _)=>decide (id<8)
 |_=>false
theorem Oe:VG.all (λx=>x.2.all mu)=true:=by decide +kernel
theorem OI{g:Nat}{cs:LA}(h:(g,cs)∈VG){c:AV}(hc:c∈cs):mu c=true:=
 anK.1 (anK.1 Oe _ h) c hc
theorem vN{g:Nat}{cs:LA}(h:(g,cs)∈VG):1<=g/\g<=5:=by
 simp only[VG,anT,Prod.mk.injEq,aoc,aoT]at h;omega
theorem Zr{id:Nat}(h:1<=id/\id<=5):∃cs,(id,cs)∈VG:=by
 have:id=1\/id=2\/id=3\/id=4\/id=5:=by omega
 rcases this with rfl|rfl|rfl|rfl|rfl
 ·exact⟨qC.map (.int .u8),by simp[VG]⟩
 ·exact⟨yh.map (.int .u8),by simp[VG]⟩
 ·exact⟨[.iface 258 (.ptr 6 0)],by simp[VG]⟩
 ·exact⟨[.iface 258 (.ptr 7 0)],by simp[VG]⟩
 ·exact⟨IV.map (.int .u64),by simp[VG]⟩
theorem OX{hp hp':Array Obj}{L L':Nat->Prop}{β β':Bl}(he:∀id,id<8->β' id=β id){a:AV}(hx:mu a=true){v v':Value}(h:VR hp L β a v)(h':VR hp' L' β' a v'):v=v':=by
 cases a<;>simp[mu]at hx
 ·cases h;cases h';rfl
 ·rename_i t p;cases p<;>simp at hx;rename_i id off;cases h with
  |iface _ _ v h=>
  cases h' with
  |iface _ _ v' h'=>
  cases h with
  |ptr _ _ b base hb=>
  cases h' with
  |ptr _ _ b' eI hb'=>
  rw[he id hx,hb]at hb';cases hb';rfl
theorem Hv{hp hp':Array Obj}{L L':Nat->Prop}{β:Bl}{a:AV}(hx:mu a=true){v:Value}(h:VR hp L β a v):VR hp' L' β a v:=by
 cases a<;>simp[mu]at hx
 ·cases h;exact .int _ _
 ·rename_i t p;cases p<;>simp at hx;cases h with
  |iface _ _ v h=>
  cases h with
  |ptr _ _ b base hb=>exact .iface _ _ _ (.ptr _ _ _ _ hb)
theorem Qb{hp:Array Obj}{L:Nat->Prop}{β:Bl}{a:AV}(hx:mu a=true){n:Int}(h:VR hp L β a (.int .i64 n)):False:=by
 cases a<;>simp[mu]at hx
 ·cases h;exact hx rfl
 ·cases h
def aa2(W:World)(s r:Nat×Nat):Prop:=∀g cs,(g,cs)∈VG->∃cur e fz,W.heap[g]?=some (.cells cur e fz)/\Go.Eng.RL W.heap (λ_=>False) (bG s r) cs cur.toList
theorem Dt{s r:Nat×Nat}{g:Nat}(h:1<=g/\g<=5):bG s r g=some (g,0):=by
 unfold bG;rw[amU (by omega),am1 (by omega)]
theorem Oy{f:Nat}{YQ:LA}(hc:aK prog f YQ hV (.bool true) hV){W:World}{cS:Array Value}{s r:Nat×Nat}(hs:s.1<W.heap.size)(hr:r.1<W.heap.size)(hb:aa2 W s r)
  (hR:Go.Eng.RL W.heap (Go.Eng.LL (λ_=>False) (bG s r) hV.H) (bG s r) YQ cS.toList):Calls prog f cS W λe W'=>e =.returned (.bool true)/\Below W.heap.size W W':=by
 have hS:bV (λ_=>False) (bG s r) hV.H hV.nx W:=by
  refine⟨λid hid=>?_,λid b base hb'=>?_,λb hb=>hb.elim,λid o ho=>?_,λid id' o o' b x y h1 h2 h3 h4=>?_⟩
  ·have h8:8<=id:=hid;unfold bG;rw[amU (by omega),amU (by omega),amU (by omega),amU (by omega)]
  ·unfold bG at hb';split at hb'
   ·cases hb'
   split at hb'
   ·cases hb';have:=Zr (show 1<=id/\id<=5 by omega);obtain⟨cs,hm⟩:=this;obtain⟨cur,e,fz,h1,_⟩:=hb id cs hm;exact gg h1
   split at hb'
   ·cases hb';exact hs
   split at hb'
   ·cases hb';exact hr
   ·cases hb'
  ·obtain⟨cs,hm,rfl⟩:=DJ ho;obtain⟨cur,e,fz,h1,h2⟩:=hb id cs hm;refine⟨id,0,Dt (vN hm),λhf=>hf.elim,rfl,rfl,cur,e,fz,h1,?_,λi c v hc hv=>?_⟩
   ·have:=h2.1;simpa using this
   ·exact Hv (OI hm (am9 hc)) (h2.2 i c v hc (by simpa using hv))
  ·obtain⟨cs,hm,_⟩:=DJ h1;obtain⟨cs',hm',_⟩:=DJ h2;rw[Dt (vN hm)]at h3;rw[Dt (vN hm')]at h4;cases h3;cases h4;rfl
 refine(hc.2 (λ_=>False) (bG s r) W cS hS hR).mono ?_;rintro ee W' ⟨cv,v,h2,β',rfl,⟨rfl,rfl⟩,hS',hv,ht⟩;cases hv;refine⟨rfl,ht.os,ht.tape,ht.output,ht.size,λk hk=>?_⟩;by_cases hkg:∃cs,(k,cs)∈VG
 ·obtain⟨cs,hm⟩:=hkg;obtain⟨cur,e,fz,hbk,hRk⟩:=hb k cs hm;obtain⟨b,base,h1,_,h0,h3,jB,e',fz',h4,h5,h6⟩:=hS'.obj k _ (PR hm);subst h3;obtain⟨CV,fz2,h7,h8,h9⟩:=ht.shape _ _ _ _ hbk;obtain rfl:=h9 ⟨_,_,_,PR hm,h1⟩;rw[h7]at h4;cases h4;rw[h7,hbk];have:jB=cur:=by
   apply Array.ext h8;intro i hi1 hi2;have hlen:=hRk.1;simp at hlen;have hc:cs[i]?=some cs[i]:=am0 (by omega);refine OX (β:=bG s r) (β':=β') (λid hid=>?_) (OI hm (am9 hc)) (hRk.2 i _ _ hc (by simp[hi2])) (h6 i _ _ hc (Array.getElem?_eq_getElem hi1)) |>.symm;exact ht.low id hid
  rw[this]
 ·refine ht.du k hk ?_;rintro⟨id,o,base,h1,h2⟩;obtain⟨cs,hm,_⟩:=DJ h1;rw[Dt (vN hm)]at h2;cases h2;exact hkg ⟨cs,hm⟩
theorem Nd{W:World}{s r:Nat×Nat}(hb:aa2 W s r){L:List Int}{v:Value}(h:VR W.heap (λ_=>False) noB (jO L) v):VR W.heap (Go.Eng.LL (λ_=>False) (bG s r) hV.H) (bG s r) (jO L) v:=by
 unfold jO at h ⊢;generalize hx:(L.map λx=>[I x])=xs at*;have hel:∀(i:Nat) (x:LA),xs[i]?=some x->∃n,x=[I n]:=λi x hi=>by
  rw[<-hx,anb,anm]at hi;obtain⟨n,_,rfl⟩:=hi;exact⟨n,rfl⟩
 cases h with
 |jS a cap=>exact .jS a cap
 |psl _ z b o cap cur e fz hbk hL hs hz hc h=>
  by_cases h0:xs=[]
  ·subst h0;exact .jS _ _
  have hlen:0<xs.length:=anI.2 h0;obtain⟨x0,hx0⟩:∃x,xs[0]?=some x:=⟨xs[0],am0 hlen⟩;obtain⟨n0,rfl⟩:=hel 0 x0 hx0;have hz1:z=1:=(hz 0 _ hx0).symm;subst hz1;refine .psl _ 1 b o cap cur e fz hbk ?_ hs hz hc λi x j c v h1 h2 h3=>?_
  ·rintro(hf|⟨id,ob,base,h1,h2⟩)
   ·exact hf
   ·obtain⟨cs,hm,_⟩:=DJ h1;rw[Dt (vN hm)]at h2;cases h2;obtain⟨CV,e2,fz2,h4,h5⟩:=hb b cs hm;rw[hbk]at h4;cases h4;have hlt:o<cur.size:=by omega
    have hvo:=h 0 _ 0 (I n0) cur[o] hx0 rfl (by simp[hlt]);have hl2:=h5.1;simp at hl2;have hco:cs[o]?=some cs[o]:=am0 (by omega);have h6:=h5.2 o _ cur[o] hco (by simp[hlt]);generalize cur[o]=vv at*;cases hvo;exact Qb (OI hm (am9 hco)) h6
  ·obtain⟨n,rfl⟩:=hel i x h1;have:=h i _ j c v h1 h2 h3;match j with
   |0=>simp at h2;subst h2;cases this;exact .int _ _
   |j+1=>simp at h2
