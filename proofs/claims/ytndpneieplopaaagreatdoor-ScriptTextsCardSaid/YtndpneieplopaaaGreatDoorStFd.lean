/- The reference's print: the model. -/
import Derived.Test.YtndpneieplopaaaGreatDoorStJa
set_option linter.unusedSimpArgs false
set_option linter.unusedVariables false
noncomputable section
namespace Go.Proofs.YtndpneieplopaaaGreatDoor
open Go.Eng Go.St Tryz
def prA:Str->List Val->Str
 |acc,[]=>acc
 |acc,v::r=>if(dw 1 v 0).1≠0 then []else prA (acc++32::kY v) r
def yi(act:Int):Nat->Str
 |0=>[]
 |k+1=>if act=2^k then dI.getD k []else yi act k
def prC:Str->List (Int×Bool)->Str
 |acc,[]=>acc
 |acc,p::r=>if p.1<0 then []else prC (acc++bo [if p.2=true then -p.1 else p.1]) r
def Bo:Str:=[99,111,109,112,111,115,101,32,98,101,103,105,110]
def xB:Str:=[99,111,109,112,111,115,101,32,99,97,110,99,101,108]
def oD:Str:=[99,111,109,112,111,115,101,32,99,111,109,109,105,116,32]
def jj:Str:=[99,111,109,112,111,115,101,32,117,112,100,97,116,101,32]
def pr1(i:Inp):Str:=if i.pk<1\/7<=i.pk then []else([112,111,105,110,116,101,114,32]++gM.getD i.pk.toNat [])++bo [i.pid,i.px,i.py,i.pt,i.pw]
def pr2(i:Inp):Str:=([107,101,121,32]++(chF i.key i.mM).1)++bo [i.time]
def pr3(i:Inp):Str:=[116,105,109,101]++bo [i.time]
def pr4(i:Inp):Str:=[115,105,122,101]++bo [i.sw,i.sh]
def pr5(i:Inp):Str:=((([109,111,100,101,32]++(if i.nP=true then jP else nu))++[32])++(if i.high=true then jx else ji))++bo [i.scale]
def pr6(i:Inp):Str:=prA [97,114,103,115] i.args
def pr7(i:Inp):Str:=(((([97,99,99,101,115,115]++bo [i.ver,i.node])++[32])++yi i.act 9)++bo [i.frm,i.too])++[32]++iu i.rt
def pr8(i:Inp):Str:=if i.tk=14 then Bo else if i.tk=17 then xB else if i.tk=16 then oD++iu (cC i.t)else prC ((jj++iu (cC i.t))++bo [i.oa]) i.cls
def prT(i:Inp):Str:=
 if i.kind=1 then pr1 i else if i.kind=2 then pr2 i else if i.kind=3 then pr3 i else if i.kind=4 then pr4 i else if i.kind=5 then pr5 i else if i.kind=6 then pr6 i else if i.kind=7 then pr7 i else if i.kind=8 then pr8 i else []
structure PrB(i:Inp):Prop where
 na:i.args.length<=1000
 vw:∀v∈i.args,VW v
 t:i.t.length<=100000
 rt:i.rt.length<=400000
 nc:i.cls.length<=10000
 cl:∀p∈i.cls,p.1<=9223372036854775807
def qE:List (QE prog):=[e39,e40,e41,e42,e43,e44,e45]
def PRQ(h:AH)(s:Str):QT:=λv h'=>v =.str s/\Fr h h'
theorem Ra(h:AH)(L:List Int):NSl (h.add (.cells (L.map λn=>I n))) (.rsl h.nx 0 L.length 1) L:=⟨h.nx,rfl,aj _ _ _ rfl,by simp⟩
theorem ur(h:AH)(n:Int):NSl (h.add (.cells [I n])) (.rsl h.nx 0 1 1) [n]:=Ra h [n]
theorem Vj(h:AH)(n m:Int):NSl (h.add (.cells [I n,I m])) (.rsl h.nx 0 2 1) [n,m]:=Ra h [n,m]
structure BX(h h':AH)(cs:LA):Prop where
 fr:Fr h h'
 b:h'.ab h.nx=some cs
 nx:h.nx+1<=h'.nx
theorem BX.add{h h':AH}{cs:LA}(g:BX h h' cs)(o:dx):BX h (h'.add o) cs:=⟨g.fr.add o,by have:=g.nx;rw[aC _ _ _ (by omega)];exact g.b,by have:=g.nx;simp;omega⟩
theorem BX.bump{h h':AH}{cs:LA}(g:BX h h' cs){k:Nat}(hk:h'.nx<=k):BX h ⟨h'.H,k⟩ cs:=⟨g.fr.bump hk,g.b,ane g.nx hk⟩
theorem BX.set{h h':AH}{cs:LA}(g:BX h h' cs){k:Nat}(hk:h.nx+1<=k)(o:dx):BX h (h'.set k o) cs:=⟨g.fr.set (by omega) o,by rw[ak _ _ _ _ (by omega)];exact g.b,g.nx⟩
theorem q_3{h h1:AH}(i:Inp)(fr:Fr h h1):Hz (tb qE) (I i.time) h1 (PRQ h (pr3 i)):=by
 unfold pr3;generalize i.time=n;have haf:bW [I 0] [(0,1,I n)]=some [I n]:=rfl;unfold Hz qE;simp[haf];refine rJ _ [n] ⟨ur h1 n,by simp⟩ ?_;have hl:=bM [n];have fr2:=fr.add (.cells [I n]);have k1:=bQ (h:=h1.add (.cells [I n])) (a:=[116,105,109,101]) (b:=bo [n]) (by simp at hl ⊢; omega);generalize h1.add (.cells [I n])=h2 at*;generalize bo [n]=N at*;try simp only[anB,anx]at k1
 simp[k1];exact⟨rfl,fr2⟩
theorem q_4{h h1:AH}(i:Inp){A T CT CR C:AV}(g:BX h h1 (inG i A T CT CR C)):BK (tb qE) (.ptr h.nx 0) (.ptr h.nx 10) h1 (PRQ h (pr4 i)):=by
 unfold pr4;have i10:(inG i A T CT CR C)[10]?=some (I i.sw):=rfl;have i11:(inG i A T CT CR C)[11]?=some (I i.sh):=rfl;have hb:=g.b;generalize inG i A T CT CR C=X at*;generalize i.sw=n at*;generalize i.sh=m at*;have haf:bW [I 0,I 0] [(0,1,I n),(1,1,I m)]=some [I n,I m]:=rfl;unfold BK qE;simp[hb,i10,i11,haf];refine rJ _ [n,m] ⟨Vj h1 n m,by simp⟩ ?_;have hl:=bM [n,m];have fr2:=g.fr.add (.cells [I n,I m]);have k1:=bQ (h:=h1.add (.cells [I n,I m])) (a:=[115,105,122,101]) (b:=bo [n,m]) (by simp at hl ⊢; omega);generalize h1.add (.cells [I n,I m])=h2 at*;generalize bo [n,m]=N at*;try simp only[anB,anx]at k1
 unfold Tl;simp[k1];exact⟨rfl,fr2⟩
theorem q_2{h h1:AH}(i:Inp){A T CT CR C:AV}{kk:Nat}(g:BX h h1 (inG i A T CT CR C))(hk:h1.ab kk=some [I i.key,I i.mM])(hkk:kk<h1.nx):F0 (tb qE) (.ptr h.nx 0) (.rsl kk 0 1 2) h1 (PRQ h (pr2 i)):=by
 unfold pr2;have i9:(inG i A T CT CR C)[9]?=some (I i.time):=rfl;have hb:=g.b;generalize inG i A T CT CR C=X at*;generalize i.time=n at*;generalize i.key=k at*;generalize i.mM=m at*;have haf:bW [I 0] [(0,1,I n)]=some [I n]:=rfl;unfold F0 qE;simp[];refine adz kk k m ⟨hk,hkk⟩ ?_;have hcl:=Ju k m;have k0:=bQ (h:=h1) (a:=[107,101,121,32]) (b:=(chF k m).1) (by simp;omega);generalize chF k m=cf at*;obtain⟨W,e⟩:=cf;try simp only[anB,anx]at k0
 simp only at hcl;simp[PH,k0,hb,i9,haf];refine rJ _ [n] ⟨ur h1 n,by simp⟩ ?_;have hl:=bM [n];have fr2:=g.fr.add (.cells [I n]);have k1:=bQ (h:=h1.add (.cells [I n])) (a:=107::101::121::32::W) (b:=bo [n]) (by simp at hl ⊢; omega);generalize h1.add (.cells [I n])=h2 at*;generalize bo [n]=N at*;try simp only[anB,anx]at k1
 unfold PE;simp[k1];exact⟨rfl,fr2⟩
theorem q_5{h h1:AH}(i:Inp){A T CT CR C:AV}(g:BX h h1 (inG i A T CT CR C))(k5:i.kind=5):jU (tb qE) (.ptr h.nx 0) (.str []) (I 5) (.bool true) h1 (PRQ h (pr5 i)):=by
 unfold pr5;have i12:(inG i A T CT CR C)[12]?=some (.bool i.nP):=rfl;have i13:(inG i A T CT CR C)[13]?=some (.bool i.high):=rfl;have i14:(inG i A T CT CR C)[14]?=some (I i.scale):=rfl;have hb:=g.b;generalize inG i A T CT CR C=X at*;generalize i.scale=n at*;obtain⟨DD,hDD⟩:∃DD:Str,DD=if i.nP=true then jP else nu:=⟨_,rfl⟩
 obtain⟨HH,hHH⟩:∃HH:Str,HH=if i.high=true then jx else ji:=⟨_,rfl⟩
 rw[<-hDD,<-hHH];have lD:DD.length<=100:=by rw[hDD];split<;>decide
 have lH:HH.length<=100:=by rw[hHH];split<;>decide
 have haf:bW [I 0] [(0,1,I n)]=some [I n]:=rfl;unfold jU;simp[hb,i12];refine⟨λvs h2=>vs=[.ptr h.nx 0,.str DD,.str ji]/\h2=h1,?_,?_⟩
 ·cases hd:i.nP
  ·rw[hd]at hDD;simp[FH,hDD];exact⟨rfl,rfl⟩
  ·rw[hd]at hDD;simp[FH,hDD];exact⟨rfl,rfl⟩
 ·rintro vs h2 ⟨rfl,rfl⟩;simp[RO,hb,i13];refine⟨λvs h3=>vs=[.ptr h.nx 0,.str DD,.str HH]/\h3=h2,?_,?_⟩
  ·cases hd:i.high
   ·rw[hd]at hHH;simp[GG,hHH]
   ·rw[hd]at hHH;simp[GG,hHH];rfl
  ·rintro vs h3 ⟨rfl,rfl⟩;have k1:=bQ (h:=h3) (a:=[109,111,100,101,32]) (b:=DD) (by simp;omega);have k2:=bQ (h:=h3) (a:=[109,111,100,101,32]++DD) (b:=[32]) (by simp;omega);have k3:=bQ (h:=h3) (a:=([109,111,100,101,32]++DD)++[32]) (b:=HH) (by simp;omega);have hPl:((([109,111,100,101,32]++DD)++[32])++HH).length<=1000:=by simp;omega
   have hl:=bM [n];have k4:∀h:AH,ae h .add (.str (((([109,111,100,101,32]++DD)++[32])++HH))) (.str (bo [n]))=some (.str (((([109,111,100,101,32]++DD)++[32])++HH)++bo [n]),h):=λh=>bQ (by simp only[am2]at hl;omega)
   simp only[anB,anx,aok]at k1 k2 k3 k4 ⊢;unfold SI qE;simp[k1,k2,k3,hb,i14,haf];refine rJ _ [n] ⟨ur h3 n,by simp⟩ ?_;have fr2:=g.fr.add (.cells [I n]);generalize h3.add (.cells [I n])=h4 at*;generalize bo [n]=N at*;simp[Lk,k4];exact⟨rfl,fr2⟩
inductive QP1(h:AH)(X:List AV)(fl:Bool):List AV->AH->Prop
 |mk {h':AH}:BX h h' X->QP1 h X fl [.ptr h.nx 0,.bool fl] h'
theorem q_1{h h1:AH}(i:Inp){A T CT CR C:AV}(g:BX h h1 (inG i A T CT CR C)):aI (Bq (tb qE) (.ptr h.nx 0) h1) λvs h2=>BT (tb qE) (ai vs 0) (ai vs 1) h2 (PRQ h (pr1 i)):=by
 have i1:(inG i A T CT CR C)[1]?=some (I i.pk):=rfl;have i2:(inG i A T CT CR C)[2]?=some (I i.pid):=rfl;have i3:(inG i A T CT CR C)[3]?=some (I i.px):=rfl;have i4:(inG i A T CT CR C)[4]?=some (I i.py):=rfl;have i5:(inG i A T CT CR C)[5]?=some (I i.pt):=rfl;have i6:(inG i A T CT CR C)[6]?=some (I i.pw):=rfl;have hb:=g.b;unfold pr1;generalize inG i A T CT CR C=X at*;generalize i.pk=k at*;generalize i.pid=n1 at*;generalize i.px=n2 at*;generalize i.py=n3 at*;generalize i.pt=n4 at*;generalize i.pw=n5 at*;obtain⟨fl,hfl⟩:∃fl,fl=decide (k<1\/7<=k):=⟨_,rfl⟩;have hlen:∀h:AH,bh h (bU gM)=some (I 7,h):=λh=>am_ rfl rfl
 refine⟨QP1 h X fl,?_,?_⟩
 ·by_cases q1:k<1
  ·unfold qE;simp[Bq,hb,i1,q1];simp[GF];have:fl=true:=by rw[hfl];simp[q1]
   rw[<-this];exact .mk (g.bump (by omega))
  ·unfold qE;simp[Bq,hb,i1,q1];unfold GF;simp[];refine R6 trivial ?_;have:fl=decide (7<=k):=by rw[hfl];simp[q1]
   simp[hlen];rw[this];exact .mk (g.bump (by omega))
 ·rintro vs h2 ⟨g⟩;have hb:=g.b;have hnx:=g.nx;by_cases hq:k<1\/7<=k
  ·rw[hfl,anA hq,am1 hq];simp[BT];exact⟨rfl,g.fr⟩
  ·rw[hfl,anw hq,amU hq];have hk7:k.toNat<gM.length:=by show k.toNat<7;omega
   have hx:=λh=>eU h gM k.toNat _ (gr hk7)
   have e:((k.toNat:Nat):Int)=k:=by omega
   rw[e]at hx;have hw:(gM.getD k.toNat []).length<=100:=by
    have:=am9 (gr hk7);exact(by decide:∀w∈gM,w.length<=100) _ this
   generalize gM.getD k.toNat []=W at*;have ka:∀h:AH,ae h .add (.str [112,111,105,110,116,101,114,32]) (.str W)=some (.str ([112,111,105,110,116,101,114,32]++W),h):=λh=>bQ (by simp;omega)
   have hl:=bM [n1,n2,n3,n4,n5];have kb:∀h:AH,ae h .add (.str ([112,111,105,110,116,101,114,32]++W)) (.str (bo [n1,n2,n3,n4,n5]))=some (.str (([112,111,105,110,116,101,114,32]++W)++bo [n1,n2,n3,n4,n5]),h):=λh=>bQ (by simp at hl ⊢; omega)
   have haf:bW [I 0,I 0,I 0,I 0,I 0] [(0,1,I n1),(1,1,I n2),(2,1,I n3),(3,1,I n4),(4,1,I n5)]=some [I n1,I n2,I n3,I n4,I n5]:=rfl;simp only[anB,anx]at ka kb ⊢;unfold BT qE;simp[];refine R6 trivial ?_;have g:=g.bump (k:=h2.nx+26) (by omega);simp[hb,i1,hx,ka];simp[Q5,hb,i2,i3,i4];simp[Sh,hb,i5,i6,haf];have g:=g.set (k:=h2.nx+22) (by omega) (.cells [I n1,I n2,I n3,I n4,I n5]);have hck:((AH.mk h2.H (h2.nx+26)).set (h2.nx+22) (.cells [I n1,I n2,I n3,I n4,I n5])).ab (h2.nx+22)=some [I n1,I n2,I n3,I n4,I n5]:=an _ _ _ _ rfl;have hkl:h2.nx+22<((AH.mk h2.H (h2.nx+26)).set (h2.nx+22) (.cells [I n1,I n2,I n3,I n4,I n5])).nx:=by show _<h2.nx+26;omega
   refine rJ _ [n1,n2,n3,n4,n5] ⟨⟨h2.nx+22,rfl,hck,hkl⟩,by simp⟩ ?_;generalize bo [n1,n2,n3,n4,n5]=N at*;simp[Qn,kb];refine⟨?_,rfl,g.fr⟩;omega
theorem VW.len{v:Val}(h:VW v):(kY v).length<=1000000000:=by cases h;assumption
inductive QP6(h:AH)(X:List AV)(L:List Val)(R:Str):Nat->List AV->AH->Prop
 |mk {m:Nat} {h':AH} (i:Nat) (acc:Str):i+m=L.length->prA acc (L.drop i)=R->acc.length<=10+i*1000000001->BX h h' X->QP6 h X L R m [.ptr h.nx 0,.str acc,I i] h'
theorem q_6{h h1:AH}(i:Inp){A T CT CR C:AV}(g:BX h h1 (inG i A T CT CR C))(hA:Sl (vCs i.args) A)(hB:PrB i):jU (tb qE) (.ptr h.nx 0) (.str []) (I 6) (.bool false) h1 (PRQ h (pr6 i)):=by
 have i15:(inG i A T CT CR C)[15]?=some A:=rfl;have hna:=hB.na;have hvw:=hB.vw;unfold pr6;generalize inG i A T CT CR C=X at*;generalize i.args=L at*;have l1:∀h:AH,bh h A=some (I L.length,h):=λh=>by rw[gW hA,dr]
 simp[jU];refine⟨QP6 h X L (prA [97,114,103,115] L),L.length,.mk 0 _ (by simp) rfl (by simp) g,?_⟩;generalize prA [97,114,103,115] L=R at*;clear g;rintro m vs h2 ⟨i,acc,him,hR,hl,g⟩;have hb:=g.b;cases m with
 |zero=>
  have hlt:¬(i:Int)<L.length:=by omega
  rw[anf (by omega)]at hR;simp[Hq,hb,i15,l1,hlt];simp[Iu,HA];exact⟨by rw[<-hR];rfl,g.fr⟩
 |succ m=>
  have hi:i<L.length:=by omega
  have hlt:(i:Int)<L.length:=by omega
  have i1:∀h:AH,aF h 4 A (I i)=some (.cd (vC L[i]),h):=λh=>gY hA (nD hi) (cH _)
  have k1:cut (vC L[i]) 0 4=some (vC L[i]):=by
   have:=aM (α:=vC L[i]) (b:=[]) (n:=4) (cH _);rwa [am5]at this
  have hv:=hvw _ (anL hi);rw[ang hi]at hR;simp only[prA]at hR;generalize L[i]=v at*;simp[Hq,hb,i15,l1,hlt,i1,k1];unfold Ko;unfold qE;simp[];refine Yf v trivial ?_;by_cases hc:(dw 1 v 0).1=0
  ·rw[amU (by simpa using hc)]at hR;simp[hc,hb,i15,i1,k1];refine ad_ v hv ?_;have hvl:=hv.len;have k2:=bQ (h:=h2) (a:=[32]) (b:=kY v) (by simp;omega);have hmul:i*1000000001<=1000*1000000001:=anS _ (by omega);have k3:=bQ (h:=h2) (a:=acc) (b:=[32]++kY v) (by simp;omega);simp only[anB,anx]at k2 k3;simp[Ln,k2];rw[k3];simp(disch:=first|go_size|fail)[];refine⟨m,by omega,?_⟩;exact .mk (i+1) (acc++32::kY v) (show i+1+m=L.length by omega) hR (by simp only[amX,am6,anY];omega) g
  ·rw[am1 hc]at hR;subst hR;simp[hc];simp[Iu];exact⟨rfl,g.fr⟩
structure BR(h h':AH)(X Y:LA)(k:Nat):Prop where
 bx:BX h h' X
 c:h'.ab k=some Y
 k1:h.nx+1<=k
 k2:k<h'.nx
theorem BR.bump{h h':AH}{X Y:LA}{k:Nat}(g:BR h h' X Y k){m:Nat}(hk:h'.nx<=m):BR h ⟨h'.H,m⟩ X Y k:=⟨g.bx.bump hk,g.c,g.k1,ant g.k2 hk⟩
theorem BR.set{h h':AH}{X Y:LA}{k:Nat}(g:BR h h' X Y k){q:Nat}(hq:h.nx+1<=q)(hqk:q≠k)(o:dx):BR h (h'.set q o) X Y k:=⟨g.bx.set hq o,by rw[ak _ _ _ _ (aoL hqk)];exact g.c,g.k1,g.k2⟩
inductive QP7(h:AH)(X Y:List AV)(k:Nat)(act:Int):Nat->List AV->AH->Prop
 |mk {m:Nat} {h':AH} (i:Nat):i+m=9->BR h h' X Y k->QP7 h X Y k act m [.str (yi act i),.ptr k 0,I i] h'
theorem xl(act:Int):∀k,(yi act k).length<=100
 |0=>by simp[yi]
 |k+1=>by
  unfold yi;split
  ·by_cases h:k<dI.length
   ·have:=am9 (gr h);exact(by decide:∀w∈dI,w.length<=100) _ this
   ·rw[anh,aoa (by omega)];simp
  ·exact xl act k
theorem q_7{h h1:AH}(i:Inp){A T CT CR C:AV}(g:BX h h1 (inG i A T CT CR C))(hB:PrB i):jU (tb qE) (.ptr h.nx 0) (.str []) (I 7) (.bool false) h1 (PRQ h (pr7 i)):=by
 have ic:cut (inG i A T CT CR C) 16 6=some [I i.ver,I i.node,I i.act,I i.frm,I i.too,.str i.rt]:=rfl;have hrt:=hB.rt;have hb:=g.b;unfold pr7;generalize inG i A T CT CR C=X at*;generalize i.ver=n1 at*;generalize i.node=n2 at*;generalize i.act=act at*;generalize i.frm=n3 at*;generalize i.too=n4 at*;generalize i.rt=rt at*;simp[jU,hb,ic];have g7:BR h ((h1.add (.cells [I 0,I 0,I 0,I 0,I 0,.str []])).set h1.nx (.cells [I n1,I n2,I act,I n3,I n4,.str rt])) X [I n1,I n2,I act,I n3,I n4,.str rt] h1.nx:=
  ⟨(g.add _).set g.nx _,an _ _ _ _ rfl,g.nx,by simp⟩
 generalize(h1.add (.cells [I 0,I 0,I 0,I 0,I 0,.str []])).set h1.nx (.cells [I n1,I n2,I act,I n3,I n4,.str rt])=h2 at*;generalize h1.nx=k at*;refine⟨QP7 h X [I n1,I n2,I act,I n3,I n4,.str rt] k act,9,.mk 0 rfl g7,?_⟩;clear g7 g hb ic;rintro m vs h3 ⟨i,him,g⟩;have hc:=g.c;have hlen:∀h:AH,bh h (bU dI)=some (I 9,h):=λh=>am_ rfl rfl
 cases m with
 |succ m=>
  have hlt:(i:Int)<9:=by omega
  unfold qE;simp[Br];refine JB trivial ?_;simp[hlen,hlt];refine⟨λvs h4=>vs=[.str (yi act (i+1)),.ptr k 0,I i]/\h4=h3,?_,?_⟩
  ·have hsh:=Ro h3 (q:=i) (by omega);have hF:yi act (i+1)=if act=2^i then dI.getD i []else yi act i:=rfl
   have hw:IntKind.u64.wrap (i:Int)=i:=y2 i (by omega);by_cases he:act=2^i
   ·rw[am1 he]at hF;simp[Bf,hc,hw,hsh,he];refine JB trivial ?_;have hx:=eU h3 dI i _ (gr (show i<dI.length by show i<9;omega));rw[<-he,hF];generalize dI.getD i []=W at*;unfold KQ;rw[hx];simp[]
   ·rw[amU he]at hF;simp(disch:=first|go_size|fail)[Bf,hc,hw,hsh,he];rw[hF]
  ·rintro vs h4 ⟨rfl,rfl⟩;simp(disch:=first|go_size|fail)[JH];exact⟨m,by omega,.mk (i+1) (show i+1+m=9 by omega) g⟩
 |zero=>
  obtain rfl:i=9:=by omega
  unfold qE;simp[Br];refine JB trivial ?_;simp[hlen];unfold Kk;have hal:=xl act 9;generalize yi act 9=D at*;have l1:=bM [n1,n2];have l2:=bM [n3,n4];have lq:=mW rt;have ES:bW [I 0,I 0] [(0,1,I n1),(1,1,I n2)]=some [I n1,I n2]:=rfl;have EL:bW [I 0,I 0] [(0,1,I n3),(1,1,I n4)]=some [I n3,I n4]:=rfl;have hk1:=g.k1;have hk2:=g.k2;obtain⟨P0,hP0⟩:∃P0:Str,P0=[97,99,99,101,115,115]:=⟨_,rfl⟩;have alS:P0.length=6:=by rw[hP0];rfl
  unfold Ak;rw[<-hP0];have hg:=g.bump (m:=h3.nx+23) (by omega);simp[hc,ES];have g1:=hg.set (q:=h3.nx+4) (by omega) (by omega) (.cells [I n1,I n2]);have XD:((AH.mk h3.H (h3.nx+23)).set (h3.nx+4) (.cells [I n1,I n2])).ab (h3.nx+4)=some [I n1,I n2]:=an _ _ _ _ rfl;have hn1:((AH.mk h3.H (h3.nx+23)).set (h3.nx+4) (.cells [I n1,I n2])).nx=h3.nx+23:=rfl;generalize(AH.mk h3.H (h3.nx+23)).set (h3.nx+4) (.cells [I n1,I n2])=h4 at*;refine rJ _ [n1,n2] ⟨⟨h3.nx+4,rfl,XD,by omega⟩,by simp⟩ ?_;generalize bo [n1,n2]=N1 at*;simp only[am6,anr]at l1 l2;have ka:=λh=>bQ (h:=h) (a:=P0) (b:=N1) (by omega)
  have kb:=λh=>bQ (h:=h) (a:=P0++N1) (b:=[32]) (by simp;omega)
  have hc4:=g1.c;simp[ka,kb];have kc:=λh=>bQ (h:=h) (a:=(P0++N1)++[32]) (b:=D) (by simp;omega)
  simp only[aok,anB,anx]at kc;simp[JP,hc4,kc,EL];have g2:=g1.set (q:=h3.nx+14) (by omega) (by omega) (.cells [I n3,I n4]);have ajT:(h4.set (h3.nx+14) (.cells [I n3,I n4])).ab (h3.nx+14)=some [I n3,I n4]:=an _ _ _ _ rfl;have hn2:(h4.set (h3.nx+14) (.cells [I n3,I n4])).nx=h3.nx+23:=hn1;generalize h4.set (h3.nx+14) (.cells [I n3,I n4])=h5 at*;refine⟨by omega,?_⟩;refine rJ _ [n3,n4] ⟨⟨h3.nx+14,rfl,ajT,by omega⟩,by simp⟩ ?_;generalize bo [n3,n4]=N2 at*;have kd:=λh=>bQ (h:=h) (a:=((P0++N1)++[32])++D) (b:=N2) (by simp;omega)
  have ke:=λh=>bQ (h:=h) (a:=(((P0++N1)++[32])++D)++N2) (b:=[32]) (by simp;omega)
  have kf:=λh=>bQ (h:=h) (a:=((((P0++N1)++[32])++D)++N2)++[32]) (b:=iu rt) (by simp;omega)
  simp only[aok,anB,anx]at kd ke kf;have hc5:=g2.c;simp[LR,kd,ke,hc5];refine⟨by omega,?_⟩;refine KB rt hrt ?_;refine⟨by omega,?_⟩;generalize iu rt=QT at*;simp[kf];refine⟨by omega,by omega,by omega,by omega,?_⟩;exact⟨by rw[hP0];rfl,g2.bx.fr⟩
theorem Y3{T:AV}{t:List Int}(hT:Sl (rnC t) T)(h:AH):kX h .r2s [T]=some (.str (cC t),h):=by
 rcases hT with rfl|⟨rfl,h0⟩
 ·exact wU h t
 ·have:t=[]:=by cases t with|nil=>rfl|cons a b=>simp[rnC]at h0
  subst this;rfl
inductive QP8(h:AH)(X Y:List AV)(k:Nat)(L:List (Int×Bool))(R:Str):Nat->List AV->AH->Prop
 |mk {m:Nat} {h':AH} (i:Nat) (acc:Str):i+m=L.length->prC acc (L.drop i)=R->acc.length<=1000000+22*i->BR h h' X Y k->QP8 h X Y k L R m [.str acc,.ptr k 0,I i] h'
theorem q_8{h h1:AH}(i:Inp){A T CT CR C:AV}(g:BX h h1 (inG i A T CT CR C))(hT:Sl (rnC i.t) T)(hC:Sl (cbC i.cls) C)(hCT:CT.one=true)(hCR:CR.one=true)(hB:PrB i):jU (tb qE) (.ptr h.nx 0) (.str []) (I 8) (.bool false) h1 (PRQ h (pr8 i)):=by
 have ic:cut (inG i A T CT CR C) 22 15=some (txG i T CT CR C):=rfl;have hb:=g.b;have o1:dj (txG i T CT CR C)=true:=by
  have a1:=ib hT;have a4:=ib hC;simp only[txG,dj,aoE,a1,hCT,hCR,a4];rfl
 have t0:(txG i T CT CR C)[0]?=some (I i.tk):=rfl;have t1:(txG i T CT CR C)[1]?=some T:=rfl;have t12:(txG i T CT CR C)[12]?=some (I i.oa):=rfl;have t13:(txG i T CT CR C)[13]?=some C:=rfl;have tl:(txG i T CT CR C).length=15:=rfl;have hte:=hB.t;have hnc:=hB.nc;have hcl:=hB.cl;have agF:=Y3 hT;have hel:=lL i.t;unfold pr8;generalize inG i A T CT CR C=X at*;generalize txG i T CT CR C=Y at*;have hz:∃Z:List AV,Z=[I 0,.aa,.aa,.aa,I 0,I 0,.bool false,I 0,I 0,I 0,I 0,I 0,I 0,.aa,I 0]:=⟨_,rfl⟩;obtain⟨Z,hZ⟩:=hz;have hZl:Z.length=15:=by rw[hZ];rfl
 have hsp:a7 Z 0 Y=some Y:=dG (by rw[tl,hZl]);unfold jU;rw[<-hZ];simp[hb,ic,tl,o1,hsp];clear tl hsp hZ hZl;have g7:BR h ((h1.add (.cells Z)).set h1.nx (.cells Y)) X Y h1.nx:=⟨(g.add _).set g.nx _,an _ _ _ _ rfl,g.nx,by simp⟩;generalize(h1.add (.cells Z)).set h1.nx (.cells Y)=h2 at*;generalize h1.nx=k at*;have hc:=g7.c;have lq:=mW (cC i.t);generalize cC i.t=S at*;have hSl:S.length<=400000:=by omega
 unfold Lx;by_cases k14:i.tk=14
 ·rw[am1 k14];simp[hc,t0,k14];exact⟨rfl,g7.bx.fr⟩
 rw[amU k14];by_cases k17:i.tk=17
 ·rw[am1 k17];simp[hc,t0,k14,k17];exact⟨rfl,g7.bx.fr⟩
 rw[amU k17];by_cases k16:i.tk=16
 ·rw[am1 k16];simp[hc,t0,k14,k17,k16,t1,agF];unfold qE;simp[];refine KB S hSl ?_;have ka:=bQ (h:=h2) (a:=oD) (b:=iu S) (by show 15+_<=_;omega);obtain⟨P0,hP0⟩:∃P0:Str,P0=oD:=⟨_,rfl⟩;have acp:P0=[99,111,109,112,111,115,101,32,99,111,109,109,105,116,32]:=hP0;unfold Ly;rw[<-acp];rw[<-hP0]at ka ⊢;generalize iu S=QT at*;simp[ka];exact⟨rfl,g7.bx.fr⟩
 rw[amU k16];have abO:∀h:AH,bh h C=some (I i.cls.length,h):=λh=>by rw[gW hC];simp[cbC]
 generalize i.cls=L at*;generalize i.oa=ct at*;simp[hc,t0,k14,k17,k16,t1,agF];unfold qE;simp[];refine KB S hSl ?_;refine⟨by simp,?_⟩;have hk1:=g7.k1;have hk2:=g7.k2;have g8:=g7.bump (m:=h2.nx+11) (by omega);have ES:bW [I 0] [(0,1,I ct)]=some [I ct]:=rfl;have hN:=bM [ct];have alc:jj.length=15:=rfl;have ka:=λh=>bQ (h:=h) (a:=jj) (b:=iu S) (by omega)
 have kb:=λh=>bQ (h:=h) (a:=jj++iu S) (b:=bo [ct]) (by simp only[amX,am2]at hN ⊢; omega)
 have hQl:((jj++iu S)++bo [ct]).length<=1000000:=by simp only[amX,am2]at hN ⊢; omega
 obtain⟨P0,hP0⟩:∃P0:Str,P0=jj:=⟨_,rfl⟩;have acp:P0=[99,111,109,112,111,115,101,32,117,112,100,97,116,101,32]:=hP0;rw[<-hP0]at ka kb hQl ⊢;unfold Kx;rw[<-acp];have hc8:=g8.c;simp[ka,hc8,t12,ES];have g9:=g8.set (q:=h2.nx+7) (by omega) (by omega) (.cells [I ct]);have XD:((AH.mk h2.H (h2.nx+11)).set (h2.nx+7) (.cells [I ct])).ab (h2.nx+7)=some [I ct]:=an _ _ _ _ rfl;have hn1:((AH.mk h2.H (h2.nx+11)).set (h2.nx+7) (.cells [I ct])).nx=h2.nx+11:=rfl;generalize(AH.mk h2.H (h2.nx+11)).set (h2.nx+7) (.cells [I ct])=h4 at*;refine rJ _ [ct] ⟨⟨h2.nx+7,rfl,XD,by omega⟩,by simp⟩ ?_;rw[<-aok P0];generalize(P0++iu S)++bo [ct]=ACC at*;refine⟨by omega,?_⟩;have hrk:aU (rdK (xRd .r2s [T])) (.alloc (h2.nx+7) (.cells [I ct]))=true:=by rcases hT with rfl|⟨rfl,_⟩<;>rfl
 simp[kb,hrk];refine⟨by omega,?_⟩;refine⟨QP8 h X Y k L (prC ACC L),L.length,.mk 0 ACC (by simp) rfl (by omega) g9,?_⟩;generalize prC ACC L=R at*;clear kb hQl g9 XD hn1 hc8 g8 hc g7 hb ka;rintro m vs h5 ⟨i,acc,him,hR,hl,g⟩;have hc:=g.c;cases m with
 |zero=>
  have hlt:¬(i:Int)<L.length:=by omega
  rw[anf (by omega)]at hR;simp[uq,hc,t13,abO,hlt];simp[BE,Ce];exact⟨by rw[<-hR];rfl,g.bx.fr⟩
 |succ m=>
  have hi:i<L.length:=by omega
  have hlt:(i:Int)<L.length:=by omega
  have i1:∀h:AH,aF h 2 C (I i)=some (.cd [I L[i].1,.bool L[i].2],h):=λh=>gY hC (by simp[cbC,hi]) rfl
  have hmx:=hcl _ (anL hi);rw[ang hi]at hR;simp only[prC]at hR;generalize L[i]=p at*;obtain⟨n,tg⟩:=p;simp only at hR hmx i1;by_cases hn:n<0
  ·rw[am1 hn]at hR;subst hR;simp[uq,hc,t13,abO,hlt,i1];simp[AI,hn];simp[BE];exact⟨rfl,g.bx.fr⟩
  ·rw[amU hn]at hR;obtain⟨N,hN0⟩:∃N:Int,N=if tg=true then -n else n:=⟨_,rfl⟩
   rw[<-hN0]at hR;simp[uq,hc,t13,abO,hlt,i1];simp[AI,hn,hc,t13,i1];refine⟨λvs h6=>vs=[.str acc,.ptr k 0,I i,I N]/\h6=h5,?_,?_⟩
   ·cases tg
    ·simp[B6,hN0]
    ·simp(disch:=first|go_size|fail)[B6,hN0]
   ·rintro vs h6 ⟨rfl,rfl⟩;have EL:bW [I 0] [(0,1,I N)]=some [I N]:=rfl;have hNl:=bM [N];simp only[am2]at hNl;have k1:=bQ (h:=h6.add (.cells [I N])) (a:=acc) (b:=bo [N]) (by omega);simp(disch:=first|go_size|fail)[L0,EL];refine rJ _ [N] ⟨ur h6 N,by simp⟩ ?_;have g2:BR h (h6.add (.cells [I N])) X Y k:=⟨g.bx.add _,by rw[aC _ _ _ (by have:=g.k2;omega)];exact g.c,g.k1,by have:=g.k2;simp;omega⟩;generalize h6.add (.cells [I N])=h7 at*;generalize bo [N]=NN at*;simp(disch:=first|go_size|fail)[k1];refine⟨m,by omega,?_⟩;exact .mk (i+1) (acc++NN) (show i+1+m=L.length by omega) hR (by simp only[amX];omega) g2
theorem VH(h:AH)(i:Inp)(cs:LA)(hx:InC i cs/\PrB i):aK prog 24 [.agg cs] h (.str (prT i)) h:=by
 obtain⟨⟨A,T,CT,CR,C,rfl,hA,hT,hCT,hCR,hC⟩,hB⟩:=hx;refine kM (λ_=>.str _) (C24 (aW qE) ?_);show g24 (tb qE) (.agg (inG i A T CT CR C)) h (PRQ h (prT i))
 have i0:(inG i A T CT CR C)[0]?=some (I i.kind):=rfl;have i9:(inG i A T CT CR C)[9]?=some (I i.time):=rfl;have ic:cut (inG i A T CT CR C) 7 2=some [I i.key,I i.mM]:=rfl;have g:BX h (h.add (.cells (inG i A T CT CR C))) (inG i A T CT CR C):=⟨(Fr.refl h).add _,aj _ _ _ rfl,by simp⟩;have hbx:fh h (.agg (inG i A T CT CR C))=some (.ptr h.nx 0,h.add (.cells (inG i A T CT CR C))):=rfl;unfold prT;unfold g24;rw[hbx];generalize h.add (.cells (inG i A T CT CR C))=h1 at*;have hb:=g.b;generalize hX:inG i A T CT CR C=X at*;have haf:bW [I 0,I 0] [(0,2,.agg [I i.key,I i.mM])]=some [I i.key,I i.mM]:=rfl;by_cases k1:i.kind=1
 ·rw[am1 k1];rw[k1]at i0;simp[hb,i0];subst hX;exact q_1 i g
 rw[amU k1];by_cases k2:i.kind=2
 ·rw[am1 k2];rw[k2]at i0;simp[hb,i0,ic,haf];subst hX;exact q_2 i (g.add _) (aj _ _ _ rfl) (by simp)
 rw[amU k2];by_cases k3:i.kind=3
 ·rw[am1 k3];rw[k3]at i0;simp[hb,i0,i9];exact q_3 i g.fr
 rw[amU k3];by_cases k4:i.kind=4
 ·rw[am1 k4];rw[k4]at i0;simp[hb,i0];subst hX;exact q_4 i g
 rw[amU k4];by_cases k5:i.kind=5
 ·rw[am1 k5];rw[k5]at i0;simp[hb,i0];subst hX;exact q_5 i g k5
 rw[amU k5];by_cases k6:i.kind=6
 ·rw[am1 k6];rw[k6]at i0;simp[hb,i0];subst hX;exact q_6 i g hA hB
 rw[amU k6];by_cases k7:i.kind=7
 ·rw[am1 k7];rw[k7]at i0;simp[hb,i0];subst hX;exact q_7 i g hB
 rw[amU k7];by_cases k8:i.kind=8
 ·rw[am1 k8];rw[k8]at i0;simp[hb,i0];subst hX;exact q_8 i g hT hC (ib hCT) (ib hCR) hB
 rw[amU k8];simp[hb,i0,k1,k2,k3,k4,k5];simp[jU,k5,k6,k7,k8];exact⟨rfl,g.fr⟩
def e24:QE prog:=QE.fn 24 (λ_=>True) (fun(y:Inp×LA)=>match y with|⟨i,cs⟩=>[.agg cs]) (fun(y:Inp×LA)(h:AH)=>match y with|⟨i,cs⟩=>InC i cs/\PrB i) (fun(y:Inp×LA)=>match y with|⟨i,cs⟩=>.str (prT i)) (λh y hj hx=>match y,hx with|⟨i,cs⟩,hx=>VH h i cs hx)
theorem aeG{tl h}(i:Inp)(cs:LA){Q:QT}(hx:InC i cs/\PrB i)(hq:Q (.str (prT i)) h):tb (e24::tl) 24 [.agg cs] h Q:=aV (i,cs) trivial hx hq
@[simp ↓] theorem akB:TbT e24 24:=aH e24
def rIn(s:Str):Inp:=if h:s.length<=1000000 then Classical.choose (vp s h)else Inp.z
theorem ZG{s:Str}(h:s.length<=1000000):InC (rIn s) (fg s).1/\InB (rIn s):=by
 unfold rIn;rw[dif_pos h];exact Classical.choose_spec (vp s h)
def yb:Str->List Inp->Str×Int
 |acc,[]=>(acc,0)
 |acc,i::r=>if pj (prT i)=true/\dq (rIn (prT i)) i=true then yb (acc++(prT i++[10])) r else([],1)
def rl(l:List Inp):Str×Int:=if 200<l.length then([],2)else yb [] l
theorem DC:∀(l:List Inp) (acc:Str),(∀i∈l,(prT i).length<=100000)->(yb acc l).1.length<=acc.length+100001*l.length
 |[],acc,_=>by simp[yb]
 |i::r,acc,h=>by
  unfold yb;split
  ·have h1:=DC r (acc++(prT i++[10])) (λj hj=>h j (by simp[hj]));have h2:=h i (by simp);simp only[amX,am6,anr]at h1 ⊢;omega
  ·simp
structure Lst(h:AH)(A:AV)(css:List (LA)):Prop where
 len:∀h',bh h' A=some (I css.length,h')
 at_:∀(i:Nat) (c:LA),css[i]?=some c->∃p,∀h',Fr h h'->aF h' 37 A (I i)=some (p,h')/\bj h' 37 p=some (.agg c,h')
theorem aao{h:AH}{A:AV}{css:List (LA)}(hA:Sl css A)(hz:∀c∈css,c.length=37):Lst h A css:=by
 refine⟨λh'=>gW hA,λi c hc=>⟨.cd c,λh' _=>⟨gY hA hc (hz c (am9 hc)),?_⟩⟩⟩;have k1:cut c 0 37=some c:=by
  have:=aM (α:=c) (b:=[]) (n:=37) (hz c (am9 hc));rwa [am5]at this
 simp[k1]
theorem Dm{α:Type}{z:Nat}:∀(ys:List (List α)),(∀y∈ys,y.length=z)->∀(i:Nat) (y:List α),ys[i]?=some y->(ys.flatten.drop (i*z)).take z=y/\i*z+z<=ys.flatten.length
 |[],_,i,y,h=>by simp at h
 |x::ys,hz,0,y,h=>by
  simp at h;subst h;have hx:=hz x (by simp);simp only[an6,Nat.zero_mul,aow,amX];exact⟨by rw[List.take_append_of_le_length (by omega),anc (by omega)],by omega⟩
 |x::ys,hz,i+1,y,h=>by
  simp at h;have hx:=hz x (by simp);have ih:=Dm ys (λy hy=>hz y (by simp[hy])) i y h;simp only[an6,anY,aoH,amX];refine⟨?_,by omega⟩;rw[List.drop_append,anf (by omega),anx,show i*z+z-x.length=i*z by omega];exact ih.1
theorem aay{hb h:AH}{lv:AV}{css:List (LA)}(o:OL 37 hb h lv css.length css.flatten)(hz:∀c∈css,c.length=37):Lst h lv css:=by
 rcases o with⟨rfl,h2,h3⟩|⟨k,rfl,hn0,hk0,hk,hcs,hlen⟩
 ·have:css=[]:=am8 h2;subst this;exact aao (.inr ⟨rfl,rfl⟩) (by simp)
 ·refine⟨λh'=>by simp,λi c hc=>⟨.ptr k (0+i*37),λh' fr=>?_⟩⟩;have hi:=(amV.1 hc).1;have hx:=dY (h:=h') (z:=37) (id:=k) (off:=0) (len:=css.length) (i:=i) (by omega) (by omega);have hcf:=Dm css hz i c hc;have tS:h'.ab k=some css.flatten:=by rw[ay (fr.get k hk)];exact hcs
  refine⟨hx,SG tS ?_⟩;unfold cut;rw[aoe,am1 hcf.2,hcf.1]
inductive QF(h:AH)(A:AV)(L:List Inp)(R:Str×Int):Nat->List AV->AH->Prop
 |mk {m:Nat} {h':AH} (i:Nat) (acc:Str):i+m=L.length->yb acc (L.drop i)=R->acc.length<=1000001*i->Fr h h'->QF h A L R m [A,.str acc,I i] h'
inductive QFm(h:AH)(A:AV)(acc s:Str)(i:Nat)(fl:Bool):List AV->AH->Prop
 |mk {h':AH}:Fr h h'->QFm h A acc s i fl [A,.str acc,I i,.str s,.bool fl] h'
theorem R_(h:AH)(A:AV)(L:List Inp)(css:List (LA))(hx:Lst h A css/\wi L css/\∀i∈L,PrB i/\(prT i).length<=1000000):aK prog 10 [A] h (.tup [.str (rl L).1,I (rl L).2]) h:=by
 obtain⟨hA,⟨hl1,hc1⟩,hB⟩:=hx;refine kM (λH=>gP (.str _) (.int _ _)) (C10 (aW [e24,e25,e18]) ?_);have l1:∀h:AH,bh h A=some (I L.length,h):=λh=>by rw[hA.len,hl1]
 by_cases agn:(200:Int)<L.length
 ·have e:rl L=([],2):=by unfold rl;rw[am1 (by omega)]
  rw[e];simp[g10,l1,agn];exact Fr.refl h
 ·have e:rl L=yb [] L:=by unfold rl;rw[amU (by omega)]
  rw[e];simp[g10,l1,agn];refine⟨QF h A L (yb [] L),L.length,.mk 0 [] (by simp) rfl (by simp) (Fr.refl h),?_⟩;generalize yb [] L=R at*;clear e;rintro m vs h' ⟨i,acc,him,hR,hl,fr⟩;cases m with
  |zero=>
   have hlt:¬(i:Int)<L.length:=by omega
   rw[anf (by omega)]at hR;simp[Fz,l1,hlt];simp[Hy,F6];subst hR;exact⟨⟨rfl,rfl⟩,fr⟩
  |succ m=>
   have h1:i<L.length:=by omega
   have hlt:(i:Int)<L.length:=by omega
   have g1:css[i]?=some (css[i]'(by omega)):=by simp
   have q1:=hc1 i L[i] _ (by simp) g1;have hb:=hB _ (anL h1);rw[ang h1]at hR;simp only[yb]at hR;generalize css[i]'(by omega)=c at*;generalize L[i]=x at*;obtain⟨p,hp⟩:=hA.at_ i c g1;have p1:=hp h' fr;have p1a:=p1.1;have p1b:=p1.2;simp[Fz,l1,hlt,p1a,p1b];refine aeG x c ⟨q1,hb.1⟩ ?_;have hsl:=hb.2;have hin:=ZG hsl;have lr:=zk (prT x);generalize prT x=s at*;refine Yj s hsl ?_;generalize(fg s).1=ln at*;generalize rIn s=xi at*;generalize pj s=ok at*;have hll:=lr.len;have hlo:=lr.one;obtain⟨Z,hZ⟩:∃Z:List AV,Z=zIn:=⟨_,rfl⟩;have hZ':Z=[I 0,I 0,I 0,I 0,I 0,I 0,I 0,I 0,I 0,I 0,I 0,I 0,.bool false,.bool false,I 0,.aa,I 0,I 0,I 0,I 0,I 0,.str [],I 0,.aa,.aa,.aa,I 0,I 0,.bool false,I 0,I 0,I 0,I 0,I 0,I 0,.aa,I 0]:=hZ;have hsp:a7 Z 0 ln=some ln:=dG (by rw[hll,hZ];rfl);have hcl:cut ln 0 37=some ln:=by
    have:=aM (α:=ln) (b:=[]) (n:=37) hll;rwa [am5]at this
   unfold PL;rw[<-hZ'];simp[hll,hlo,hsp];have fr2:=(fr.add (.cells Z)).set fr.nx (.cells ln);have hc7:((h'.add (.cells Z)).set h'.nx (.cells ln)).ab h'.nx=some ln:=an _ _ _ _ rfl;generalize(h'.add (.cells Z)).set h'.nx (.cells ln)=h2 at*;generalize h'.nx=k7 at*;clear hll hsp hZ hZ';obtain⟨fl,hfl⟩:∃fl,fl=(!ok || !(dq xi x)):=⟨_,rfl⟩;refine⟨QFm h A acc s i fl,?_,?_⟩
   ·cases ok
    ·simp[Ic];simp[Hh];rw[show fl=true by rw[hfl];rfl];exact .mk (fr2.bump (by omega))
    ·have p2:=hp _ (fr2.bump (k:=h2.nx+11) (by omega));have p2a:=p2.1;have p2b:=p2.2;simp[Ic,hc7,hcl,p2a,p2b];simp[Hh];refine YM xi x ln c ⟨hin.1,q1,hin.2⟩ ?_;refine⟨by simp,?_⟩;have:fl = !(dq xi x):=by rw[hfl];rfl
     rw[this];simp(disch:=first|go_size|fail)[];exact .mk (fr2.bump (by omega))
   ·rintro vs h3 ⟨fr3⟩;cases hf:fl
    ·rw[hf]at hfl;have hfl:=hfl.symm;simp only[anC,aoF]at hfl;rw[am1 hfl]at hR;have k2:=bQ (h:=h3) (a:=s) (b:=[10]) (by simp;omega);have k3:=bQ (h:=h3) (a:=acc) (b:=s++[10]) (by simp;omega);simp(disch:=first|go_size|fail)[F3,k2,k3];refine⟨m,by omega,?_⟩;exact .mk (i+1) (acc++(s++[10])) (show i+1+m=L.length by omega) hR (by simp only[amX,am2];omega) fr3
    ·rw[hf]at hfl;have hn:¬(ok=true/\dq xi x=true):=by
      rintro⟨e1,e2⟩;rw[e1,e2]at hfl;cases hfl
     rw[amU hn]at hR;simp[F3];simp[Hy];subst hR;exact⟨⟨rfl,rfl⟩,fr3⟩
def e10:QE prog:=QE.fn 10 (λ_=>True) (fun(y:AV×List Inp×List (LA))=>match y with|⟨A,L,css⟩=>[A]) (fun(y:AV×List Inp×List (LA)) (h:AH)=>match y with|⟨A,L,css⟩=>Lst h A css/\wi L css/\∀i∈L,PrB i/\(prT i).length<=1000000) (fun(y:AV×List Inp×List (LA))=>match y with|⟨A,L,css⟩=>.tup [.str (rl L).1,I (rl L).2]) (λh y hj hx=>match y,hx with|⟨A,L,css⟩,hx=>R_ h A L css hx)
theorem afY{tl h}(A:AV)(L:List Inp)(css:List (LA)){Q:QT}(hx:Lst h A css/\wi L css/\∀i∈L,PrB i/\(prT i).length<=1000000)(hq:Q (.tup [.str (rl L).1,I (rl L).2]) h):tb (e10::tl) 10 [A] h Q:=aV (A,L,css) trivial hx hq
@[simp ↓] theorem akw:TbT e10 10:=aH e10
def spC:Str:=[32,48,45,34,92,91,93,97,110,116,120,10,255]
def spB(n:Nat):UInt8:=spC.getD n 0
def spV(x:Sr)(t:Str):Str:=
 if t=[]then [120]else
 if nV (nS (nS x t.length) 13) 3=0 then t.take (nV x t.length).toNat++t.drop ((nV x t.length).toNat+1)
 else if nV (nS (nS x t.length) 13) 3=1 then(t.take (nV x t.length).toNat++[spB (nV (nS x t.length) 13).toNat])++t.drop (nV x t.length).toNat
 else(t.take (nV x t.length).toNat++[spB (nV (nS x t.length) 13).toNat])++t.drop ((nV x t.length).toNat+1)
def spS(x:Sr)(t:Str):Sr:=if t=[]then x else nS (nS (nS x t.length) 13) 3
theorem BD{x:Sr}(h:x.Ok)(t:Str):(spS x t).Ok:=by
 unfold spS;split
 ·exact h
 ·exact bn (bn (bn h _) _) _
theorem uT(x:Sr)(t:Str):(spV x t).length<=t.length+1:=by
 unfold spV;split
 ·simp
 split
 ·simp only[amX,anN,am3];omega
 split
 ·simp only[amX,anN,am3,am2];omega
 ·simp only[amX,anN,am3,am2];omega
theorem PG(h:AH)(id:Nat)(x:Sr)(t:Str)(hc:h.ab id=some (srC x))(hid:id<h.nx)(hx:x.Ok/\t.length<=1000000):aK prog 11 [.ptr id 0,.str t] h (.str (spV x t)) (h.set id (.cells (srC (spS x t)))):=by
 refine bm (R:=λv h'=>v =.str (spV x t)/\Ob h h' id (srC (spS x t))) hid (dR _) (C11 (aW [e8]) ?_) λv' h' ⟨h1,h2⟩=>⟨by rw[h1];exact .str _,h2⟩
 obtain⟨hx,ht⟩:=hx;by_cases h0:t=[]
 ·subst h0;simp[g11,spV,spS];exact Ob.start hc
 ·have hV:spV x t=if nV (nS (nS x t.length) 13) 3=0 then t.take (nV x t.length).toNat++t.drop ((nV x t.length).toNat+1)
   else if nV (nS (nS x t.length) 13) 3=1 then(t.take (nV x t.length).toNat++[spB (nV (nS x t.length) 13).toNat])++t.drop (nV x t.length).toNat
   else(t.take (nV x t.length).toNat++[spB (nV (nS x t.length) 13).toNat])++t.drop ((nV x t.length).toNat+1):=by unfold spV;rw[amU h0]
  have hS:spS x t=nS (nS (nS x t.length) 13) 3:=by unfold spS;rw[amU h0]
  rw[hV,hS];have htl:0<t.length:=anI.2 h0;simp[g11,h0];refine gD t.length hc hid ⟨hx,by omega⟩ ?_;have ho:=(Ob.start hc).set (srC (nS x t.length));have hx1:=bn hx t.length;have n1:=eG x t.length;have n2:=eu x (show(1:Int)<=t.length by omega);generalize h.set id (.cells (srC (nS x t.length)))=h1 at*;generalize nV x t.length=kk at*;generalize nS x t.length=x1 at*;obtain⟨k,rfl⟩:=anu n1;have hk:k<t.length:=by omega
  rw[show((k:Nat):Int).toNat=k by omega];refine gD 13 ho.c (ho.lt hid) ⟨hx1,by omega⟩ ?_;have ho:=ho.set (srC (nS x1 13));have hx2:=bn hx1 13;have m1:=eG x1 13;have m2:=eu x1 (show(1:Int)<=13 by omega);generalize h1.set id (.cells (srC (nS x1 13)))=h2 at*;generalize nV x1 13=cc at*;generalize nS x1 13=x2 at*;obtain⟨c,rfl⟩:=anu m1;have agY:c<spC.length:=by show c<13;omega
  rw[show((c:Nat):Int).toNat=c by omega];have hix:dH h2 (.str spC) (I c)=some (.int .u8 (spB c).toNat,h2):=bC (by unfold spB;rw[am0 agY,anh,am0 agY];rfl);have ai7:spC=[32,48,45,34,92,91,93,97,110,116,120,10,255]:=rfl;generalize spB c=b at*;unfold Pd;rw[<-ai7];have haf:bW [.int .u8 0] [(0,1,.int .u8 b.toNat)]=some (aR [b]):=rfl;have hcb:(h2.add (.cells (aR [b]))).ab h2.nx=some (aR [b]):=aj _ _ _ rfl;have hbs:kX (h2.add (.cells (aR [b]))) .b2s [.rsl h2.nx 0 1 1]=some (.str [b],h2.add (.cells (aR [b]))):=Co hcb;simp(disch:=first|go_size|fail)[hix,haf,hbs];have ho:=ho.new hid (h2:=h2.add (.cells (aR [b]))) (by simp) λi hi=>by rw[az,amU (by omega)]
  generalize h2.add (.cells (aR [b]))=h3 at*;refine gD 3 ho.c (ho.lt hid) ⟨hx2,by omega⟩ ?_;have ho:=ho.set (srC (nS x2 3));generalize h3.set id (.cells (srC (nS x2 3)))=h4 at*;generalize nV x2 3=w at*;generalize nS x2 3=x3 at*;have s1:=λh=>Cq (h:=h) (s:=t) (b:=k) (by omega)
  have s2:=λh=>pL (h:=h) (s:=t) (a:=k) (by omega)
  have s3:∀h:AH,gI h (.str t) (some (I ((k:Int)+1))) none=some (.str (t.drop (k+1)),h):=λh=>pL (h:=h) (s:=t) (a:=k+1) (by omega)
  have a1:=λh=>bQ (h:=h) (a:=t.take k) (b:=t.drop (k+1)) (by simp only[anN,am3];omega)
  have a2:=λh=>bQ (h:=h) (a:=t.take k) (b:=[b]) (by simp only[anN,am2];omega)
  have a3:=λh=>bQ (h:=h) (a:=t.take k++[b]) (b:=t.drop k) (by simp only[amX,anN,am3,am2];omega)
  have a4:=λh=>bQ (h:=h) (a:=t.take k++[b]) (b:=t.drop (k+1)) (by simp only[amX,anN,am3,am2];omega)
  generalize t.take k=T1 at*;generalize t.drop k=T2 at*;generalize t.drop (k+1)=T3 at*;by_cases w0:w=0
  ·simp(disch:=first|go_size|fail)[w0,s1];simp(disch:=first|go_size|fail)[Oq,s3,a1];refine ho.bump _ ?_;omega
  ·by_cases w1:w=1
   ·simp[w0,w1];simp[OG,s1,s2,a2,a3];refine ho.bump _ ?_;omega
   ·simp(disch:=first|go_size|fail)[w0,w1];simp(disch:=first|go_size|fail)[R0,s1,s3,a2,a4];simp(disch:=first|go_size|fail)[Qh];refine ho.bump _ ?_;omega
def e11:QE prog:=QE.obj 11 (λ_ _=>True) srC (fun(t:Str)=>[.str t]) (fun(x:Sr)(y:Str)=>match y with|t=>x.Ok/\t.length<=1000000) (fun(x:Sr)(y:Str)=>match y with|t=>.str (spV x t)) (fun(x:Sr)(y:Str)=>match y with|t=>spS x t) (λh id x y hj hc hid hx=>match y,hx with|t,hx=>PG h id x t hc hid hx)
theorem JL{tl h}{id:Nat}{x:Sr}(t:Str){Q:QT}(hc:h.ab id=some (srC x))(hid:id<h.nx)(hx:x.Ok/\t.length<=1000000)(hq:Q (.str (spV x t)) (h.set id (.cells (srC (spS x t))))):tb (e11::tl) 11 (.ptr id 0::[.str t]) h Q:=bF t trivial hc hid hx hq
@[simp ↓] theorem aj2:TbT e11 11:=aH e11
theorem XN{h:AH}{k:Nat}{cs:LA}(hc:h.ab k=some cs)(hl:cs.length=4):bj h 4 (.ptr k 0)=some (.agg cs,h):=by
 have h1:cut cs 0 4=some cs:=by
  have:=aM (α:=cs) (b:=[]) (n:=4) hl;rwa [am5]at this
 simp[hc,h1]
theorem ZZ{z:LA}{cs:LA}(hz:z.length=4)(hl:cs.length=4)(ho:dj cs=true):bW z [(0,4,.agg cs)]=some cs:=by
 obtain⟨a,b,c,d,rfl⟩:∃a b c d,cs=[a,b,c,d]:=by
  match cs,hl with
  |[a,b,c,d],_=>exact⟨a,b,c,d,rfl⟩
 obtain⟨a',b',c',d',rfl⟩:∃a b c d,z=[a,b,c,d]:=by
  match z,hz with
  |[a,b,c,d],_=>exact⟨a,b,c,d,rfl⟩
 simp[dj]at ho;simp[bW,ho,dj,a7,iU]
theorem aed{h:AH}{k:Nat}{cs ds:LA}(hc:h.ab k=some ds)(hd:ds.length=4)(hl:cs.length=4)(ho:dj cs=true):kSt h 4 (.ptr k 0) (.agg cs)=some (.undef,h.set k (.cells cs)):=by
 obtain⟨a,b,c,d,rfl⟩:∃a b c d,cs=[a,b,c,d]:=by
  match cs,hl with
  |[a,b,c,d],_=>exact⟨a,b,c,d,rfl⟩
 obtain⟨a',b',c',d',rfl⟩:∃a b c d,ds=[a,b,c,d]:=by
  match ds,hd with
  |[a,b,c,d],_=>exact⟨a,b,c,d,rfl⟩
 simp[dj]at ho;simp[hc,ho,dj,a7]
theorem S_(h:AH)(n:Int)(_:True):aK prog 168 [I n] h (.bool (decide (-1099511627776<=n)&&decide (n<=1099511627776))) h:=by
 refine aZ (R:=λv h'=>v =.bool (decide (-1099511627776<=n)&&decide (n<=1099511627776))/\h'=h) (ahI (aW []) ?_) λv' h' ⟨h1,h2⟩=>⟨by rw[h1];exact .bool _,by rw[h2];exact amY _,λi _=>by rw[h2]⟩
 by_cases q : -1099511627776<=n
 ·simp[Zq,q]
 ·simp[Zq,q]
def QN:QE prog:=QE.fn 168 (λ_=>True) (fun(n:Int)=>[I n]) (fun(n:Int)(h:AH)=>True) (fun(n:Int)=>.bool (decide (-1099511627776<=n)&&decide (n<=1099511627776))) (λh n hj hx=>S_ h n hx)
theorem aau{tl h}(n:Int){Q:QT}(hx:True)(hq:Q (.bool (decide (-1099511627776<=n)&&decide (n<=1099511627776))) h):tb (QN::tl) 168 [I n] h Q:=aV n trivial hx hq
@[simp ↓] theorem aih:TbT QN 168:=aH QN
def pz:Val->Bool
 |.mk k n s l=>kl k n s l
theorem TH(h:AH)(v:Val)(_:True):aK prog 167 [.agg (vC v)] h (.bool (pz v)) h:=by
 obtain⟨k,n,s,l⟩:=v;refine aZ (R:=λv h'=>v =.bool (pz (.mk k n s l))/\h.nx<=h'.nx/\∀i,i<h.nx->h'.H.get i=h.H.get i) (air (aW []) ?_) λv' h' ⟨h1,h2⟩=>⟨by rw[h1];exact .bool _,h2⟩
 simp only[vC,pz];generalize hL:vCs l=L at*;have hLl:L.length=l.length:=by rw[<-hL,dr]
 have hLz:((L.length:Int)==0)=decide (l=[]):=by rw[hLl];cases l with
  |nil=>rfl
  |cons a b=>simp;omega
 simp[aeH];have ha:(h.add (.cells [I k,I n,.str s,.psl L])).ab h.nx=some [I k,I n,.str s,.psl L]:=aj _ _ _ rfl;have hn:h.nx<=(h.add (.cells [I k,I n,.str s,.psl L])).nx:=by simp
 have hg:∀i,i<h.nx->(h.add (.cells [I k,I n,.str s,.psl L])).H.get i=h.H.get i:=λi hi=>by rw[az,amU (by omega)]
 generalize h.add (.cells [I k,I n,.str s,.psl L])=h1 at*;refine⟨λvs h'=>vs=[.ptr h.nx 0,I k,.bool (decide (k=1\/k=2))]/\h'=h1,?_,?_⟩
 ·by_cases q:k=1
  ·simp[CB,q]
  ·simp[CB,q];by_cases q2:k=2<;>simp[q,q2]
 ·rintro vs h' ⟨rfl,rfl⟩;unfold kl;by_cases c1:k=1\/k=2
  ·rw[am1 c1,anA c1];simp[rK];refine⟨λvs h2=>vs=[.bool (decide (s=[])&&decide (l.length=0))]/\h2=h',?_,?_⟩
   ·by_cases q:s=[]
    ·simp[Cs,ha,q];simp[A5];exact hLz
    ·simp[Cs,ha,q];simp[A5]
   ·rintro vs h2 ⟨rfl,rfl⟩;simp[LZ];exact⟨hn,hg⟩
  ·rw[amU c1,anw c1];by_cases c2:k=3
   ·rw[am1 c2];simp[rK,c2];refine⟨λvs h2=>vs=[.bool (decide (n=0)&&decide (l.length=0))]/\h2=h',?_,?_⟩
    ·by_cases q:n=0
     ·simp[AO,ha,q];simp[BC];exact hLz
     ·simp[AO,ha,q];simp[BC]
    ·rintro vs h2 ⟨rfl,rfl⟩;simp[Ky];exact⟨hn,hg⟩
   ·rw[amU c2];by_cases c3:k=4
    ·rw[am1 c3];simp[rK,c2,c3];refine⟨λvs h2=>vs=[.bool (decide (n=0)&&decide (s=[]))]/\h2=h',?_,?_⟩
     ·have hse:List.isEmpty s=decide (s=[]):=by cases s<;>rfl
      by_cases q:n=0
      ·simp[Bk,ha,q];exact hse
      ·simp[Bk,ha,q]
     ·rintro vs h2 ⟨rfl,rfl⟩;simp[KO];exact⟨hn,hg⟩
    ·rw[amU c3];simp[rK,c2,c3];exact⟨hn,hg⟩
def RB:QE prog:=QE.fn 167 (λ_=>True) (fun(v:Val)=>[.agg (vC v)]) (fun(v:Val)(h:AH)=>True) (fun(v:Val)=>.bool (pz v)) (λh v hj hx=>TH h v hx)
theorem ZC{tl h}(v:Val){Q:QT}(hx:True)(hq:Q (.bool (pz v)) h):tb (RB::tl) 167 [.agg (vC v)] h Q:=aV v trivial hx hq
@[simp ↓] theorem aim:TbT RB 167:=aH RB
theorem aeC(h:AH)(t:Ty)(_:True):aK prog 171 [.agg (tC t)] h (.agg (tC (.l t))) h:=by
 refine aZ (R:=λv h'=>Frz (fresh h' h.nx) false v (.agg (tC (.l t)))/\h.nx<=h'.nx/\∀i,i<h.nx->h'.H.get i=h.H.get i) (ah8 (aW []) ?_) λv' h' h1=>h1
 rw[cp t];simp[aeb];refine⟨agL (IH rfl ?_ (by omega)),by omega,λi hi=>?_⟩
 ·rw[ak _ _ _ _ (by omega),cp];exact aj _ _ _ rfl
 ·rw[au,amU (by omega),az,amU (by simp;omega),az,amU (by simp;omega),az,amU (by omega)]
def G3:QE prog:=QE.fn 171 (λ_=>True) (fun(t:Ty)=>[.agg (tC t)]) (fun(t:Ty)(h:AH)=>True) (fun(t:Ty)=>.agg (tC (.l t))) (λh t hj hx=>aeC h t hx)
theorem Gj{tl h}(t:Ty){Q:QT}(hx:True)(hq:Q (.agg (tC (.l t))) h):tb (G3::tl) 171 [.agg (tC t)] h Q:=aV t trivial hx hq
@[simp ↓] theorem ahp:TbT G3 171:=aH G3
def Vf(t:Ty):Prop:=∀h:AH,aK prog 150 [.agg (tC t)] h (.agg (tC t)) h
def eCp(t:Ty)(hk:Vf t):QE prog:=
 ⟨150,λargs h Q=>args=[.agg (tC t)]/\Q (.agg (tC t)) h,λargs h Q ⟨h1,h2⟩=>by
  subst h1;exact⟨_,_,hk h,h2⟩⟩
theorem afD{t:Ty}{hk:Vf t}{tl h}{Q:QT}(hq:Q (.agg (tC t)) h):tb (eCp t hk::tl) 150 [.agg (tC t)] h Q:=by
 rw[dJ _ tl 150 _ _ _ rfl];exact⟨rfl,hq⟩
@[simp ↓] theorem akE{t:Ty}{hk:Vf t}(l:List (QE prog))(f:Nat)(args:LA)(h:AH)(Q:QT)(hf:150≠f):tb (eCp t hk::l) f args h Q=tb l f args h Q:=aH _ l f args h Q hf
theorem PU:∀t,Vf t
 |.s k=>by
  intro h;refine aZ (R:=λv h'=>Frz (fresh h' h.nx) false v (.agg (tC (.s k)))/\h.nx<=h'.nx/\∀i,i<h.nx->h'.H.get i=h.H.get i) (adF (aW []) ?_) λv' h' h1=>h1
  have q1:¬h.nx=h.nx+1:=by omega
  simp[ZV,tC,q1];simp[Md];refine⟨?_,by omega,λi hi=>?_⟩
  ·exact .aa
  ·rw[au,amU (by omega),az,amU (by simp;omega),az,amU (by omega)]
 |.l t=>by
  intro h;refine aZ (R:=λv h'=>Frz (fresh h' h.nx) false v (.agg (tC (.l t)))/\h.nx<=h'.nx/\∀i,i<h.nx->h'.H.get i=h.H.get i) (adF (aW [eCp t (PU t),G3]) ?_) λv' h' h1=>h1
  have e0:tC (.l t)=[I 4,.psl [tC t]]:=rfl;have hix:∀(h:AH) (t:Ty),aF h 2 (.psl [tC t]) (I 0)=some (.cd (tC t),h):=λh t=>da (i:=0) rfl (qn t)
  have hld:∀(h:AH) (t:Ty),bj h 2 (.cd (tC t))=some (.agg (tC t),h):=λh t=>by rw[cp];rfl
  have q1:¬h.nx=h.nx+1:=by omega
  rw[e0];simp[ZV,q1];simp[Lz];rw[hix];simp[hld];refine afD ?_;refine Gj t trivial ?_;rw[<-e0,cp (.l t)];simp[];refine⟨?_,by omega,λi hi=>?_⟩
  ·exact((bK _ _ _ _).1 (kC (.l t) _)).2 1 _ _ rfl rfl
  ·rw[au,amU (by omega),az,amU (by simp;omega),az,amU (by omega)]
theorem ahL(h:AH)(t:Ty)(_:True):aK prog 150 [.agg (tC t)] h (.agg (tC t)) h:=PU t h
def aeF:QE prog:=QE.fn 150 (λ_=>True) (fun(t:Ty)=>[.agg (tC t)]) (fun(t:Ty)(h:AH)=>True) (fun(t:Ty)=>.agg (tC t)) (λh t hj hx=>ahL h t hx)
theorem abe{tl h}(t:Ty){Q:QT}(hx:True)(hq:Q (.agg (tC t)) h):tb (aeF::tl) 150 [.agg (tC t)] h Q:=aV t trivial hx hq
def qX(a:Ty):Prop:=∀(h:AH) (b:Ty),aK prog 190 [.agg (tC a),.agg (tC b)] h (cN a b) h
def eJP(a:Ty)(hk:qX a):QE prog:=
 ⟨190,λargs h Q=>∃b,args=[.agg (tC a),.agg (tC b)]/\Q (cN a b) h,λargs h Q ⟨b,h1,h2⟩=>by
  subst h1;exact⟨_,_,hk h b,h2⟩⟩
theorem afu{a:Ty}{hk:qX a}{tl h}{b:Ty}{Q:QT}(hq:Q (cN a b) h):tb (eJP a hk::tl) 190 [.agg (tC a),.agg (tC b)] h Q:=by
 rw[dJ _ tl 190 _ _ _ rfl];exact⟨b,rfl,hq⟩
@[simp ↓] theorem ake{t:Ty}{hk:qX t}(l:List (QE prog))(f:Nat)(args:LA)(h:AH)(Q:QT)(hf:190≠f):tb (eJP t hk::l) f args h Q=tb l f args h Q:=aH _ l f args h Q hf
theorem xm{a:Ty}{es:List (QE prog)}(mj:∀t,a =.l t->∃hk,es=[eJP t hk,G3]):qX a:=by
 intro h b;refine aZ (R:=λv h'=>Frz (fresh h' h.nx) false v (cN a b)/\h.nx<=h'.nx/\∀i,i<h.nx->h'.H.get i=h.H.get i) (ahP (aW es) ?_) λv' h' h1=>h1
 have hJ:=J3.start h [I (tyK a),.psl (tyO a)] [I (tyK b),.psl (tyO b)] [I 0,.aa];rw[cp a,cp b];have ne1:¬h.nx=h.nx+1+1:=by omega
 have hn:=hJ.nx;have hg:=hJ.get;have e2:h.nx+1+1=h.nx+2:=rfl;by_cases hk:tyK a=tyK b
 ·simp[Y_,ne1,hk];rw[hk]at hJ hn hg;generalize((h.add (.cells [I (tyK b),.psl (tyO a)])).add (.cells [I (tyK b),.psl (tyO b)])).add (.cells [I 0,.aa])=h1 at*;have ha:=hJ.a;have hb:=hJ.b;have hr:=hJ.r;have hgs:∀(o:dx) (i:Nat),i<h.nx->(h1.set (h.nx+1+1) o).H.get i=h.H.get i:=λo i hi=>by rw[au,amU (by omega)];exact hg i hi
  cases a with
  |s x=>
   have hx:x=tyK b:=hk;have eR:cN (.s x) b =.tup [.agg (tC b),.bool true]:=by
    unfold cN;cases b with
    |s y=>have:x=y:=hx;simp[di,this]
    |l y=>have:x=4:=hx;simp[di,this]
   rw[eR];have o1:tyO (.s x)=[]:=rfl;rw[o1]at ha;simp[qV,ha,hb,hr];refine⟨?_,by omega,hgs _⟩;rw[<-cp];exact kC _ _
  |l x=>
   have hx:4=tyK b:=hk;rw[<-hx]at ha hb;have o0:tyO (.l x)=[tC x]:=rfl;rw[o0]at ha;cases b with
   |s y=>
    have eR:cN (.l x) (.s y) =.tup [.agg (tC (.l x)),.bool true]:=by
     unfold cN;have:y=4:=hx.symm;simp[di,this]
    rw[eR];have o1:tyO (.s y)=[]:=rfl;rw[o1]at hb;simp[qV,ha,hb,hr];simp[zS,ha,hb,hr];refine⟨?_,by omega,hgs _⟩;exact kC (.l x) _
   |l y=>
    have o1:tyO (.l y)=[tC y]:=rfl;rw[o1]at hb;obtain⟨hk2,rfl⟩:=mj x rfl;have hix:∀(h:AH) (t:Ty),aF h 2 (.psl [tC t]) (I 0)=some (.cd (tC t),h):=λh t=>da (i:=0) rfl (qn t)
    have hld:∀(h:AH) (t:Ty),bj h 2 (.cd (tC t))=some (.agg (tC t),h):=λh t=>by rw[cp];rfl
    simp[qV,ha,hb,hr];simp[zS,ha];rw[hix];simp[hb,hld];rw[hix];simp[hld];simp[Mg];refine afu ?_;have ej:di (.l x) (.l y)=(di x y).map .l:=rfl;have q1:¬h.nx+1+1=h1.nx+12:=by omega
    have q2:¬h1.nx+12=h.nx+1+1:=by omega
    have q4:¬h.nx=h1.nx+10:=by omega
    have q5:¬h.nx=h1.nx+13:=by omega
    have q6:¬h.nx=h1.nx+11:=by omega
    have q7:¬h.nx=h1.nx+12:=by omega
    cases hj:di x y with
    |none=>
     rw[hj]at ej;have e1:cN x y =.tup [.agg [I 0,.psl []],.bool false]:=by unfold cN;rw[hj];rfl
     have e2:cN (.l x) (.l y) =.tup [.agg (tC (.s 0)),.bool false]:=by unfold cN;rw[ej];rfl
     rw[e1,e2];simp[];refine⟨by omega,by omega,?_⟩;simp[B9,hr,q1,q2,q4,q5,q6,q7];refine⟨?_,by omega,λi hi=>?_⟩
     ·have h0:=lg (fresh ((((AH.mk h1.H (h1.nx+15)).set (h1.nx+12) (.cells [I 0,.aa])).set (h1.nx+12) (.cells [I 0,.psl []])).set (h.nx+1+1) (.cells [I 0,.aa])) h.nx);rw[bK];cases h0 with
      |agg _ _ hl hc=>exact⟨hl,hc⟩
     ·rw[au,amU (by omega),au,amU (by omega),au,amU (by omega)];exact hg i hi
    |some t=>
     rw[hj]at ej;have e1:cN x y =.tup [.agg [I (tyK t),.psl (tyO t)],.bool true]:=by unfold cN;rw[hj,<-cp];rfl
     have e2:cN (.l x) (.l y) =.tup [.agg (tC (.l t)),.bool true]:=by unfold cN;rw[ej];rfl
     rw[e1,e2];simp[];refine⟨by omega,by omega,?_⟩;simp[Lj];rw[<-cp t];refine Gj t trivial ?_;rw[cp (.l t)];simp[hr,q1,q2,q4,q5,q6,q7];refine⟨?_,by omega,λi hi=>?_⟩
     ·exact((bK _ _ _ _).1 (kC (.l t) _)).2 1 _ _ rfl rfl
     ·rw[au,amU (by omega),au,amU (by omega),au,amU (by omega)];exact hg i hi
 ·have hkb:di a b=none:=by
   cases a with
   |s x=>cases b with
    |s y=>simp[di];exact hk
    |l y=>simp[di];exact hk
   |l x=>cases b with
    |s y=>simp[di];exact λh=>hk h.symm
    |l y=>exact absurd rfl hk
  have eR:cN a b =.tup [.agg (tC (.s 0)),.bool false]:=by unfold cN;rw[hkb];rfl
  rw[eR];simp[Y_,ne1,hk];generalize((h.add (.cells [I (tyK a),.psl (tyO a)])).add (.cells [I (tyK b),.psl (tyO b)])).add (.cells [I 0,.aa])=h1 at*;have ha:=hJ.a;have hb:=hJ.b;have hr:=hJ.r;simp[qV,B9,hr,ha,hk];refine⟨?_,by omega,λi hi=>?_⟩
  ·have h0:=lg (fresh (h1.set (h.nx+1+1) (.cells [I 0,.aa])) h.nx);rw[bK];cases h0 with
   |agg _ _ hl hc=>exact⟨hl,hc⟩
  ·rw[au,amU (by omega)];exact hg i hi
theorem yE:∀a,qX a
 |.s k=>xm (es:=[]) λt h=>by cases h
 |.l t=>xm (es:=[eJP t (yE t),G3]) λt' h=>by cases h;exact⟨_,rfl⟩
theorem W7(h:AH)(a b:Ty)(_:True):aK prog 190 [.agg (tC a),.agg (tC b)] h (cN a b) h:=yE a h b
def afo:QE prog:=QE.fn 190 (λ_=>True) (fun(y:Ty×Ty)=>match y with|⟨a,b⟩=>[.agg (tC a),.agg (tC b)]) (fun(y:Ty×Ty)(h:AH)=>match y with|⟨a,b⟩=>True) (fun(y:Ty×Ty)=>match y with|⟨a,b⟩=>cN a b) (λh y hj hx=>match y,hx with|⟨a,b⟩,hx=>W7 h a b hx)
theorem aav{tl h}(a:Ty)(b:Ty){Q:QT}(hx:True)(hq:Q (cN a b) h):tb (afo::tl) 190 [.agg (tC a),.agg (tC b)] h Q:=aV (a,b) trivial hx hq
def j_(ts:List Ty):LA:=(ts.map tC).flatten
theorem yW:∀ts:List Ty,(j_ ts).length=ts.length*2
 |[]=>rfl
 |t::ts=>by
  have:=yW ts;unfold j_ at this ⊢;simp only[anO,an6,amX,am6,qn,this];omega
theorem sj:∀(ts:List Ty) (i:Nat) (t:Ty),ts[i]?=some t->cut (j_ ts) (i*2) 2=some (tC t)
 |[],i,t,h=>by simp at h
 |u::ts,0,t,h=>by
  simp at h;subst h;unfold j_;simp only[anO,an6,Nat.zero_mul];exact aM (qn u)
 |u::ts,i+1,t,h=>by
  have h1:=sj ts i t (by simpa using h);have h2:=TP (cs:=j_ (u::ts)) (a:=2) (n:=2) (i*2) (by rw[yW];simp;omega);have h3:(j_ (u::ts)).drop 2=j_ ts:=by
   unfold j_;simp only[anO,an6];rw[List.drop_left' (qn u)]
  rw[h3,h1]at h2;rw[show(i+1)*2=2+i*2 by omega];exact h2.symm
def TSl(h:AH)(x:AV)(ts:List Ty):Prop:=(x =.aa/\ts=[])\/∃k,x =.rsl k 0 ts.length 2/\ts≠[]/\k<h.nx/\h.ab k=some (j_ ts)
def I2(ts:List Ty):AV:=.tup [.agg (tC ((jW ts).getD (.s 0))),.bool (jW ts).isSome]
theorem Wt(h:AH)(k n:Nat)(hn:1<=n):kSl h 2 (.rsl k 0 n 2) (some (I 1)) none none=some (.rsl k 2 (n-1) 2,h):=by
 have q2:(1:Int)<=n:=by omega
 simp[kSl,lF,asl,fj,abd,oc,q2]
structure TM(h hb h':AH)(k:Nat)(ts:List Ty)(u:Ty):Prop where
 r:h'.ab h.nx=some [I 0,.aa]
 t:h'.ab (h.nx+1)=some (tC u)
 nx:h.nx+2<=h'.nx
 get:∀i,i<h.nx->h'.H.get i=h.H.get i
theorem TM.new{h hb h' h2:AH}{k:Nat}{ts:List Ty}{u:Ty}(m:TM h hb h' k ts u)(hn:h'.nx<=h2.nx)(hg:∀i,i<h'.nx->h2.H.get i=h'.H.get i):TM h hb h2 k ts u:=
 have n1:=m.nx
 ⟨by rw[ay (hg _ (by omega))];exact m.r,by rw[ay (hg _ (by omega))];exact m.t,by omega,λi hi=>by rw[hg i (by omega)];exact m.get i hi⟩
theorem TM.set{h hb h':AH}{k:Nat}{ts:List Ty}{u:Ty}(m:TM h hb h' k ts u)(v:Ty):TM h hb (h'.set (h.nx+1) (.cells (tC v))) k ts v:=
 ⟨by rw[ak _ _ _ _ (by omega)];exact m.r,an _ _ _ _ rfl,m.nx,λi hi=>by rw[au,amU (by omega)];exact m.get i hi⟩
inductive CIx(h:AH)(k:Nat)(ts:List Ty)(R:Option Ty):Nat->List AV->AH->Prop
 |mk {h':AH} (i:Nat) (u:Ty) (hm:TM h h h' k ts u) (hi:i<=ts.length) (hR:kO (ts.drop i) u=R):CIx h k ts R (ts.length-i) [.ptr h.nx 0,.ptr (h.nx+1) 0,.rsl k 2 ts.length 2,I ts.length,I i] h'
theorem aeM(h:AH)(x:AV)(ts:List Ty)(hx:TSl h x ts/\ts.length<=1000):aK prog 170 [x] h (I2 ts) h:=by
 refine aZ (R:=λv h'=>Frz (fresh h' h.nx) false v (I2 ts)/\h.nx<=h'.nx/\∀i,i<h.nx->h'.H.get i=h.H.get i) (ahB (aW [G3,afo]) ?_) λv' h' h1=>h1
 obtain⟨hx,hlen⟩:=hx;rcases hx with⟨rfl,rfl⟩|⟨k,rfl,hne,hk,hcs⟩
 ·simp[aba];refine⟨?_,λi hi=>by rw[au,amU (by omega),az,amU (by omega)]⟩;exact gP (by
   refine .agg _ _ rfl λi c d hc hd=>?_
   match i with
   |0=>simp[jW,tC]at hc hd;subst hc;subst hd;exact .int _ _
   |1=>simp[jW,tC]at hc hd;subst hc;subst hd;exact .aa
   |i+2=>simp at hc) (.bool _)
 ·cases ts with
  |nil=>exact absurd rfl hne
  |cons t0 ts=>
  have hl0:¬((ts.length:Int)+1=0):=by omega
  have hl1:ts.length<=1000:=by simp at hlen;omega
  have aje:∀h:AH,aF h 2 (.rsl k 0 (ts.length+1) 2) (I 0)=some (.ptr k 0,h):=λh=>dY (by omega) (by omega)
  have YY:=sj (t0::ts) 0 t0 rfl;rw[Nat.zero_mul]at YY;have hsl:∀h:AH,kSl h 2 (.rsl k 0 (ts.length+1) 2) (some (I 1)) none none=some (.rsl k 2 ts.length 2,h):=λh=>Wt h k (ts.length+1) (by omega)
  have hq:¬k=h.nx:=by omega
  simp[aba,hl0];rw[aje];simp[hcs,YY,hq];rw[cp t0];have hq2:¬k=h.nx+1:=by omega
  simp[hsl];have hm0:TM h h (((h.add (.cells [I 0,.aa])).add (.cells [I 0,.aa])).set (h.nx+1) (.cells [I (tyK t0),.psl (tyO t0)])) k ts t0:=by
   refine⟨?_,by rw[cp];exact an _ _ _ _ rfl,by simp,λi hi=>?_⟩
   ·rw[ak _ _ _ _ (by omega),aC _ _ _ (by simp)];exact aj _ _ _ rfl
   ·rw[au,amU (by omega),az,amU (by simp;omega),az,amU (by omega)]
  generalize((h.add (.cells [I 0,.aa])).add (.cells [I 0,.aa])).set (h.nx+1) (.cells [I (tyK t0),.psl (tyO t0)])=h1 at*;simp[Kh];have hfR:I2 (t0::ts) =.tup [.agg (tC (((kO ts t0).map .l).getD (.s 0))),.bool (kO ts t0).isSome]:=by
   unfold I2 jW;simp
  rw[hfR];generalize hR:kO ts t0=R at*;refine⟨CIx h k ts R,ts.length,?_,?_⟩
  ·exact .mk 0 t0 hm0 (by omega) (by simpa using hR)
  ·rintro m vs h' hI;cases hI with
   |mk i u hm hi hRi=>
   have hn:=hm.nx;have ht:=hm.t;have hr:=hm.r;rw[cp u]at ht;by_cases hlt:i<ts.length
   ·have cw:(i:Int)<ts.length:=by omega
    obtain⟨t,htl⟩:∃t,ts[i]?=some t:=⟨ts[i],am0 hlt⟩;have EV:ts.drop i=t::ts.drop (i+1):=by
     obtain⟨hl1,hl2⟩:=amV.1 htl;rw[ang hl1,hl2]
    have fk:=sj (t0::ts) (i+1) t (by simpa using htl);rw[show(i+1)*2=2+i*2 by omega]at fk;have UC:h'.ab k=some (j_ (t0::ts)):=by rw[ay (hm.get k hk)];exact hcs
    have hix:∀h:AH,aF h 2 (.rsl k 2 ts.length 2) (I i)=some (.ptr k (2+i*2),h):=λh=>by
     have:=dY (h:=h) (z:=2) (id:=k) (off:=2) (len:=ts.length) (i:=(i:Int)) (by omega) (by omega);rwa [aou]at this
    simp[zZ,cw];rw[hix];simp[UC,fk];rw[cp t];have q1:¬h.nx+1=h'.nx:=by omega
    simp[ht,q1];rw[<-cp t,<-cp u];refine aav u t trivial ?_;have eR:cN u t =.tup [.agg (tC ((di u t).getD (.s 0))),.bool (di u t).isSome]:=rfl;rw[eR];have hg2:∀i,i<h'.nx->((h'.add (.cells [I 0,.aa])).set h'.nx (.cells (tC t))).H.get i=h'.H.get i:=λi hi=>by
     rw[au,amU (by omega),az,amU (by omega)]
    have hm2:=hm.new (h2:=(h'.add (.cells [I 0,.aa])).set h'.nx (.cells (tC t))) (by simp) hg2;generalize(h'.add (.cells [I 0,.aa])).set h'.nx (.cells (tC t))=h2 at*;have hm3:=hm2.set ((di u t).getD (.s 0));have ht2:=hm2.t;have hr2:=hm2.r;rw[cp u]at ht2;rw[EV]at hRi;have eA:kO (t::ts.drop (i+1)) u=match di u t with|some v=>kO (ts.drop (i+1)) v|none=>none:=rfl
    rw[eA]at hRi;cases hj:di u t with
    |none=>
     rw[hj]at hRi hm3;have hR0:R=none:=hRi.symm;subst hR0;have e0:tC ((none:Option Ty).getD (.s 0))=[I 0,.psl []]:=rfl;rw[e0]at hm3 ⊢;simp[ht2];have q2:¬h.nx=h.nx+1:=by omega
     simp[Cd,ht2,hr2,q2];simp[Cb];have hn2:=hm2.nx;refine⟨agL (lg _),by omega,λi hi=>?_⟩;rw[au,amU (by omega),au,amU (by omega)];exact hm2.get i hi
    |some v=>
     rw[hj]at hRi hm3;have aiV:kO (ts.drop (i+1)) v=R:=hRi;have e0:tC ((some v).getD (.s 0))=tC v:=rfl;rw[e0]at hm3 ⊢;rw[cp v];simp[ht2];simp(disch:=first|go_size|fail)[Cd,ht2];rw[cp v]at hm3;exact⟨ts.length-(i+1),by omega,.mk (i+1) v hm3 (by omega) aiV⟩
   ·have cw:¬(i:Int)<ts.length:=by omega
    have hi2:i=ts.length:=by omega
    rw[hi2,aoM]at hRi;have hR1:R=some u:=hRi.symm;subst hR1;simp(disch:=first|go_size|fail)[zZ,cw];simp[Cb];simp[BO,ht];rw[<-cp u];refine Gj u trivial ?_;rw[cp (.l u)];simp[hr];refine⟨?_,by omega,λi hi=>by rw[au,amU (by omega)];exact hm.get i hi⟩;exact((bK _ _ _ _).1 (kC (.l u) _)).2 1 _ _ rfl rfl
def Pa:QE prog:=QE.fn 170 (λ_=>True) (fun(y:AV×List Ty)=>match y with|⟨x,ts⟩=>[x]) (fun(y:AV×List Ty)(h:AH)=>match y with|⟨x,ts⟩=>TSl h x ts/\ts.length<=1000) (fun(y:AV×List Ty)=>match y with|⟨x,ts⟩=>I2 ts) (λh y hj hx=>match y,hx with|⟨x,ts⟩,hx=>aeM h x ts hx)
theorem abj{tl h}(x:AV)(ts:List Ty){Q:QT}(hx:TSl h x ts/\ts.length<=1000)(hq:Q (I2 ts) h):tb (Pa::tl) 170 [x] h Q:=aV (x,ts) trivial hx hq
@[simp ↓] theorem aie:TbT Pa 170:=aH Pa
open Go.RowKit
theorem sU{own:Nat->Prop}{β:Bl}{h:AH}{w:World}(hs:bV own β h.H h.nx w){g:Nat}{cs:LA}(hg:h.H.get g=some (.iq g cs)){i:Nat}{k:IntKind}{z:Int}(hi:cs[i]?=some (.int k z)):w.cell? ⟨g,i,none⟩=some (.int k z):=by
 obtain⟨cur,e,fz,h1,h2,h3⟩:=hs.Ux hg;have hlt:i<cur.size:=by rw[<-h2];exact(amV.1 hi).1
 have:=h3 i _ cur[i] hi (by simp[hlt]);generalize hx:cur[i]=x at this;cases this;rw[Lib.cell_of_heap h1];simp[hlt,hx]
theorem Ei{own:Nat->Prop}{β:Bl}{h:AH}{w:World}(hs:bV own β h.H h.nx w)(hg:GJ h):Lib.Utf8Tabs 1 2 w:=by
 refine⟨λc hc=>?_,λi hi=>?_⟩
 ·exact sU hs hg.at1 (by rw[anb,zt c hc];rfl)
 ·obtain⟨h1,h2⟩:=JD i hi;exact⟨sU hs hg.at2 (by rw[anb,h1];rfl),sU hs hg.at2 (by rw[anb,h2];rfl)⟩
theorem aap(h:AH)(s:Str)(hg:GJ h)(hw:s.length<=1000000):aK prog 169 [.str s] h (.bool (Lib.validD s)) h:=by
 refine aK.lib Zf λown β wd cS hs hR=>?_
 obtain⟨u,rfl,hu⟩:=uv hR;cases hu;have hsz:(⟨s.toArray⟩:ByteArray).size=s.length:=by simp[ByteArray.size]
 refine(pS ⟨s.toArray⟩ wd (by rw[hsz];omega) (Ei hs hg)).mono ?_;rintro e w' ⟨rfl,hb⟩;exact⟨_,rfl,.bool _,hb⟩
def OJ:QE prog:=QE.fn 169 GJ (fun(s:Str)=>[.str s]) (fun(s:Str)(h:AH)=>s.length<=1000000) (fun(s:Str)=>.bool (Lib.validD s)) (λh s hj hx=>aap h s hj hx)
theorem aaW{tl h}(s:Str){Q:QT}(hj:GJ h)(hx:s.length<=1000000)(hq:Q (.bool (Lib.validD s)) h):tb (OJ::tl) 169 [.str s] h Q:=aV s hj hx hq
@[simp ↓] theorem aiw:TbT OJ 169:=aH OJ
def pck(d:Int)(v:Val)(m:Int):Int×Ty×Int:=Go.St.chk d v m
def yf(d:Int)(l:List Val)(m:Int)(ts:List Ty):Int×List Ty×Int:=Go.St.nR d l m ts
def ckP(d:Int)(v:Val)(m:Int):AV:=.tup [.agg (tC (pck d v m).2.1),I (pck d v m).1]
def Dx(d:Int):Prop:=∀(h:AH) (v:Val) (m:Int) (id:Nat),GJ h->8<=id->id<h.nx->h.ab id=some [I m]->(0<=m/\m<=1000)->aK prog 149 [.agg (vC v),I d,.ptr id 0] h (ckP d v m) (h.set id (.cells [I (pck d v m).2.2]))
def eKP(d:Int)(hk:Dx d):QE prog:=
 ⟨149,λargs h Q=>∃v m id,args=[.agg (vC v),I d,.ptr id 0]/\(GJ h/\8<=id/\id<h.nx/\h.ab id=some [I m])/\(0<=m/\m<=1000)/\Q (ckP d v m) (h.set id (.cells [I (pck d v m).2.2])),λargs h Q ⟨v,m,id,h1,⟨a,b,c,e⟩,h2,h3⟩=>by
  subst h1;exact⟨_,_,hk h v m id a b c e h2,h3⟩⟩
theorem XV{d:Int}{hk:Dx d}{tl h}{v:Val}{m:Int}{id:Nat}{Q:QT}(hj:GJ h/\8<=id/\id<h.nx/\h.ab id=some [I m])(hm:0<=m/\m<=1000)(hq:Q (ckP d v m) (h.set id (.cells [I (pck d v m).2.2]))):tb (eKP d hk::tl) 149 [.agg (vC v),I d,.ptr id 0] h Q:=by
 rw[dJ _ tl 149 _ _ _ rfl];exact⟨v,m,id,rfl,hj,hm,hq⟩
@[simp ↓] theorem aj9{d:Int}{hk:Dx d}(l:List (QE prog))(f:Nat)(args:LA)(h:AH)(Q:QT)(hf:149≠f):tb (eKP d hk::l) f args h Q=tb l f args h Q:=aH _ l f args h Q hf
structure K3(h h':AH)(id:Nat)(a:LA)(m:Int):Prop where
 a:h'.ab h.nx=some a
 r:h'.ab (h.nx+1)=some [I 0,.aa]
 ob:Ob h h' id [I m]
 nx:h.nx+2<=h'.nx
 gj:GJ h'
theorem K3.new{h h' h2:AH}{id:Nat}{a:LA}{m:Int}(k:K3 h h' id a m)(hid:id<h.nx)(h8:8<=h.nx)(hn:h'.nx<=h2.nx)(hg:∀i,i<h'.nx->h2.H.get i=h'.H.get i):K3 h h2 id a m:=
 have n1:=k.nx
 ⟨by rw[ay (hg _ (by omega))];exact k.a,by rw[ay (hg _ (by omega))];exact k.r,k.ob.new hid hn hg,by omega,
  k.gj.me (λi hi=>hg i (by omega)) (by omega)⟩
theorem K3.low{h h' h2:AH}{id:Nat}{a:LA}{m:Int}(k:K3 h h' id a m)(hid:id<h.nx)(h8:8<=h.nx){b:Nat}(hb:h.nx+2<=b)(hn:h'.nx<=h2.nx)(hg:∀i,i<b->h2.H.get i=h'.H.get i):K3 h h2 id a m:=
 have n1:=k.nx
 ⟨by rw[ay (hg _ (by omega))];exact k.a,by rw[ay (hg _ (by omega))];exact k.r,
  ⟨by rw[ay (hg _ (by omega))];exact k.ob.c,ane k.ob.nx hn,λi h1 h2=>by rw[hg i (by omega)];exact k.ob.get i h1 h2⟩,by omega,
  k.gj.me (λi hi=>hg i (by omega)) (by omega)⟩
theorem K3.cnt{h h':AH}{id:Nat}{a:LA}{m:Int}(k:K3 h h' id a m)(hid:id<h.nx)(h8:8<=id)(n:Int):K3 h (h'.set id (.cells [I n])) id a n:=
 ⟨by rw[ak _ _ _ _ (by omega)];exact k.a,by rw[ak _ _ _ _ (by omega)];exact k.r,k.ob.set _,k.nx,k.gj.set h8⟩
def PQ(h:AH)(id:Nat)(r:Int×Ty×Int):QT:=λv h'=>Frz (fresh h' h.nx) false v (.tup [.agg (tC r.2.1),I r.1])/\Ob h h' id [I r.2.2]
theorem _root_.Go.Eng.Ob.Uv{h h1:AH}{id:Nat}{cs:LA}(o:Ob h h1 id cs)(hid:id<h.nx){j:Nat}(hj:h.nx<=j)(ob:dx):Ob h (h1.set j ob) id cs:=
 ⟨by rw[ak _ _ _ _ (by omega)];exact o.c,o.nx,λi h1 h2=>by rw[au,amU (by omega)];exact o.get i h1 h2⟩
theorem K3.fail{h h':AH}{id:Nat}{a:LA}{m:Int}(k:K3 h h' id a m)(hid:id<h.nx)(e:Int):PQ h id (e,.s 0,m) (.tup [.agg [I 0,.aa],I e]) (h'.set (h.nx+1) (.cells [I 0,.aa])):=
 ⟨gP (lg _) (.int _ _),k.ob.Uv hid (by omega) _⟩
theorem Vw(d:Int)(v:Val)(m:Int)(h:(pck d v m).1=0):m<=(pck d v m).2.2/\(pck d v m).2.2<=1000:=by
 rcases u7 v d m with⟨h1,h2,h3⟩|⟨h1,_⟩
 ·have:=wL (d+1) v m h2;unfold pck;rw[h3];exact this
 ·exact absurd h h1
def pF(R:Int×List Ty×Int):Int×Ty×Int:=if R.1≠0 then(R.1,.s 0,R.2.2)else match jW R.2.1 with
 |none=>(5,.s 0,R.2.2)
 |some t=>(0,t,R.2.2)
theorem Z6(d k n:Int)(s:Str)(l:List Val)(m:Int):pck d (.mk k n s l) m=if k=4/\16<=d then(8,.s 0,m)
  else if kl k n s l=false then(9,.s 0,m+1)
  else if lY k n=true then(1,.s 0,m+1)
  else if 2000<s.length\/100<l.length\/1000<m+1 then(2,.s 0,m+1)
  else if Lib.validD s=false then(3,.s 0,m+1)
  else if k≠4 then(0,.s k,m+1)else pF (yf (d+1) l (m+1) []):=by
 unfold pck yf pF;rw[Go.St.chk];rfl
inductive KIx(h hb:AH)(id:Nat)(a:List AV)(d:Int)(l:List Val)(L:List (List AV))(R:Int×List Ty×Int):Nat->List AV->AH->Prop
 |mk {h':AH} (i:Nat) (m:Int) (lv:AV) (ts:List Ty) (hk:K3 h h' id a m) (hnb:hb.nx<=h'.nx) (ol:OL 2 hb h' lv ts.length (j_ ts)) (hi:i<=l.length) (hm:0<=m/\m<=1000) (hR:yf (d+1) (l.drop i) m ts=R) (ht:ts.length<=i):
  KIx h hb id a d l L R (l.length-i) [I d,.ptr id 0,.ptr (h.nx+1) 0,lv,.psl L,I L.length,I i] h'
theorem M7{d n:Int}{s:Str}{l:List Val}{L:List (LA)}{m:Int}{h h4:AH}{id:Nat}{es:List (QE prog)}(hid:id<h.nx)(h8:8<=id)(hL:vCs l=L)(hd:0<=d/\d<=15)(hm:0<=m/\m<=1000)
  (mj:∃hk,es=[eKP (d+1) hk]) (hK:K3 h h4 id [I 4,I n,.str s,.psl L] m) (hll:l.length<=100):
  Bz (tb (QN::RB::OJ::Pa::es)) (I d) (.ptr id 0) (.ptr (h.nx+1) 0) .aa (.ptr h.nx 3) h4 (PQ h id (pF (yf (d+1) l m []))):=by
 have hLl:L.length=l.length:=by rw[<-hL,dr]
 obtain⟨hk2,rfl⟩:=mj;have hn4:=hK.nx;have ha4:=hK.a;simp[Bz,ha4];generalize hR:yf (d+1) l m []=R at*;refine⟨KIx h h4 id [I 4,I n,.str s,.psl L] d l L R,l.length,?_,?_⟩
 ·exact .mk 0 m .aa [] hK (amY _) (OL.start _ _ _) (by omega) hm (by simpa using hR) (by simp)
 ·rintro N vs h' hI;cases hI with
  |mk i m lv ts hk hnb ol hi hm hRi ht=>
  have hn:=hk.nx;by_cases hlt:i<l.length
  ·have cw:(i:Int)<L.length:=by omega
   obtain⟨v,hv⟩:∃v,l[i]?=some v:=⟨l[i],am0 hlt⟩;have hLv:L[i]?=some (vC v):=by rw[<-hL,ql,anb,hv];rfl
   have hix:∀h:AH,aF h 4 (.psl L) (I i)=some (.cd (vC v),h):=λh=>da (i:=i) hLv (cH v)
   have tU:cut (vC v) 0 4=some (vC v):=by
    have:=aM (α:=vC v) (b:=[]) (n:=4) (cH v);rwa [am5]at this
   have iC:=iH v;have hlv:=cH v;have EV:l.drop i=v::l.drop (i+1):=by
    obtain⟨hl1,hl2⟩:=amV.1 hv;rw[ang hl1,hl2]
   rw[EV]at hRi;have eS:yf (d+1) (v::l.drop (i+1)) m ts=if(pck (d+1) v m).1≠0 then((pck (d+1) v m).1,ts,(pck (d+1) v m).2.2)else yf (d+1) (l.drop (i+1)) (pck (d+1) v m).2.2 (ts++[(pck (d+1) v m).2.1]):=by
    unfold yf pck;rw[Go.St.nR]
   rw[eS]at hRi;have hcn:=Vw (d+1) v m;have hst:kSt (h'.add (.cells [I 0,I 0,.str [],.aa])) 4 (.ptr h'.nx 0) (.agg (vC v))=some (.undef,(h'.add (.cells z4)).set h'.nx (.cells (vC v))):=aed (ds:=z4) (aj _ _ _ rfl) rfl hlv iC;simp(disch:=first|go_size|fail)[Cu,cw];rw[hix];simp(disch:=first|go_size|fail)[tU,iC,hlv];have hg5:∀i,i<h'.nx->((h'.add (.cells [I 0,I 0,.str [],.aa])).set h'.nx (.cells (vC v))).H.get i=h'.H.get i:=λi hi=>by rw[au,amU (by omega),az,amU (by omega)]
   have hk5:=hk.new (h2:=(h'.add (.cells [I 0,I 0,.str [],.aa])).set h'.nx (.cells (vC v))) hid (by omega) (by simp) hg5;have ol5:OL 2 h4 ((h'.add (.cells [I 0,I 0,.str [],.aa])).set h'.nx (.cells (vC v))) lv ts.length (j_ ts):=ol.du (by simp) λi _ hi=>hg5 i hi
   have ajM:((h'.add (.cells [I 0,I 0,.str [],.aa])).set h'.nx (.cells (vC v))).nx=h'.nx+1:=by simp
   generalize(h'.add (.cells [I 0,I 0,.str [],.aa])).set h'.nx (.cells (vC v))=h5 at*;refine XV ⟨hk5.gj,h8,by omega,hk5.ob.c⟩ hm ?_;have hck:ckP (d+1) v m =.tup [.agg (tC (pck (d+1) v m).2.1),I (pck (d+1) v m).1]:=rfl;rw[hck];generalize pck (d+1) v m=r at*;obtain⟨e,t,c⟩:=r;simp only at hRi hcn ⊢;have hk6:=hk5.cnt hid h8 c;have ol6:OL 2 h4 (h5.set id (.cells [I c])) lv ts.length (j_ ts):=ol5.set (by omega) _;have alP:(h5.set id (.cells [I c])).nx=h'.nx+1:=by simpa using ajM
   generalize h5.set id (.cells [I c])=h6 at*;rw[cp t];have q1:¬h.nx+1=h6.nx:=by omega
   have hr6:=hk6.r;have hg7:∀i,i<h6.nx->((h6.add (.cells [I 0,.aa])).set h6.nx (.cells [I (tyK t),.psl (tyO t)])).H.get i=h6.H.get i:=λi hi=>by rw[au,amU (by omega),az,amU (by omega)]
   have hk7:=hk6.new (h2:=(h6.add (.cells [I 0,.aa])).set h6.nx (.cells [I (tyK t),.psl (tyO t)])) hid (by omega) (by simp) hg7;have ol7:OL 2 h4 ((h6.add (.cells [I 0,.aa])).set h6.nx (.cells [I (tyK t),.psl (tyO t)])) lv ts.length (j_ ts):=ol6.du (by simp) λi _ hi=>hg7 i hi
   have ai9:((h6.add (.cells [I 0,.aa])).set h6.nx (.cells [I (tyK t),.psl (tyO t)])).nx=h6.nx+1:=by simp
   by_cases he:e=0
   ·simp(disch:=first|go_size|fail)[Ba,he];rw[amU (by simp[he])]at hRi;have hc2:=hcn he;obtain⟨lv',h8',hk8,ol8,hn8,hg8⟩:=mI (bytes:=32) (tc:=[I (tyK t),.psl (tyO t)]) ol7 (by omega) rfl rfl (by omega) (by omega);rw[ai9]at hk8;rw[hk8];simp(disch:=first|go_size|fail)[J1];refine⟨l.length-(i+1),by omega,?_⟩;have e1:j_ (ts++[t])=j_ ts++[I (tyK t),.psl (tyO t)]:=by unfold j_;rw[<-cp t];simp
    refine .mk (i+1) c lv' (ts++[t]) (hk7.low hid (by omega) hn4 (by omega) hg8) (by omega) ?_ (by omega) (by omega) hRi (by rw[amX,am2];omega);rw[e1,amX,am2];exact ol8
   ·simp(disch:=first|go_size|fail)[Ba,he,q1,hr6];rw[am1 he]at hRi;subst hRi;have hF:pF (e,ts,c)=(e,.s 0,c):=by unfold pF;rw[am1 he]
    rw[hF];simp[zP];exact hk7.fail hid e
  ·have cw:¬(i:Int)<L.length:=by omega
   have hi2:i=l.length:=by omega
   rw[hi2,aoM]at hRi;have eN:yf (d+1) [] m ts=(0,ts,m):=by unfold yf;rw[Go.St.nR]
   rw[eN]at hRi;subst hRi;simp[Cu,cw];simp[zP];simp[zN];have hT:TSl h' lv ts:=by
    rcases ol with⟨rfl,h2,h3⟩|⟨k,rfl,hn0,hk0,hk1,hcs,hlen⟩
    ·exact .inl ⟨rfl,am8 h2⟩
    ·exact .inr ⟨k,rfl,λe=>by rw[e]at hn0;simp at hn0,hk1,hcs⟩
   refine abj lv ts ⟨hT,by omega⟩ ?_;have hr:=hk.r;have q1:¬h.nx+1=h'.nx:=by omega
   unfold I2 pF;simp only[ne_eq,aot,ans];cases hc:jW ts with
   |none=>
    have e0:tC ((none:Option Ty).getD (.s 0))=[I 0,.psl []]:=rfl;rw[e0];simp[Af,hr,q1];have hk2:=hk.new (h2:=(h'.add (.cells [I 0,.aa])).set h'.nx (.cells [I 0,.psl []])) hid (by omega) (by simp) λi hi=>by rw[au,amU (by omega),az,amU (by omega)]
    exact hk2.fail hid 5
   |some t=>
    have e0:tC ((some t).getD (.s 0))=tC t:=rfl;rw[e0,cp t];simp[Af,hr,q1];have hk2:=hk.new (h2:=(h'.add (.cells [I 0,.aa])).set h'.nx (.cells [I (tyK t),.psl (tyO t)])) hid (by omega) (by simp) λi hi=>by rw[au,amU (by omega),az,amU (by omega)]
    exact⟨gP (by rw[<-cp];exact LH _ _) (.int _ _),hk2.ob.Uv hid (by omega) _⟩
def bw(k n:Int):Bool:=decide (k=1) && !(decide (-1099511627776<=n)&&decide (n<=1099511627776))
theorem Ry(k n:Int):lY k n=(bw k n||(decide (k=2)&&decide (n≠0)&&decide (n≠1))):=rfl
theorem yu{d:Int}{es:List (QE prog)}(hd:0<=d/\d<=16)(mj:d<=15->∃hk,es=[eKP (d+1) hk]):Dx d:=by
 rintro h ⟨k,n,s,l⟩ m id hg h8 hid hc hm;refine bm (R:=PQ h id (pck d (.mk k n s l) m)) hid (λH=>⟨.int _ _,trivial⟩) (ahQ (aW (QN::RB::OJ::Pa::es)) ?_) λv' h' h1=>h1
 rw[Z6];simp only[vC];generalize hL:vCs l=L at*;have hLl:L.length=l.length:=by rw[<-hL,dr]
 have hK:K3 h ((h.add (.cells [I k,I n,.str s,.psl L])).add (.cells [I 0,.aa])) id [I k,I n,.str s,.psl L] m:=by
  refine⟨?_,aj _ _ _ rfl,?_,by simp,(hg.add _).add _⟩
  ·rw[aC _ _ _ (by simp)];exact aj _ _ _ rfl
  ·refine⟨?_,by simp;omega,λi h1 h2=>by rw[az,amU (by simp;omega),az,amU (by omega)]⟩;rw[aC _ _ _ (by simp;omega),aC _ _ _ (by omega)];exact hc
 simp[aeT];generalize((h.add (.cells [I k,I n,.str s,.psl L])).add (.cells [I 0,.aa]))=h1 at*;have ha:=hK.a;have hr:=hK.r;have hcc:=hK.ob.c;refine⟨λvs h'=>vs=[I d,.ptr id 0,.ptr h.nx 0,.ptr (h.nx+1) 0,.bool (decide (k=4)&&decide (16<=d))]/\h'=h1,?_,?_⟩
 ·by_cases q:k=4
  ·simp[Ct,ha,q]
  ·simp[Ct,ha,q]
 ·rintro vs h' ⟨rfl,rfl⟩;by_cases c1:k=4/\16<=d
  ·rw[am1 c1];simp[u6,c1,hr];exact hK.fail hid 8
  ·rw[amU c1];have e1:(decide (k=4)&&decide (16<=d))=false:=by simp only[an_,ano];omega
   rw[e1];have hK2:=hK.cnt hid h8 (m+1);have ha2:=hK2.a;have hq:¬h.nx=id:=by omega
   simp(disch:=first|go_size|fail)[u6,hcc,ha,hq];generalize h'.set id (.cells [I (m+1)])=h2 at*;have hv:AV.agg [I k,I n,.str s,.psl L] =.agg (vC (.mk k n s l)):=by rw[vC,hL]
   rw[hv];refine ZC (.mk k n s l) trivial ?_;have ha:=hK2.a;have hr:=hK2.r;have hcc:=hK2.ob.c;have eF:pz (.mk k n s l)=kl k n s l:=rfl;rw[eF];cases c2:kl k n s l
   ·simp(disch:=first|go_size|fail)[Ca,hr];exact hK2.fail hid 9
   ·simp only[aon,ans];simp(disch:=first|go_size|fail)[Ca];refine⟨λvs h3=>vs=[I d,.ptr id 0,.ptr h.nx 0,.ptr (h.nx+1) 0,.bool (bw k n)]/\h3=h2,?_,?_⟩
    ·unfold bw;by_cases q:k=1
     ·simp(disch:=first|go_size|fail)[Ab,ha,q];refine aau n trivial ?_;simp[];simp[Aw]
     ·simp[Ab,ha,q];simp[Aw]
    ·rintro vs h3 ⟨rfl,rfl⟩;simp[D7];refine⟨λvs h4=>vs=[I d,.ptr id 0,.ptr h.nx 0,.ptr (h.nx+1) 0,.bool (lY k n)]/\h4=h3,?_,?_⟩
     ·rw[Ry];cases q:bw k n
      ·simp[Aa,ha];by_cases q2:k=2
       ·by_cases q3:n=0
        ·simp[q2,q3];simp[uQ]
        ·simp[q2,q3];simp[uQ,ha];by_cases q4:n=1<;>simp[q4]
       ·simp[q2];simp[uQ]
      ·simp[Aa]
     ·rintro vs h4 ⟨rfl,rfl⟩;cases c3:lY k n
      ·simp only[am7,ans];simp[B7];refine⟨λvs h5=>vs=[I d,.ptr id 0,.ptr h.nx 0,.ptr (h.nx+1) 0,.bool (decide (2000<s.length\/100<l.length\/1000<m+1))]/\h5=h4,?_,?_⟩
       ·by_cases a1:2000<s.length
        ·have a1':(2000:Int)<s.length:=by omega
         simp[uw,ha,a1',a1];simp[uy]
        ·have a1':¬(2000:Int)<s.length:=by omega
         by_cases a2:100<l.length
         ·have a2':(100:Int)<L.length:=by omega
          simp[uw,ha,a1',a1,a2',a2];simp[uy]
         ·have a2':¬(100:Int)<L.length:=by omega
          simp[uw,ha,a1',a1,a2',a2];simp[uy,hcc]
       ·rintro vs h5 ⟨rfl,rfl⟩;by_cases c4:2000<s.length\/100<l.length\/1000<m+1
        ·rw[am1 c4,anA c4];simp[AK,hr];exact hK2.fail hid 2
        ·rw[amU c4,anw c4];simp[AK,ha];refine aaW s hK2.gj (by omega) ?_;cases c5:Lib.validD s
         ·simp[hr];exact hK2.fail hid 3
         ·simp only[aon,ans];by_cases c6:k=4
          ·subst c6;simp[ha];exact M7 hid h8 hL (by omega) (by omega) (mj (by omega)) hK2 (by omega)
          ·simp[ha,c6];simp[LP,ha,hr];refine⟨gP ?_ (.int _ _),hK2.ob.Uv hid (by omega) _⟩;refine .agg _ _ rfl λi c d hc hd=>?_
           match i with
           |0=>simp[tC]at hc hd;subst hc;subst hd;exact .int _ _
           |1=>simp[tC]at hc hd;subst hc;subst hd;exact .aa
           |i+2=>simp at hc
      ·simp only[anH];simp[B7,hr];exact hK2.fail hid 1
theorem Db:∀(k:Nat) (d:Int),d+k=16->0<=d->Dx d
 |0,d,h1,h0=>yu (es:=[]) ⟨h0,by omega⟩ λh=>by omega
 |k+1,d,h1,h0=>yu (es:=[eKP (d+1) (Db k (d+1) (by omega) (by omega))]) ⟨h0,by omega⟩ λh=>⟨_,rfl⟩
theorem abo(h:AH)(v:Val)(hg:GJ h)(_:True):aK prog 128 [.agg (vC v)] h (.tup [.agg (tC (if mT v=0 then(pck 0 v 0).2.1 else .s 0)),I (mT v)]) h:=by
 refine aZ (R:=λv' h'=>Frz (fresh h' h.nx) false v' (.tup [.agg (tC (if mT v=0 then(pck 0 v 0).2.1 else .s 0)),I (mT v)])/\h.nx<=h'.nx/\∀i,i<h.nx->h'.H.get i=h.H.get i) (ahO (aW [eKP 0 (Db 16 0 (by omega) (by omega)),aeF]) ?_) λv' h' h1=>h1
 have hl:(vC v).length=4:=cH v;have ho:=iH v;have h8:=hg.2;have fk:cut (vC v) 0 4=some (vC v):=by
  have:=aM (α:=vC v) (b:=[]) (n:=4) hl;rwa [am5]at this
 have q0:¬h.nx=h.nx+1+1:=by omega
 simp[aes,ho,hl,fk,q0];have eE:mT v=(pck 0 v 0).1:=rfl;rw[eE];have hg1:GJ ((((h.add (.cells (vC v))).add (.cells [I 0,.aa])).add (.cells [I 0])).set (h.nx+1+1) (.cells [I 0])):=(((hg.add _).add _).add _).set (by omega);have hc1:((((h.add (.cells (vC v))).add (.cells [I 0,.aa])).add (.cells [I 0])).set (h.nx+1+1) (.cells [I 0])).ab (h.nx+1+1)=some [I 0]:=an _ _ _ _ rfl;have hr1:((((h.add (.cells (vC v))).add (.cells [I 0,.aa])).add (.cells [I 0])).set (h.nx+1+1) (.cells [I 0])).ab (h.nx+1)=some [I 0,.aa]:=by
  rw[ak _ _ _ _ (by omega),aC _ _ _ (by simp)];exact aj _ _ _ rfl
 have hn1:((((h.add (.cells (vC v))).add (.cells [I 0,.aa])).add (.cells [I 0])).set (h.nx+1+1) (.cells [I 0])).nx=h.nx+3:=by simp
 have Xu:∀i,i<h.nx->((((h.add (.cells (vC v))).add (.cells [I 0,.aa])).add (.cells [I 0])).set (h.nx+1+1) (.cells [I 0])).H.get i=h.H.get i:=λi hi=>by
  rw[au,amU (by omega),az,amU (by simp;omega),az,amU (by simp;omega),az,amU (by omega)]
 generalize(((h.add (.cells (vC v))).add (.cells [I 0,.aa])).add (.cells [I 0])).set (h.nx+1+1) (.cells [I 0])=h1 at*;refine XV ⟨hg1,by omega,by omega,hc1⟩ (by omega) ?_;have hck:ckP 0 v 0 =.tup [.agg (tC (pck 0 v 0).2.1),I (pck 0 v 0).1]:=rfl;rw[hck];generalize pck 0 v 0=r at*;obtain⟨e,t,c⟩:=r;simp only;have hr2:(h1.set (h.nx+1+1) (.cells [I c])).ab (h.nx+1)=some [I 0,.aa]:=by rw[ak _ _ _ _ (by omega)];exact hr1
 have hn2:(h1.set (h.nx+1+1) (.cells [I c])).nx=h.nx+3:=by simpa using hn1
 have UL:∀i,i<h.nx->(h1.set (h.nx+1+1) (.cells [I c])).H.get i=h.H.get i:=λi hi=>by rw[au,amU (by omega)];exact Xu i hi
 generalize h1.set (h.nx+1+1) (.cells [I c])=h2 at*;have q1:¬h.nx+1=h2.nx:=by omega
 rw[cp t];by_cases he:e=0
 ·simp[Aq,he,q1];rw[<-cp t];refine abe t trivial ?_;rw[cp t];simp[KV,hr2,q1];refine⟨?_,by omega,λi hi=>by rw[au,amU (by omega),au,amU (by omega),az,amU (by omega)];exact UL i hi⟩;first|exact((bK _ _ _ _).1 (kC t _)).2 1 _ _ (by rw[cp];rfl) (by rw[cp];rfl)|(rw[<-cp];exact kC _ _)
 ·simp[Aq,he,hr2,q1];refine⟨agL (lg _),by omega,λi hi=>by rw[au,amU (by omega),au,amU (by omega),az,amU (by omega)];exact UL i hi⟩
def adS:QE prog:=QE.fn 128 GJ (fun(v:Val)=>[.agg (vC v)]) (fun(v:Val)(h:AH)=>True) (fun(v:Val)=>.tup [.agg (tC (if mT v=0 then(pck 0 v 0).2.1 else .s 0)),I (mT v)]) (λh v hj hx=>abo h v hj hx)
theorem Zm{tl h}(v:Val){Q:QT}(hj:GJ h)(hx:True)(hq:Q (.tup [.agg (tC (if mT v=0 then(pck 0 v 0).2.1 else .s 0)),I (mT v)]) h):tb (adS::tl) 128 [.agg (vC v)] h Q:=aV v hj hx hq
theorem WC(h:AH)(v:Val)(hg:GJ h)(_:True):aK prog 97 [.agg (vC v)] h (I (mT v)) h:=by
 refine aZ (R:=λv' h'=>v'=I (mT v)/\h.nx<=h'.nx/\∀i,i<h.nx->h'.H.get i=h.H.get i) (C97 (aW [adS]) ?_) λv' h' ⟨h1,h2,h3⟩=>⟨by rw[h1];exact .int _ _,h2,h3⟩
 have hl:(vC v).length=4:=cH v;have ho:=iH v;have fk:cut (vC v) 0 4=some (vC v):=by
  have:=aM (α:=vC v) (b:=[]) (n:=4) hl;rwa [am5]at this
 simp[g97,ho,hl,fk];refine Zm v (hg.add _) trivial ?_;rw[cp];have hgt:∀i,i<h.nx->(h.add (.cells (vC v))).H.get i=h.H.get i:=λi hi=>by rw[az,amU (by omega)]
 have hn:h.nx<=(h.add (.cells (vC v))).nx:=by simp
 generalize h.add (.cells (vC v))=h1 at*;simp[R5];refine⟨by omega,λi hi=>?_⟩;rw[au,amU (by omega),az,amU (by omega)];exact hgt i hi
def e97:QE prog:=QE.fn 97 GJ (fun(v:Val)=>[.agg (vC v)]) (fun(v:Val)(h:AH)=>True) (fun(v:Val)=>I (mT v)) (λh v hj hx=>WC h v hj hx)
theorem afU{tl h}(v:Val){Q:QT}(hj:GJ h)(hx:True)(hq:Q (I (mT v)) h):tb (e97::tl) 97 [.agg (vC v)] h Q:=aV v hj hx hq
theorem aar(h:AH)(id:Nat)(x:Sc)(hj:GJ h/\8<=id)(hc:h.ab id=some (scC x))(hid:id<h.nx)(hx:x.Ok):aK prog 60 [.ptr id 0] h (.psl (vCs (kL x.s x.t).1)) (h.set id (.cells (scC ⟨x.s,(kL x.s x.t).2⟩))):=by
 obtain⟨s,t0⟩:=x;have hs:s.length<=1000000:=hx.1;refine bm (R:=λv h'=>Frz (fresh h' h.nx) false v (.psl (vCs (kL s t0).1))/\Ob h h' id (scC ⟨s,(kL s t0).2⟩)) hid (dE _) (C60 (aW [e94,e95,e96,e97]) ?_) λv' h' hq=>hq
 simp[g60];have pq:ml s (s.length+2) [] t0=kL s t0:=rfl;generalize hR:kL s t0=R at*;refine⟨λm vs h'=>∃acc t lv,vs=[.ptr id 0,lv]/\Ob h h' id (scC ⟨s,t⟩)/\OL 4 h h' lv acc.length (cZ acc)/\t.pos<=s.length/\left s t<=m/\ml s m acc t=R/\(t.ok=true->acc.length<=t.pos)/\acc.length<=s.length+1,s.length+2,?_,?_⟩
 ·exact⟨[],t0,.aa,rfl,Ob.start hc,OL.start _ _ _,hx.2,by unfold left;split<;>omega,pq,by simp,by simp⟩
 ·rintro m vs h' ⟨acc,t,lv,rfl,ho,hl,hp,hm,hq,hlen,MA⟩;simp[Ul];refine vZ (x:=⟨s,t⟩) ho.c (ho.lt hid) ⟨hs,hp⟩ ?_;cases bN:bB s t
  ·have ly:ml s m acc t=(acc,t):=by
    cases m with
    |zero=>rfl
    |succ m=>unfold ml;rw[amU (by rw[bN];simp)]
   rw[hq]at ly;subst ly;simp[bN];simp[S3];simp[IX];exact⟨qx hl (amY _),ho⟩
  ·have hok:t.ok=true:=by unfold bB at bN;simp only[amZ]at bN;exact bN.1
   obtain⟨m,rfl⟩:∃k,m=k+1:=⟨m-1,by unfold left at hm;rw[am1 hok]at hm;omega⟩;have hq2:=hq;unfold ml at hq2;rw[am1 bN]at hq2;have hsp:=dM s t hp;have hvk:=lA s 17 _ hsp.lt;have hak:=pM s t hp;simp[bN];refine R7 (x:=⟨s,t⟩) ho.c (ho.lt hid) ⟨hs,hp⟩ ?_;have ho2:=ho.set (scC ⟨s,bE s t⟩);have hl2:=hl.set hid (.cells (scC ⟨s,bE s t⟩));simp only at ho2 hl2 ⊢;generalize h'.set id (.cells (scC ⟨s,bE s t⟩))=h2 at*;refine afG (x:=⟨s,bE s t⟩) ⟨hj.1.ob ho2 hj.2,hj.2⟩ ho2.c (ho2.lt hid) ⟨hs,hsp.lt⟩ ?_;have ho3:=ho2.set (scC ⟨s,lX s (bE s t)⟩);have hl3:=hl2.set hid (.cells (scC ⟨s,lX s (bE s t)⟩));simp only at ho3 hl3 ⊢;generalize h2.set id (.cells (scC ⟨s,lX s (bE s t)⟩))=h3 at*;have hA:je s t=⟨(lX s (bE s t)).pos,(lX s (bE s t)).first,(lX s (bE s t)).ok&&(mT (oQ s (bE s t))==0)⟩:=rfl;generalize lX s (bE s t)=u at*;generalize hv:oQ s (bE s t)=v at*;have hvl:=cH v;have hvo:=iH v;have hn3:=ho3.nx;have hz:(h3.add (.cells z4)).ab h3.nx=some z4:=aj _ _ _ rfl;have hst:=aed (cs:=vC v) hz rfl hvl hvo;have fJ:h3.add (.cells [I 0,I 0,.str [],.aa])=h3.add (.cells z4):=rfl;rw[fJ,hst];have ho4:Ob h ((h3.add (.cells z4)).set h3.nx (.cells (vC v))) id (scC ⟨s,u⟩):=ho3.app hid (by simp) λi hi=>by rw[au,amU (by omega),az,amU (by omega)]
   have hl4:OL 4 h ((h3.add (.cells z4)).set h3.nx (.cells (vC v))) lv acc.length (cZ acc):=hl3.du (by simp) λi hi hi2=>by rw[au,amU (by omega),az,amU (by omega)]
   have hv4:((h3.add (.cells z4)).set h3.nx (.cells (vC v))).ab h3.nx=some (vC v):=an _ _ _ _ rfl;have hn4:((h3.add (.cells z4)).set h3.nx (.cells (vC v))).nx=h3.nx+1:=by simp
   generalize(h3.add (.cells z4)).set h3.nx (.cells (vC v))=h4 at*;have hc4:h4.ab id=some [.str s,I u.pos,.bool u.first,.bool u.ok]:=ho4.c;simp[];refine⟨λvs h5=>vs=[.ptr id 0,lv,.ptr h3.nx 0]/\Ob h h5 id (scC ⟨s,je s t⟩)/\OL 4 h h5 lv acc.length (cZ acc)/\h5.ab h3.nx=some (vC v)/\h3.nx+1<=h5.nx,?_,?_⟩
   ·rw[hA];have hne:h3.nx≠id:=by omega
    cases huo:u.ok
    ·rw[huo]at hc4;simp[FG,hc4];simp[Iw,hc4];exact⟨ho4.set _,hl4.set hid _,by rw[amU hne];exact hv4,by omega⟩
    ·rw[huo]at hc4;simp[FG,hc4,XN hv4 hvl];refine afU (v:=v) (hj.1.ob ho4 hj.2) trivial ?_;simp[Iw,hc4];exact⟨ho4.set _,hl4.set hid _,by rw[amU hne];exact hv4,by omega⟩
   ·rintro vs h5 ⟨rfl,ho5,hl5,hv5,hn5⟩;obtain⟨lv',h6,hk,hl6,hn6,hg6⟩:=mI (bytes:=56) (tc:=vC v) hl5 ho5.nx hvl hvo (by have:=hlen hok;omega) (by omega);have haf:=ZZ (z:=[I 0,I 0,.str [],.aa]) rfl hvl hvo;simp[So,XN hv5 hvl,haf,hk];refine⟨m,by omega,acc++[v],je s t,ho5.app hid (by omega) hg6,?_,hak.1.lt,?_,hq2,?_,?_⟩
    ·rw[jL,amX];exact hl6
    ·unfold left at hm ⊢;rw[am1 hok]at hm;by_cases hu:(je s t).ok=true
     ·rw[am1 hu];have:=hak.2 hu;have:=hak.1.lt;omega
     ·rw[amU hu];omega
    ·intro hu;have:=hak.2 hu;have:=hlen hok;rw[amX];simp only[am2];omega
    ·have:=hlen hok;rw[amX];simp only[am2];omega
def e60:QE prog:=QE.obj 60 (λh id=>GJ h/\8<=id) scC (fun(_:Unit)=>[]) (fun(x:Sc)(y:Unit)=>match y with|_=>x.Ok) (fun(x:Sc)(y:Unit)=>match y with|_=>.psl (vCs (kL x.s x.t).1)) (fun(x:Sc)(y:Unit)=>match y with|_=>⟨x.s,(kL x.s x.t).2⟩) (λh id x y hj hc hid hx=>match y,hx with|_,hx=>aar h id x hj hc hid hx)
theorem aef{tl h}{id:Nat}{x:Sc}{Q:QT}(hj:GJ h/\8<=id)(hc:h.ab id=some (scC x))(hid:id<h.nx)(hx:x.Ok)(hq:Q (.psl (vCs (kL x.s x.t).1)) (h.set id (.cells (scC (⟨x.s,(kL x.s x.t).2⟩))))):tb (e60::tl) 60 (.ptr id 0::[]) h Q:=bF () hj hc hid hx hq
@[simp ↓] theorem akc:TbT e60 60:=aH e60
set_option maxRecDepth 100000
def adm(cl:CL)(v0 v1:AV)(h:AH)(Q:QT):=ax cl (F 146) [v0,v1,I 0,(I (-1))] h λv7 h=>Q v7 h
theorem aif{cl}(hcl:bt prog cl){v0 v1 h Q}(hg:adm cl v0 v1 h Q):aJ prog 124 [v0,v1] h Q:=bI hcl [] func124 (by kernel_rfl) (by kernel_rfl) hg
def KU(cl:CL)(v0 v1 v2 v3 v20:AV)(h:AH)(k:NT):=wif v20 (ax cl (F 164) [v0,v1] h λv23 h=>wk (ae h .add v23 (I 1)) λv24 h=>k [v0,v1,v2,v24] h) (k [v0,v1,v2,v3] h)
def Vt(cl:CL)(v1 v2 v3 v9 v10 v50 v51 v53:AV)(h:AH)(k:KT):=wk (ae h .add v51 v53) λv54 h=>wk (gI h v50 (some v54) none) λv55 h=>wk (ae h .add v10 (I 1)) λv57 h=>k .nrm [v55,v1,v2,v3,v9,v57] [v55,v9,v57] h
def Ml(cl:CL)(v0 v1 v2 v3 v9 v10:AV)(h:AH)(k:KT):=wk (ae h .lss v10 v3) λv36 h=>wif v36 (ax cl (F 72) [v0,v1] h λv39 h=>wk (ae h .lss v39 (I 0)) λv41 h=>wif v41 (k (.exit 0) [v0,v1,v2,v3,v9,v10] [v0,v9,v10] h) (wk (ae h .add v39 v2) λv47 h=>wk (gI h v0 none (some v47)) λv48 h=>wk (aF h 1 v9 v10) λv49 h=>wk (kSt h 1 v49 v48) λ_ h=>wk (cL h v1) λv53 h=>Vt cl v1 v2 v3 v9 v10 v0 v39 v53 h k)) (k (.exit 0) [v0,v1,v2,v3,v9,v10] [v0,v9,v10] h)
def zM(cl:CL)(v0 v9 v10:AV)(h:AH)(Q:QT):=wk (aF h 1 v9 v10) λv61 h=>wk (kSt h 1 v61 v0) λ_ h=>wk (ae h .add v10 (I 1)) λv64 h=>wk (kSl h 1 v9 none (some v64) none) λv65 h=>Q v65 h
def Li(cl:CL)(x:AX)(v0 v9 v10:AV)(h:AH)(Q:QT):=xs x (zM cl v0 v9 v10 h Q) (λj=>cond (Nat.beq j 0) (zM cl v0 v9 v10 h Q) (False)) (Q (.undef) h)
def J_(cl:CL)(v0 v1 v2 v3:AV)(h:AH)(Q:QT):=wk (cL h v0) λv27 h=>wk (ae h .add v27 (I 1)) λv28 h=>wk (iy h false v3 v28) λv29 h=>wk (nZ h 1 16 [.str []] v29 v29) λv31 h=>wk (ae h .sub v29 (I 1)) λv33 h=>b9 (λvs h k=>Ml cl (ai vs 0) (ai vs 1) (ai vs 2) (ai vs 3) (ai vs 4) (ai vs 5) h k) [v0,v1,v2,v33,v31,I 0] h λx vs h=>Li cl x (ai vs 0) (ai vs 1) (ai vs 2) h Q
def adM(cl:CL)(v0 v1 v2 v3:AV)(h:AH)(Q:QT):=wk (ae h .eql v3 (I 0)) λv13 h=>wif v13 (Q ((.aa)) h) (wk (ae h .eql v1 (.str [])) λv15 h=>wif v15 (ax cl (F 163) [v0,v3] h λv18 h=>Q v18 h) (wk (ae h .lss v3 (I 0)) λv20 h=>aI (KU cl v0 v1 v2 v3 v20 h) λvs h=>J_ cl (ai vs 0) (ai vs 1) (ai vs 2) (ai vs 3) h Q))
theorem ahW{cl}(hcl:bt prog cl){v0 v1 v2 v3 h Q}(hg:adM cl v0 v1 v2 v3 h Q):aJ prog 146 [v0,v1,v2,v3] h Q:=bI hcl [(8,.jn [0,1,2,3]),(15,.l [0,1,2,3,9,10] [0,9,10])] func146 (by kernel_rfl) (by kernel_rfl) hg
