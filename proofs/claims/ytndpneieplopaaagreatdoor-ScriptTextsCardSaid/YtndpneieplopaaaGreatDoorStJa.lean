/- The laws' plain inputs: the whole. -/
import Derived.Test.YtndpneieplopaaaGreatDoorStGn
set_option linter.unusedSimpArgs false
set_option linter.unusedVariables false
noncomputable section
namespace Go.Proofs.YtndpneieplopaaaGreatDoor
open Go.Eng Go.St Tryz
theorem TZ(x:Sr):pl7 x=if rgV x 14 17=15 then(z7A (rgV x 14 17) (plT (rgV x 14 17) (nS x 4)) (nV (mU (rgV x 14 17) (nS x 4)) 6) (itV H9 qW (nV (nS (mU (rgV x 14 17) (nS x 4)) 6) 3).toNat (nS (nS (mU (rgV x 14 17) (nS x 4)) 6) 3)),itS qW (nV (nS (mU (rgV x 14 17) (nS x 4)) 6) 3).toNat (nS (nS (mU (rgV x 14 17) (nS x 4)) 6) 3))
 else(z7A (rgV x 14 17) (plT (rgV x 14 17) (nS x 4)) 0 [],mU (rgV x 14 17) (nS x 4)):=rfl
inductive PA7(h:AH)(id:Nat)(x:Sr)(k:Int)(t:List Int):List AV->AH->Prop
 |mk {h':AH} (T:AV):P7 h h' id x k T 0 .aa->x.Ok->T.one=true->(∀H,Frz H false T (.psl (rnC t)))->PA7 h id x k t [.ptr id 0,.ptr h.nx 0,.ptr (h.nx+1) 0] h'
theorem p_7{h h1:AH}{id:Nat}{x:Sr}(hid:id<h.nx)(hx:x.Ok)(g:P9 h h1 id x)(hn1:h1.nx=h.nx+1):GA (tb pE) (.ptr id 0) (.ptr h.nx 0) (I (rgV x 14 17)) (h1.set id (.cells (srC (nS x 4)))) (PLQ h id (pl7 x)):=by
 rw[TZ];have hx:=bn hx 4;have g:=g.rd hid (nS x 4);have hn1:(h1.set id (.cells (srC (nS x 4)))).nx=h.nx+1:=hn1;generalize h1.set id (.cells (srC (nS x 4)))=h2 at*;generalize nS x 4=x1 at*;generalize rgV x 14 17=k at*;have hfz:[I 0,I 0,I 0,I 0,I 0,I 0,I 0,I 0,I 0,I 0,I 0,I 0,.bool false,.bool false,I 0,.aa,I 0,I 0,I 0,I 0,I 0,.str [],I 0,.aa,.aa,.aa,I 0,I 0,.bool false,I 0,I 0,I 0,I 0,I 0,I 0,.aa,I 0]=zIn:=rfl;unfold GA;rw[hfz];have ES:bW [I 0,.aa,.aa,.aa,I 0,I 0,.bool false,I 0,I 0,I 0,I 0,I 0,I 0,.aa,I 0] [(0,1,I k)]=some (edC k .aa 0 .aa):=rfl;have EL:bW zIn [(0,1,I 8),(22,15,.agg (edC k .aa 0 .aa))]=some (dm k .aa 0 .aa):=rfl;have hl6:(dm k .aa 0 .aa).length=37:=rfl;have ho6:dj (dm k .aa 0 .aa)=true:=rfl;have hs6:a7 zIn 0 (dm k .aa 0 .aa)=some (dm k .aa 0 .aa):=dG rfl;simp[ES,EL,hl6,ho6,hs6];rw[hn1];have g2:P7 h ((h2.add (.cells zIn)).set (h.nx+1) (.cells (dm k .aa 0 .aa))) id x1 k .aa 0 .aa:=by
  refine⟨g.ob.app hid (by simp) λi hi=>by rw[au,amU (by omega),az,amU (by omega)],?_,an _ _ _ _ rfl,by simp;omega⟩;rw[ak _ _ _ _ (by omega),aC _ _ _ (by omega)];exact g.r
 generalize(h2.add (.cells zIn)).set (h.nx+1) (.cells (dm k .aa 0 .aa))=h3 at*;clear EL hs6 ho6 hl6 ES hn1 g;have g:=g2;clear g2;obtain⟨fl,hfl⟩:∃fl,fl=decide (k=15\/k=16):=⟨_,rfl⟩;refine⟨λvs h4=>vs=[.ptr id 0,.ptr h.nx 0,.ptr (h.nx+1) 0,.bool fl]/\h4=h3,?_,?_⟩
 ·have hk:=g.l6;have h22:(dm k .aa 0 .aa)[22]?=some (I k):=rfl;by_cases k15:k=15
  ·subst k15;rw[hfl];simp[AZ,hk,h22];simp[A1]
  ·by_cases k16:k=16
   ·subst k16;rw[hfl];simp[AZ,hk,h22];simp[A1]
   ·rw[hfl];simp[AZ,hk,h22,k15,k16];simp[A1,k15,k16]
 ·rintro vs h4 ⟨rfl,rfl⟩;simp[Pm];refine⟨PA7 h id (mU k x1) k (plT k x1),?_,?_⟩
  ·by_cases hk:k=15\/k=16
   ·have e1:plT k x1=vdV x1 5:=am1 hk;have e2:mU k x1=txS x1 5:=am1 hk;rw[e1,e2,hfl,anA hk];unfold pE;simp[IZ];refine Ye 5 g.ob.c (g.ob.lt hid) ⟨hx,by omega,by omega⟩ ?_;have g:=g.rd hid (txS x1 5);have hx:=GX hx 5;generalize h4.set id (.cells (srC (txS x1 5)))=h5 at*;generalize vdV x1 5=L at*;generalize txS x1 5=x2 at*;have hk6:=g.l6;have hsp:a7 (dm k .aa 0 .aa) 23 [.psl (rnC L)]=some (dm k (.psl (rnC L)) 0 .aa):=rfl;simp[Pz,hk6,hsp];exact .mk _ (g.st hid _ _ _) hx rfl λH=>BQ _ H
   ·have e1:plT k x1=[]:=amU hk;have e2:mU k x1=x1:=amU hk;rw[e1,e2,hfl,anw hk];simp[IZ];exact .mk .aa g hx rfl λH=>ma rfl
  ·rintro vs h5 ⟨T,g,hx,hT,hf⟩;generalize mU k x1=x2 at*;generalize plT k x1=t at*;have hk:=g.l6;have h22:(dm k T 0 .aa)[22]?=some (I k):=rfl;by_cases k15:k=15
   ·rw[am1 k15];subst k15;have n1:=eG x2 6;have n2:=eu x2 (show(1:Int)<=6 by omega);have m1:=eG (nS x2 6) 3;have m2:=eu (nS x2 6) (show(1:Int)<=3 by omega);simp[FI,hk,h22];refine⟨PM7 h id _ 15 _ t _,?_,λvs h6 m=>L5 hid m⟩;unfold pE;simp[HL];refine gD 6 g.ob.c (g.ob.lt hid) ⟨hx,by omega⟩ ?_;have g:=g.rd hid (nS x2 6);have hx:=bn hx 6;generalize h5.set id (.cells (srC (nS x2 6)))=h6 at*;generalize nV x2 6=n at*;generalize nS x2 6=x3 at*;have hk6:=g.l6;have hsp:a7 (dm 15 T 0 .aa) 34 [I n]=some (dm 15 T n .aa):=rfl;simp[P_,hk6,hsp];have g:=g.st hid T n .aa;generalize h6.set (h.nx+1) (.cells (dm 15 T n .aa))=h7 at*;refine gD 3 g.ob.c (g.ob.lt hid) ⟨hx,by omega⟩ ?_;have g:=g.rd hid (nS x3 3);have hx:=bn hx 3;generalize h7.set id (.cells (srC (nS x3 3)))=h8 at*;obtain⟨m0,hm0⟩:=anu m1;rw[hm0];have e0:((m0:Int)).toNat=m0:=by omega
    rw[e0];generalize nS x3 3=x4 at*;exact Ws hid hx g hT hf (by omega) λvs h9 m=>m
   ·rw[amU k15];simp[FI,hk,h22,k15];refine⟨PM7 h id x2 k 0 t [],?_,λvs h6 m=>L5 hid m⟩;simp[HL,k15];exact .mk h5 T .aa g hT hf g.nx (OL.start _ _ _)
theorem aij(x:Sr):-3<=rgV x (-3) 999/\rgV x (-3) 999<=999:=by
 have h1:=eG x 1003;have h2:=eu x (show(1:Int)<=1003 by omega);unfold rgV;rw[show(999:Int) - -3+1=1003 by omega];omega
theorem Zo{h:AH}{x:Option (AV×AH)}{v:AV}{c:Rec}{k:AV->Rec->AH->Prop}(hx:x=some (v,h))(hk:k v c h):wdp h x c k:=by
 subst hx;exact hk
theorem Wi(h:AH)(id:Nat)(x:Sr)(hc:h.ab id=some (srC x))(hid:id<h.nx)(hx:x.Ok):aK prog 9 [.ptr id 0] h (.agg (inC (plI x))) (h.set id (.cells (srC (plS x)))):=by
 refine bm (R:=PLQ h id (plI x,plS x)) hid (dR _) (C9 (aW pE) ?_) λv' h' h1=>h1
 have hR:(plI x,plS x)=plC (nV (nS x 1003) 8) (rgV x (-3) 999) (nS (nS x 1003) 8):=rfl;rw[hR];have hfz:[I 0,I 0,I 0,I 0,I 0,I 0,I 0,I 0,I 0,I 0,I 0,I 0,.bool false,.bool false,I 0,.aa,I 0,I 0,I 0,I 0,I 0,.str [],I 0,.aa,.aa,.aa,I 0,I 0,.bool false,I 0,I 0,I 0,I 0,I 0,I 0,.aa,I 0]=zIn:=rfl;have hpE:pE=[e8,e19,e20,e21,e22,e23]:=rfl;unfold g9;rw[hfz];clear hfz;simp[];have g:P9 h (h.add (.cells zIn)) id x:=⟨(Ob.start hc).new hid (by simp) λi hi=>by rw[az,amU (by omega)],aj _ _ _ rfl,by simp⟩;have hn1:(h.add (.cells zIn)).nx=h.nx+1:=by simp
 generalize h.add (.cells zIn)=h1 at*;have hnn:=aij x;rw[hpE];simp[];refine u4 (-3) 999 g.ob.c (g.ob.lt hid) ⟨hx,by omega⟩ ?_;rw[show(999:Int) - -3+1=1003 by omega];have g:=g.rd hid (nS x 1003);have hn1:(h1.set id (.cells (srC (nS x 1003)))).nx=h.nx+1:=hn1;have hx1:=bn hx 1003;generalize h1.set id (.cells (srC (nS x 1003)))=h2 at*;generalize rgV x (-3) 999=n at*;generalize nS x 1003=x1 at*;refine gD 8 g.ob.c (g.ob.lt hid) ⟨hx1,by omega⟩ ?_;have g:=g.rd hid (nS x1 8);have hn1:(h2.set id (.cells (srC (nS x1 8)))).nx=h.nx+1:=hn1;have hx2:=bn hx1 8;have m1:=eG x1 8;have m2:=eu x1 (show(1:Int)<=8 by omega);generalize h2.set id (.cells (srC (nS x1 8)))=h3 at*;generalize nV x1 8=c at*;generalize nS x1 8=x2 at*;unfold plC;by_cases c0:c=0
 ·subst c0;rw[am1 rfl];simp[];refine u4 1 6 g.ob.c (g.ob.lt hid) ⟨hx2,by omega⟩ ?_;rw[show(6:Int)-1+1=6 by omega,<-hpE];exact p_0 hid (by omega) hx2 g rfl
 rw[amU c0];by_cases c1:c=1
 ·subst c1;rw[am1 rfl];simp[];have g:=g.bump (k:=h3.nx+8) (by omega);refine aeX g.ob.c (g.ob.lt hid) hx2 ?_;refine⟨by simp,?_⟩;have g:=g.rd hid (chS x2);have hx3:=Q7 hx2;unfold pl1;have hlen:0<(chV x2).length:=by
   have:=eG x2 3;unfold chV;rw[mr];unfold rgV;rw[show(3:Int)-1+1=3 by omega];omega
  have hhd:(chC (chV x2))[0]?=some [I ((chV x2).headD (0,0)).1,I ((chV x2).headD (0,0)).2]:=by
   match hv:chV x2,hlen with
   |p::r,_=>rfl
  generalize(chV x2).headD (0,0)=kk at*;generalize chV x2=L at*;have hh:∃hh:AH,hh=(AH.mk h3.H (h3.nx+8)).set id (.cells (srC (chS x2))):=⟨_,rfl⟩;generalize(AH.mk h3.H (h3.nx+8)).set id (.cells (srC (chS x2)))=h4 at*;generalize chS x2=x3 at*;have hix:aF h4 2 (.psl (chC L)) (I 0)=some (.cd [I kk.1,I kk.2],h4):=da (i:=0) hhd rfl;simp[hix];simp[Ya];refine gD 99 g.ob.c (g.ob.lt hid) ⟨hx3,by omega⟩ ?_;refine⟨by simp,?_⟩;have g:=g.rd hid (nS x3 99);generalize h4.set id (.cells (srC (nS x3 99)))=h5 at*;generalize nV x3 99=tm at*;generalize nS x3 99=x4 at*;obtain⟨I1,hI1⟩:∃I1,I1=({Inp.z with kind:=2,key:=kk.1,mM:=kk.2,time:=tm}:Inp):=⟨_,rfl⟩;have hCS:(inG I1 .aa .aa .aa .aa .aa).length=37:=rfl;have hCo:dj (inG I1 .aa .aa .aa .aa .aa)=true:=rfl;have hst:=YJ g hCS hCo;have hfz:=pD (H:=fresh (h5.set h.nx (.cells (inG I1 .aa .aa .aa .aa .aa))) h.nx) (i:=I1) (by rw[hI1];rfl) (by rw[hI1];rfl) (by rw[hI1];rfl) (by rw[hI1];rfl) (by rw[hI1];rfl);have hce:(h5.set h.nx (.cells (inG I1 .aa .aa .aa .aa .aa))).ab h.nx=some (inG I1 .aa .aa .aa .aa .aa):=an _ _ _ _ rfl;have fk:cut (inG I1 .aa .aa .aa .aa .aa) 0 37=some (inG I1 .aa .aa .aa .aa .aa):=by
   have:=aM (α:=inG I1 .aa .aa .aa .aa .aa) (b:=[]) (n:=37) rfl;rwa [am5]at this
  have ho9:Ob h (h5.set h.nx (.cells (inG I1 .aa .aa .aa .aa .aa))) id (srC x4):=g.ob.app hid (by simp) λi hi=>by rw[au,amU (by omega)]
  have hn9:h5.nx<=(h5.set h.nx (.cells (inG I1 .aa .aa .aa .aa .aa))).nx:=by simp
  refine Zo (v:=.agg (inG I1 .aa .aa .aa .aa .aa)) (by rw[hI1];rfl) ?_;refine fR hst hn9 ?_;generalize h5.set h.nx (.cells (inG I1 .aa .aa .aa .aa .aa))=h6 at*;rw[<-hI1];generalize inG I1 .aa .aa .aa .aa .aa=CS at*;simp[hce,fk];exact⟨re hfz,ho9⟩
 rw[amU c1];by_cases c2:c=2
 ·subst c2;rw[am1 rfl];simp[];exact vF hid g rfl rfl (pD (i:={Inp.z with kind:=3,time:=n}) rfl rfl rfl rfl rfl)
 rw[amU c2];by_cases c3:c=3
 ·subst c3;rw[am1 rfl];simp[];refine gD 99 g.ob.c (g.ob.lt hid) ⟨hx2,by omega⟩ ?_;have g:=g.rd hid (nS x2 99);generalize h3.set id (.cells (srC (nS x2 99)))=h4 at*;unfold pl3;generalize nV x2 99=a at*;generalize nS x2 99=x3 at*;unfold Yk;simp[];exact vF hid g rfl rfl (pD (i:={Inp.z with kind:=4,sw:=n,sh:=a}) rfl rfl rfl rfl rfl)
 rw[amU c3];by_cases c4:c=4
 ·subst c4;rw[am1 rfl];simp[sg];refine afs g.ob.c (g.ob.lt hid) hx2 ?_;have g:=g.rd hid (mdS x2);generalize h3.set id (.cells (srC (mdS x2)))=h4 at*;unfold pl4 mdV;generalize nV x2 2=a at*;generalize nV (nS x2 2) 2=b at*;generalize kA.getD (nV (nS (nS x2 2) 2) 5).toNat 0=s at*;generalize mdS x2=x3 at*;simp[];exact vF hid g rfl rfl (pD (i:={Inp.z with kind:=5,nP:=a==1,high:=b==1,scale:=s}) rfl rfl rfl rfl rfl)
 rw[amU c4];by_cases c5:c=5
 ·subst c5;rw[am1 rfl];simp[];rw[<-hpE];exact p_5 hid hx2 g hn1
 rw[amU c5];by_cases c6:c=6
 ·subst c6;rw[am1 rfl];simp[sg];refine gD 9 g.ob.c (g.ob.lt hid) ⟨hx2,by omega⟩ ?_;rw[<-hpE];exact p_6 hid hx2 g rfl
 rw[amU c6];simp[c0,c1,c2,c3,c4];simp[sg,c4,c5,c6];refine u4 14 17 g.ob.c (g.ob.lt hid) ⟨hx2,by omega⟩ ?_;rw[show(17:Int)-14+1=4 by omega,<-hpE];exact p_7 hid hx2 g hn1
def e9:QE prog:=QE.obj 9 (λ_ _=>True) srC (fun(_:Unit)=>[]) (fun(x:Sr)(y:Unit)=>match y with|_=>x.Ok) (fun(x:Sr)(y:Unit)=>match y with|_=>.agg (inC (plI x))) (fun(x:Sr)(y:Unit)=>match y with|_=>plS x) (λh id x y hj hc hid hx=>match y,hx with|_,hx=>Wi h id x hc hid hx)
theorem aho{tl h}{id:Nat}{x:Sr}{Q:QT}(hc:h.ab id=some (srC x))(hid:id<h.nx)(hx:x.Ok)(hq:Q (.agg (inC (plI x))) (h.set id (.cells (srC (plS x))))):tb (e9::tl) 9 (.ptr id 0::[]) h Q:=bF () trivial hc hid hx hq
@[simp ↓] theorem ali:TbT e9 9:=aH e9
noncomputable def dq{α:Type}(a b:α):Bool:= @decide (a=b) (Classical.propDecidable _)
theorem gv{α:Type}{a b:α}(h:a=b):dq a b=true:=by unfold dq;simp[h]
theorem dZ{α:Type}{a b:α}(h:a≠b):dq a b=false:=by unfold dq;simp[h]
structure Fr(h h':AH):Prop where
 nx:h.nx<=h'.nx
 get:∀i,i<h.nx->h'.H.get i=h.H.get i
theorem Fr.refl(h:AH):Fr h h:=⟨amY _,λ_ _=>rfl⟩
theorem Fr.bump{h h':AH}(f:Fr h h'){k:Nat}(hk:h'.nx<=k):Fr h ⟨h'.H,k⟩:=⟨ane f.nx hk,f.get⟩
theorem Fr.add{h h':AH}(f:Fr h h')(o:dx):Fr h (h'.add o):=⟨by have:=f.nx;simp;omega,λi hi=>by have:=f.nx;rw[az,amU (by omega)];exact f.get i hi⟩
theorem Fr.set{h h':AH}(f:Fr h h'){k:Nat}(hk:h.nx<=k)(o:dx):Fr h (h'.set k o):=⟨f.nx,λi hi=>by rw[au,amU (by omega)];exact f.get i hi⟩
theorem Fr.trans{h h1 h2:AH}(f:Fr h h1)(g:Fr h1 h2):Fr h h2:=⟨ane f.nx g.nx,λi hi=>by rw[g.get i (ant hi f.nx)];exact f.get i hi⟩
theorem kM{P:Program}{f:Nat}{args:LA}{h:AH}{v:AV}(hf:∀H,Frz H false v v)(hc:aJ P f args h λv' h'=>v'=v/\Fr h h'):aK P f args h v h:=
 aZ hc λv' h' ⟨h1,h2⟩=>⟨by rw[h1];exact hf _,h2.nx,h2.get⟩
theorem gW{h:AH}{ys:List (LA)}{A:AV}(hA:Sl ys A):bh h A=some (I ys.length,h):=by
 rcases hA with rfl|⟨rfl,rfl⟩<;>simp
theorem gY{h:AH}{z i:Nat}{ys:List (LA)}{c:LA}{A:AV}(hA:Sl ys A)(hc:ys[i]?=some c)(hz:c.length=z):aF h z A (I i)=some (.cd c,h):=by
 rcases hA with rfl|⟨rfl,rfl⟩
 ·exact da hc hz
 ·simp at hc
theorem g_{α:Type}{l m:List α}{i:Nat}(h:l.take i=m.take i)(hl:i<l.length)(hm:i<m.length)(e:l[i]=m[i]):l.take (i+1)=m.take (i+1):=by
 rw[aoj hl,aoj hm,h,e]
inductive Q78(h:AH)(A B:AV)(L M:List Int):Nat->List AV->AH->Prop
 |mk {m:Nat} {h':AH} (i:Nat):i+m=L.length->L.take i=M.take i->Fr h h'->Q78 h A B L M m [A,B,I i] h'
theorem aaN(h:AH)(A B:AV)(L M:List Int)(hx:Sl (rnC L) A/\Sl (rnC M) B/\L.length<=1000000):aK prog 78 [A,B] h (.bool (dq L M)) h:=by
 obtain⟨hA,hB,hL⟩:=hx;refine kM (λ_=>.bool _) (C78 (aW []) ?_);have l1:∀h:AH,bh h A=some (I L.length,h):=λh=>by rw[gW hA];simp[rnC]
 have l2:∀h:AH,bh h B=some (I M.length,h):=λh=>by rw[gW hB];simp[rnC]
 by_cases hl:L.length=M.length
 ·have hl':(L.length:Int)=M.length:=by omega
  simp[g78,l1,l2,hl'];refine⟨Q78 h A B L M,L.length,.mk 0 (by simp) rfl (Fr.refl h),?_⟩;rintro m vs h' ⟨i,him,ht,fr⟩;cases m with
  |zero=>
   have hlt:¬(i:Int)<L.length:=by omega
   simp[Cc,l1,hlt];simp[Gd,Ib];have:L=M:=by
    rw[anc (by omega),anc (by omega)]at ht;exact ht
   exact⟨gv this,fr⟩
  |succ m=>
   have h1:i<L.length:=by omega
   have h2:i<M.length:=by omega
   have hlt:(i:Int)<L.length:=by omega
   have xW:(i:Int)<M.length:=by omega
   have i1:∀h:AH,aF h 1 A (I i)=some (.cd [bH L[i]],h):=λh=>gY hA (by simp[rnC,h1]) rfl
   have i2:∀h:AH,aF h 1 B (I i)=some (.cd [bH M[i]],h):=λh=>gY hB (by simp[rnC,h2]) rfl
   have fr2:=fr.bump (k:=h'.nx+9) (by omega);by_cases he:L[i]=M[i]
   ·simp[Cc,l1,l2,hlt,i1];simp(disch:=first|go_size|fail)[E4,i2,bH,he];refine⟨m,by omega,?_⟩;exact .mk (i+1) (show i+1+m=L.length by omega) (g_ ht h1 h2 he) fr2
   ·simp[Cc,l1,l2,hlt,i1];simp[E4,i2,bH,he];simp[Gd];refine⟨dZ λe=>he ?_,fr2⟩;simp only[e]
 ·have hl':¬(L.length:Int)=M.length:=by omega
  simp[g78,l1,l2,hl'];exact⟨dZ λe=>hl (by rw[e]),Fr.refl h⟩
def e78:QE prog:=QE.fn 78 (λ_=>True) (fun(y:AV×AV×List Int×List Int)=>match y with|⟨A,B,L,M⟩=>[A,B]) (fun(y:AV×AV×List Int×List Int)(h:AH)=>match y with|⟨A,B,L,M⟩=>Sl (rnC L) A/\Sl (rnC M) B/\L.length<=1000000) (fun(y:AV×AV×List Int×List Int)=>match y with|⟨A,B,L,M⟩=>.bool (dq L M)) (λh y hj hx=>match y,hx with|⟨A,B,L,M⟩,hx=>aaN h A B L M hx)
theorem YC{tl h}(A:AV)(B:AV)(L:List Int)(M:List Int){Q:QT}(hx:Sl (rnC L) A/\Sl (rnC M) B/\L.length<=1000000)(hq:Q (.bool (dq L M)) h):tb (e78::tl) 78 [A,B] h Q:=aV (A,B,L,M) trivial hx hq
@[simp ↓] theorem akO:TbT e78 78:=aH e78
inductive Q79(h:AH)(B:AV)(N:List (Int×Int))(A:AV)(L:List (Int×Int)):Nat->List AV->AH->Prop
 |mk {m:Nat} {h':AH} (i:Nat) (T U:AV):i+m=L.length->L.take i=N.take i->Fr h h'->h'.ab h.nx=some [T,A]->h'.ab (h.nx+1)=some [U,B]->h.nx+2<=h'.nx->Q79 h B N A L m [.ptr h.nx 0,.ptr (h.nx+1) 0,I i] h'
theorem aaR(h:AH)(T A U B:AV)(t:List Int)(L:List (Int×Int))(u:List Int)(N:List (Int×Int))(hx:Sl (rnC t) T/\Sl (chC L) A/\Sl (rnC u) U/\Sl (chC N) B/\t.length<=1000000/\L.length<=1000000):aK prog 79 [.agg [T,A],.agg [U,B]] h (.bool (dq t u&&dq L N)) h:=by
 obtain⟨hT,hA,hU,hB,ht,hL⟩:=hx;refine kM (λ_=>.bool _) (C79 (aW [e78]) ?_);have oT:=ib hT;have oA:=ib hA;have oU:=ib hU;have oB:=ib hB;have b1:fh h (.agg [T,A])=some (.ptr h.nx 0,h.add (.cells [T,A])):=by simp[fh,dj,oT,oA]
 have b2:∀h:AH,fh h (.agg [U,B])=some (.ptr h.nx 0,h.add (.cells [U,B])):=λh=>by simp[fh,dj,oU,oB]
 simp[g79,b1,b2];have fr:Fr h ((h.add (.cells [T,A])).add (.cells [U,B])):=((Fr.refl h).add _).add _;have c1:((h.add (.cells [T,A])).add (.cells [U,B])).ab h.nx=some [T,A]:=by rw[aC _ _ _ (by simp)];exact aj _ _ _ rfl
 have c2:((h.add (.cells [T,A])).add (.cells [U,B])).ab (h.nx+1)=some [U,B]:=aj _ _ _ (by simp);have hn:h.nx+2<=((h.add (.cells [T,A])).add (.cells [U,B])).nx:=by simp
 generalize(h.add (.cells [T,A])).add (.cells [U,B])=h1 at*;have l1:∀h:AH,bh h A=some (I L.length,h):=λh=>by rw[gW hA];simp[chC]
 have l2:∀h:AH,bh h B=some (I N.length,h):=λh=>by rw[gW hB];simp[chC]
 refine⟨λvs h2=>vs=[.ptr h.nx 0,.ptr (h.nx+1) 0,.bool (!(dq t u)||decide (L.length≠N.length))]/\h2=h1,?_,?_⟩
 ·simp[Tz,c1,c2];refine YC T U t u ⟨hT,hU,ht⟩ ?_;cases dq t u
  ·simp[zV,c1,c2,l1,l2];simp[Ci]
  ·by_cases hl:L.length=N.length
   ·have hl':(L.length:Int)=N.length:=by omega
    simp[zV,c1,c2,l1,l2,hl'];simp[Ci,hl,hl']
   ·have hl':¬(L.length:Int)=N.length:=by omega
    simp[zV,c1,c2,l1,l2,hl'];simp[Ci,hl,hl']
 ·rintro vs h2 ⟨rfl,rfl⟩;cases hd:dq t u
  ·simp[BJ];exact fr
  by_cases hl:L.length=N.length
  ·simp[BJ,hl];refine⟨Q79 h B N A L,L.length,.mk 0 T U (by simp) rfl fr c1 c2 hn,?_⟩;rintro m vs h' ⟨i,T,U,him,ht,fr,c1,c2,hn⟩;cases m with
   |zero=>
    have hlt:¬(i:Int)<L.length:=by omega
    simp[Gh,c1,l1,hlt];simp[IT,IQ];have:L=N:=by
     rw[anc (by omega),anc (by omega)]at ht;exact ht
    exact⟨gv this,fr⟩
   |succ m=>
    have h1:i<L.length:=by omega
    have h2:i<N.length:=by omega
    have hlt:(i:Int)<L.length:=by omega
    have i1:∀h:AH,aF h 2 A (I i)=some (.cd [I L[i].1,I L[i].2],h):=λh=>gY hA (by simp[chC,h1]) rfl
    have i2:∀h:AH,aF h 2 B (I i)=some (.cd [I N[i].1,I N[i].2],h):=λh=>gY hB (by simp[chC,h2]) rfl
    have fr2:=fr.bump (k:=h'.nx+11) (by omega);simp[Gh,c1,l1,hlt,i1];have heq:bA [.int .i64,.int .i64] [I L[i].1,I L[i].2] [I N[i].1,I N[i].2]=some (L[i].1==N[i].1&&L[i].2==N[i].2):=by simp[bA,gn]
    by_cases he:L[i]=N[i]
    ·have hb:(L[i].1==N[i].1&&L[i].2==N[i].2)=true:=by rw[he];simp
     rw[hb]at heq;simp(disch:=first|go_size|fail)[Gq,c2,i2,heq];simp(disch:=first|go_size|fail)[Si];exact⟨m,by omega,.mk (i+1) T U (show i+1+m=L.length by omega) (g_ ht h1 h2 he) fr2 c1 c2 (by simp;omega)⟩
    ·have hb:(L[i].1==N[i].1&&L[i].2==N[i].2)=false:=by
      rw[Bool.eq_false_iff];intro e;simp only[amZ,an2]at e;exact he (Prod.ext e.1 e.2)
     rw[hb]at heq;simp[Gq,c2,i2,heq];simp[IT];exact⟨dZ λe=>he (by simp only[e]),fr2⟩
  ·simp[BJ,hl];exact⟨dZ λe=>hl (by rw[e]),fr⟩
def e79:QE prog:=QE.fn 79 (λ_=>True) (fun(y:AV×AV×AV×AV×List Int×List (Int×Int)×List Int×List (Int×Int))=>match y with|⟨T,A,U,B,t,L,u,N⟩=>[.agg [T,A],.agg [U,B]]) (fun(y:AV×AV×AV×AV×List Int×List (Int×Int)×List Int×List (Int×Int)) (h:AH)=>match y with|⟨T,A,U,B,t,L,u,N⟩=>Sl (rnC t) T/\Sl (chC L) A/\Sl (rnC u) U/\Sl (chC N) B/\t.length<=1000000/\L.length<=1000000) (fun(y:AV×AV×AV×AV×List Int×List (Int×Int)×List Int×List (Int×Int))=>match y with|⟨T,A,U,B,t,L,u,N⟩=>.bool (dq t u&&dq L N)) (λh y hj hx=>match y,hx with|⟨T,A,U,B,t,L,u,N⟩,hx=>aaR h T A U B t L u N hx)
theorem afp{tl h}(T:AV)(A:AV)(U:AV)(B:AV)(t:List Int)(L:List (Int×Int))(u:List Int)(N:List (Int×Int)){Q:QT}(hx:Sl (rnC t) T/\Sl (chC L) A/\Sl (rnC u) U/\Sl (chC N) B/\t.length<=1000000/\L.length<=1000000)(hq:Q (.bool (dq t u&&dq L N)) h):tb (e79::tl) 79 [.agg [T,A],.agg [U,B]] h Q:=aV (T,A,U,B,t,L,u,N) trivial hx hq
inductive WB:Val->Prop
 |mk (k n:Int) (s:Str) (l:List Val):l.length<=2000000->(∀v∈l,WB v)->WB (.mk k n s l)
def TV(v:Val):Prop:=∀(w:Val) (h:AH),aK prog 77 [.agg (vC v),.agg (vC w)] h (.bool (dq v w)) h
def eSv(l:List Val)(hv:∀v∈l,TV v):QE prog:=
 ⟨77,λargs h Q=>∃v w,args=[.agg (vC v),.agg (vC w)]/\v∈l/\Q (.bool (dq v w)) h,λargs h Q ⟨v,w,h1,h2,h3⟩=>by
  subst h1;exact⟨_,_,hv v h2 w h,h3⟩⟩
theorem adO{l:List Val}{hv:∀v∈l,TV v}{tl h}(v w:Val){Q:QT}(hm:v∈l)(hq:Q (.bool (dq v w)) h):tb (eSv l hv::tl) 77 [.agg (vC v),.agg (vC w)] h Q:=by
 rw[dJ _ tl 77 _ _ _ rfl];exact⟨v,w,rfl,hm,hq⟩
inductive Q77(h:AH)(v w:Val)(l m:List Val):Nat->List AV->AH->Prop
 |mk {n:Nat} {h':AH} (i:Nat):i+n=l.length->l.take i=m.take i->Fr h h'->h'.ab h.nx=some (vC v)->h'.ab (h.nx+1)=some (vC w)->h.nx+2<=h'.nx->Q77 h v w l m n [.ptr h.nx 0,.ptr (h.nx+1) 0,I i] h'
theorem WM(k n:Int)(s:Str)(l:List Val)(hl:l.length<=2000000)(hv:∀v∈l,TV v):TV (.mk k n s l):=by
 rintro⟨k',n',s',l'⟩ h;refine kM (λ_=>.bool _) (C77 (aW [eSv l hv]) ?_);have hvC:vC (.mk k n s l)=[I k,I n,.str s,.psl (vCs l)]:=by simp[vC]
 have hwC:vC (.mk k' n' s' l')=[I k',I n',.str s',.psl (vCs l')]:=by simp[vC]
 simp[g77];have fr:Fr h ((h.add (.cells (vC (.mk k n s l)))).add (.cells (vC (.mk k' n' s' l')))):=((Fr.refl h).add _).add _;have c1:((h.add (.cells (vC (.mk k n s l)))).add (.cells (vC (.mk k' n' s' l')))).ab h.nx=some (vC (.mk k n s l)):=by rw[aC _ _ _ (by simp)];exact aj _ _ _ rfl
 have c2:((h.add (.cells (vC (.mk k n s l)))).add (.cells (vC (.mk k' n' s' l')))).ab (h.nx+1)=some (vC (.mk k' n' s' l')):=aj _ _ _ (by simp);have hn:h.nx+2<=((h.add (.cells (vC (.mk k n s l)))).add (.cells (vC (.mk k' n' s' l')))).nx:=by simp
 generalize(h.add (.cells (vC (.mk k n s l)))).add (.cells (vC (.mk k' n' s' l')))=h1 at*;have d1:=c1;have d2:=c2;rw[hvC]at d1;rw[hwC]at d2;obtain⟨fl,hfl⟩:∃fl,fl=decide (¬(k=k'/\n=n'/\s=s'/\l.length=l'.length)):=⟨_,rfl⟩;have l1:(vCs l).length=l.length:=dr l;have l2:(vCs l').length=l'.length:=dr l';refine⟨λvs h2=>vs=[.ptr h.nx 0,.ptr (h.nx+1) 0,.bool fl]/\h2=h1,?_,?_⟩
 ·rw[hfl];by_cases q1:k=k'
  ·subst q1;by_cases q2:n=n'
   ·subst q2;by_cases q3:s=s'
    ·subst q3;by_cases q4:l.length=l'.length
     ·have q4':(l.length:Int)=l'.length:=by omega
      simp[sS,d1,d2];simp[sH,d1,d2];simp[sE,d1,d2,l1,l2,q4];simp[sG,q4]
     ·have q4':¬(l.length:Int)=l'.length:=by omega
      simp[sS,d1,d2];simp[sH,d1,d2];simp[sE,d1,d2,l1,l2,q4'];simp[sG,q4,q4']
    ·simp[sS,d1,d2];simp[sH,d1,d2,q3];simp[sE];simp[sG,q3]
   ·simp[sS,d1,d2,q2];simp[sH,d1,d2,q2];simp[sE];simp[sG,q2]
  ·simp[sS,d1,d2,q1];simp[sH];simp[sE];simp[sG,q1]
 ·rintro vs h2 ⟨rfl,rfl⟩;by_cases hq:k=k'/\n=n'/\s=s'/\l.length=l'.length
  ·have:fl=false:=by rw[hfl];simp only[hq];simp
   rw[this];obtain⟨rfl,rfl,rfl,q4⟩:=hq;simp[HK];refine⟨Q77 h (.mk k n s l) (.mk k n s l') l l',l.length,.mk 0 (by simp) rfl fr c1 c2 hn,?_⟩;clear d1 d2 c1 c2 fr hn;rintro m vs h' ⟨i,him,ht,fr,c1,c2,hn⟩;have d1:=c1;have d2:=c2;rw[hvC]at d1;rw[hwC]at d2;cases m with
   |zero=>
    have hlt:¬(i:Int)<l.length:=by omega
    simp[IB,d1,l1,hlt];simp[FC,G4];have:l=l':=by
     rw[anc (by omega),anc (by omega)]at ht;exact ht
    exact⟨gv (by rw[this]),fr⟩
   |succ m=>
    have h1:i<l.length:=by omega
    have h2:i<l'.length:=by omega
    have hlt:(i:Int)<l.length:=by omega
    have i1:∀h:AH,aF h 4 (.psl (vCs l)) (I i)=some (.cd (vC l[i]),h):=λh=>da (nD h1) (cH _)
    have i2:∀h:AH,aF h 4 (.psl (vCs l')) (I i)=some (.cd (vC l'[i]),h):=λh=>da (nD h2) (cH _)
    have k1:cut (vC l[i]) 0 4=some (vC l[i]):=by
     have:=aM (α:=vC l[i]) (b:=[]) (n:=4) (cH _);rwa [am5]at this
    have k2:cut (vC l'[i]) 0 4=some (vC l'[i]):=by
     have:=aM (α:=vC l'[i]) (b:=[]) (n:=4) (cH _);rwa [am5]at this
    have fr2:=fr.bump (k:=h'.nx+12) (by omega);simp[IB,d1,l1,hlt,i1];simp[Th,d2,i2,k1,k2];refine adO _ _ (anL h1) ?_;refine⟨by simp,?_⟩;by_cases he:l[i]=l'[i]
    ·rw[gv he];simp(disch:=first|go_size|fail)[Rr];exact⟨m,by omega,.mk (i+1) (show i+1+m=l.length by omega) (g_ ht h1 h2 he) fr2 c1 c2 (by simp;omega)⟩
    ·rw[dZ he];simp(disch:=first|go_size|fail)[Qa];simp(disch:=first|go_size|fail)[FC];exact⟨dZ λe=>he (by cases e;rfl),fr2⟩
  ·have:fl=true:=by rw[hfl];simp only[hq];simp
   rw[this];simp(disch:=first|go_size|fail)[HK];exact⟨dZ λe=>hq (by cases e;exact⟨rfl,rfl,rfl,rfl⟩),fr⟩
theorem afP:∀ {v:Val},WB v->TV v:=λhv=>by
 induction hv with
 |mk k n s l hl _ ih=>exact WM k n s l hl ih
theorem WY(h:AH)(v w:Val)(hv:WB v):aK prog 77 [.agg (vC v),.agg (vC w)] h (.bool (dq v w)) h:=afP hv w h
def e77:QE prog:=QE.fn 77 (λ_=>True) (fun(y:Val×Val)=>match y with|⟨v,w⟩=>[.agg (vC v),.agg (vC w)]) (fun(y:Val×Val)(h:AH)=>match y with|⟨v,w⟩=>WB v) (fun(y:Val×Val)=>match y with|⟨v,w⟩=>.bool (dq v w)) (λh y hj hx=>match y,hx with|⟨v,w⟩,hx=>WY h v w hx)
theorem adX{tl h}(v:Val)(w:Val){Q:QT}(hx:WB v)(hq:Q (.bool (dq v w)) h):tb (e77::tl) 77 [.agg (vC v),.agg (vC w)] h Q:=aV (v,w) trivial hx hq
inductive Q33(h:AH)(A B:AV)(L M:List Val):Nat->List AV->AH->Prop
 |mk {m:Nat} {h':AH} (i:Nat):i+m=L.length->L.take i=M.take i->Fr h h'->Q33 h A B L M m [A,B,I i] h'
theorem W3(h:AH)(A B:AV)(L M:List Val)(hx:Sl (vCs L) A/\Sl (vCs M) B/\L.length<=2000000/\∀v∈L,WB v):aK prog 33 [A,B] h (.bool (dq L M)) h:=by
 obtain⟨hA,hB,hL,hw⟩:=hx;refine kM (λ_=>.bool _) (C33 (aW [e77]) ?_);have l1:∀h:AH,bh h A=some (I L.length,h):=λh=>by rw[gW hA,dr]
 have l2:∀h:AH,bh h B=some (I M.length,h):=λh=>by rw[gW hB,dr]
 by_cases hl:L.length=M.length
 ·have hl':(L.length:Int)=M.length:=by omega
  simp[g33,l1,l2,hl'];refine⟨Q33 h A B L M,L.length,.mk 0 (by simp) rfl (Fr.refl h),?_⟩;rintro m vs h' ⟨i,him,ht,fr⟩;cases m with
  |zero=>
   have hlt:¬(i:Int)<L.length:=by omega
   simp[GD,l1,hlt];simp[Fb,Fv];have:L=M:=by
    rw[anc (by omega),anc (by omega)]at ht;exact ht
   exact⟨gv this,fr⟩
  |succ m=>
   have h1:i<L.length:=by omega
   have h2:i<M.length:=by omega
   have hlt:(i:Int)<L.length:=by omega
   have i1:∀h:AH,aF h 4 A (I i)=some (.cd (vC L[i]),h):=λh=>gY hA (nD h1) (cH _)
   have i2:∀h:AH,aF h 4 B (I i)=some (.cd (vC M[i]),h):=λh=>gY hB (nD h2) (cH _)
   have k1:cut (vC L[i]) 0 4=some (vC L[i]):=by
    have:=aM (α:=vC L[i]) (b:=[]) (n:=4) (cH _);rwa [am5]at this
   have k2:cut (vC M[i]) 0 4=some (vC M[i]):=by
    have:=aM (α:=vC M[i]) (b:=[]) (n:=4) (cH _);rwa [am5]at this
   have fr2:=fr.bump (k:=h'.nx+10) (by omega);simp[GD,l1,hlt,i1,k1];simp[Pp,i2,k2];refine adX _ _ (hw _ (anL h1)) ?_;refine⟨by simp,?_⟩;by_cases he:L[i]=M[i]
   ·rw[gv he];simp(disch:=first|go_size|fail)[];refine⟨m,by omega,?_⟩;exact .mk (i+1) (show i+1+m=L.length by omega) (g_ ht h1 h2 he) fr2
   ·rw[dZ he];simp[];simp[Fb];exact⟨dZ λe=>he (by simp only[e]),fr2⟩
 ·have hl':¬(L.length:Int)=M.length:=by omega
  simp[g33,l1,l2,hl'];exact⟨dZ λe=>hl (by rw[e]),Fr.refl h⟩
def e33:QE prog:=QE.fn 33 (λ_=>True) (fun(y:AV×AV×List Val×List Val)=>match y with|⟨A,B,L,M⟩=>[A,B]) (fun(y:AV×AV×List Val×List Val)(h:AH)=>match y with|⟨A,B,L,M⟩=>Sl (vCs L) A/\Sl (vCs M) B/\L.length<=2000000/\∀v∈L,WB v) (fun(y:AV×AV×List Val×List Val)=>match y with|⟨A,B,L,M⟩=>.bool (dq L M)) (λh y hj hx=>match y,hx with|⟨A,B,L,M⟩,hx=>W3 h A B L M hx)
theorem ad3{tl h}(A:AV)(B:AV)(L:List Val)(M:List Val){Q:QT}(hx:Sl (vCs L) A/\Sl (vCs M) B/\L.length<=2000000/\∀v∈L,WB v)(hq:Q (.bool (dq L M)) h):tb (e33::tl) 33 [A,B] h Q:=aV (A,B,L,M) trivial hx hq
@[simp ↓] theorem akR:TbT e33 33:=aH e33
def pd(p:Prop):Bool:= @decide p (Classical.propDecidable _)
theorem pN{p:Prop}(h:p):pd p=true:=by unfold pd;simp[h]
theorem ck{p:Prop}(h:¬p):pd p=false:=by unfold pd;simp[h]
def txG(i:Inp)(T CT CR C:AV):LA:=[I i.tk,T,CT,CR,I i.unit,I i.dir,.bool i.ext,I i.n,I i.a,I i.b,I i.x,I i.y,I i.oa,C,I i.tt]
def teF(i j:Inp):Prop:=i.tk=j.tk/\i.unit=j.unit/\i.dir=j.dir/\i.ext=j.ext/\i.n=j.n/\i.a=j.a/\i.b=j.b/\(i.x=j.x/\i.y=j.y)/\i.oa=j.oa/\i.tt=j.tt
def teE(i j:Inp):Prop:=(i.cls=j.cls/\i.t=j.t/\i.ct=j.ct/\i.cr=j.cr)/\teF i j
theorem aa1{cl:CL}{h h1:AH}{i j:Inp}{T CT CR C T' CT' CR' C':AV}(fr:Fr h h1)(d1:h1.ab h.nx=some (txG i T CT CR C))(d2:h1.ab (h.nx+1)=some (txG j T' CT' CR' C')):
  jo cl (.ptr h.nx 0) (.ptr (h.nx+1) 0) h1 λv h'=>v =.bool (pd (teF i j))/\Fr h h':=by
 have heq:bA [.int .i64,.int .i64] [I i.x,I i.y] [I j.x,I j.y]=some (decide (i.x=j.x/\i.y=j.y)):=by simp[bA,gn,aob]
 have i0:(txG i T CT CR C)[0]?=some (I i.tk):=rfl;have i4:(txG i T CT CR C)[4]?=some (I i.unit):=rfl;have i5:(txG i T CT CR C)[5]?=some (I i.dir):=rfl;have i6:(txG i T CT CR C)[6]?=some (.bool i.ext):=rfl;have i7:(txG i T CT CR C)[7]?=some (I i.n):=rfl;have i8:(txG i T CT CR C)[8]?=some (I i.a):=rfl;have i9:(txG i T CT CR C)[9]?=some (I i.b):=rfl;have i12:(txG i T CT CR C)[12]?=some (I i.oa):=rfl;have i14:(txG i T CT CR C)[14]?=some (I i.tt):=rfl;have ic:cut (txG i T CT CR C) 10 2=some [I i.x,I i.y]:=rfl;have j0:(txG j T' CT' CR' C')[0]?=some (I j.tk):=rfl;have j4:(txG j T' CT' CR' C')[4]?=some (I j.unit):=rfl;have j5:(txG j T' CT' CR' C')[5]?=some (I j.dir):=rfl;have j6:(txG j T' CT' CR' C')[6]?=some (.bool j.ext):=rfl;have j7:(txG j T' CT' CR' C')[7]?=some (I j.n):=rfl;have j8:(txG j T' CT' CR' C')[8]?=some (I j.a):=rfl;have j9:(txG j T' CT' CR' C')[9]?=some (I j.b):=rfl;have j12:(txG j T' CT' CR' C')[12]?=some (I j.oa):=rfl;have j14:(txG j T' CT' CR' C')[14]?=some (I j.tt):=rfl;have jc:cut (txG j T' CT' CR' C') 10 2=some [I j.x,I j.y]:=rfl;generalize txG i T CT CR C=X at*;generalize txG j T' CT' CR' C'=Y at*;by_cases q1:i.tk=j.tk
 rotate_left
 ·simp[jo,d1,d2,i0,i4,i5,i6,i7,i8,i9,i12,i14,j0,j4,j5,j6,j7,j8,j9,j12,j14,ic,jc,q1];simp[iE,d1,d2,i0,i4,i5,i6,i7,i8,i9,i12,i14,j0,j4,j5,j6,j7,j8,j9,j12,j14,ic,jc,q1];simp[iD,d1,d2,i0,i4,i5,i6,i7,i8,i9,i12,i14,j0,j4,j5,j6,j7,j8,j9,j12,j14,ic,jc,q1];simp[ku,d1,d2,i0,i4,i5,i6,i7,i8,i9,i12,i14,j0,j4,j5,j6,j7,j8,j9,j12,j14,ic,jc,q1];simp[kD,d1,d2,i0,i4,i5,i6,i7,i8,i9,i12,i14,j0,j4,j5,j6,j7,j8,j9,j12,j14,ic,jc,q1];simp[kE,d1,d2,i0,i4,i5,i6,i7,i8,i9,i12,i14,j0,j4,j5,j6,j7,j8,j9,j12,j14,ic,jc,q1];simp[kz,d1,d2,i0,i4,i5,i6,i7,i8,i9,i12,i14,j0,j4,j5,j6,j7,j8,j9,j12,j14,ic,jc,q1];simp[ky,d1,d2,i0,i4,i5,i6,i7,i8,i9,i12,i14,j0,j4,j5,j6,j7,j8,j9,j12,j14,ic,jc,q1];exact⟨ck (by simp only[teF,q1,an3,an5,anp]),fr⟩
 by_cases q2:i.unit=j.unit
 rotate_left
 ·simp[jo,d1,d2,i0,i4,i5,i6,i7,i8,i9,i12,i14,j0,j4,j5,j6,j7,j8,j9,j12,j14,ic,jc,q1,q2];simp[iE,d1,d2,i0,i4,i5,i6,i7,i8,i9,i12,i14,j0,j4,j5,j6,j7,j8,j9,j12,j14,ic,jc,q1,q2];simp[iD,d1,d2,i0,i4,i5,i6,i7,i8,i9,i12,i14,j0,j4,j5,j6,j7,j8,j9,j12,j14,ic,jc,q1,q2];simp[ku,d1,d2,i0,i4,i5,i6,i7,i8,i9,i12,i14,j0,j4,j5,j6,j7,j8,j9,j12,j14,ic,jc,q1,q2];simp[kD,d1,d2,i0,i4,i5,i6,i7,i8,i9,i12,i14,j0,j4,j5,j6,j7,j8,j9,j12,j14,ic,jc,q1,q2];simp[kE,d1,d2,i0,i4,i5,i6,i7,i8,i9,i12,i14,j0,j4,j5,j6,j7,j8,j9,j12,j14,ic,jc,q1,q2];simp[kz,d1,d2,i0,i4,i5,i6,i7,i8,i9,i12,i14,j0,j4,j5,j6,j7,j8,j9,j12,j14,ic,jc,q1,q2];simp[ky,d1,d2,i0,i4,i5,i6,i7,i8,i9,i12,i14,j0,j4,j5,j6,j7,j8,j9,j12,j14,ic,jc,q1,q2];exact⟨ck (by simp only[teF,q2,an3,an5,anp]),fr⟩
 by_cases q3:i.dir=j.dir
 rotate_left
 ·simp[jo,d1,d2,i0,i4,i5,i6,i7,i8,i9,i12,i14,j0,j4,j5,j6,j7,j8,j9,j12,j14,ic,jc,q1,q2,q3];simp[iE,d1,d2,i0,i4,i5,i6,i7,i8,i9,i12,i14,j0,j4,j5,j6,j7,j8,j9,j12,j14,ic,jc,q1,q2,q3];simp[iD,d1,d2,i0,i4,i5,i6,i7,i8,i9,i12,i14,j0,j4,j5,j6,j7,j8,j9,j12,j14,ic,jc,q1,q2,q3];simp[ku,d1,d2,i0,i4,i5,i6,i7,i8,i9,i12,i14,j0,j4,j5,j6,j7,j8,j9,j12,j14,ic,jc,q1,q2,q3];simp[kD,d1,d2,i0,i4,i5,i6,i7,i8,i9,i12,i14,j0,j4,j5,j6,j7,j8,j9,j12,j14,ic,jc,q1,q2,q3];simp[kE,d1,d2,i0,i4,i5,i6,i7,i8,i9,i12,i14,j0,j4,j5,j6,j7,j8,j9,j12,j14,ic,jc,q1,q2,q3];simp[kz,d1,d2,i0,i4,i5,i6,i7,i8,i9,i12,i14,j0,j4,j5,j6,j7,j8,j9,j12,j14,ic,jc,q1,q2,q3];simp[ky,d1,d2,i0,i4,i5,i6,i7,i8,i9,i12,i14,j0,j4,j5,j6,j7,j8,j9,j12,j14,ic,jc,q1,q2,q3];exact⟨ck (by simp only[teF,q3,an3,an5,anp]),fr⟩
 by_cases q4:i.ext=j.ext
 rotate_left
 ·simp[jo,d1,d2,i0,i4,i5,i6,i7,i8,i9,i12,i14,j0,j4,j5,j6,j7,j8,j9,j12,j14,ic,jc,q1,q2,q3,q4];simp[iE,d1,d2,i0,i4,i5,i6,i7,i8,i9,i12,i14,j0,j4,j5,j6,j7,j8,j9,j12,j14,ic,jc,q1,q2,q3,q4];simp[iD,d1,d2,i0,i4,i5,i6,i7,i8,i9,i12,i14,j0,j4,j5,j6,j7,j8,j9,j12,j14,ic,jc,q1,q2,q3,q4];simp[ku,d1,d2,i0,i4,i5,i6,i7,i8,i9,i12,i14,j0,j4,j5,j6,j7,j8,j9,j12,j14,ic,jc,q1,q2,q3,q4];simp[kD,d1,d2,i0,i4,i5,i6,i7,i8,i9,i12,i14,j0,j4,j5,j6,j7,j8,j9,j12,j14,ic,jc,q1,q2,q3,q4];simp[kE,d1,d2,i0,i4,i5,i6,i7,i8,i9,i12,i14,j0,j4,j5,j6,j7,j8,j9,j12,j14,ic,jc,q1,q2,q3,q4];simp[kz,d1,d2,i0,i4,i5,i6,i7,i8,i9,i12,i14,j0,j4,j5,j6,j7,j8,j9,j12,j14,ic,jc,q1,q2,q3,q4];simp[ky,d1,d2,i0,i4,i5,i6,i7,i8,i9,i12,i14,j0,j4,j5,j6,j7,j8,j9,j12,j14,ic,jc,q1,q2,q3,q4];exact⟨ck (by simp only[teF,q4,an3,an5,anp]),fr⟩
 by_cases q5:i.n=j.n
 rotate_left
 ·simp[jo,d1,d2,i0,i4,i5,i6,i7,i8,i9,i12,i14,j0,j4,j5,j6,j7,j8,j9,j12,j14,ic,jc,q1,q2,q3,q4,q5];simp[iE,d1,d2,i0,i4,i5,i6,i7,i8,i9,i12,i14,j0,j4,j5,j6,j7,j8,j9,j12,j14,ic,jc,q1,q2,q3,q4,q5];simp[iD,d1,d2,i0,i4,i5,i6,i7,i8,i9,i12,i14,j0,j4,j5,j6,j7,j8,j9,j12,j14,ic,jc,q1,q2,q3,q4,q5];simp[ku,d1,d2,i0,i4,i5,i6,i7,i8,i9,i12,i14,j0,j4,j5,j6,j7,j8,j9,j12,j14,ic,jc,q1,q2,q3,q4,q5];simp[kD,d1,d2,i0,i4,i5,i6,i7,i8,i9,i12,i14,j0,j4,j5,j6,j7,j8,j9,j12,j14,ic,jc,q1,q2,q3,q4,q5];simp[kE,d1,d2,i0,i4,i5,i6,i7,i8,i9,i12,i14,j0,j4,j5,j6,j7,j8,j9,j12,j14,ic,jc,q1,q2,q3,q4,q5];simp[kz,d1,d2,i0,i4,i5,i6,i7,i8,i9,i12,i14,j0,j4,j5,j6,j7,j8,j9,j12,j14,ic,jc,q1,q2,q3,q4,q5];simp[ky,d1,d2,i0,i4,i5,i6,i7,i8,i9,i12,i14,j0,j4,j5,j6,j7,j8,j9,j12,j14,ic,jc,q1,q2,q3,q4,q5];exact⟨ck (by simp only[teF,q5,an3,an5,anp]),fr⟩
 by_cases q6:i.a=j.a
 rotate_left
 ·simp[jo,d1,d2,i0,i4,i5,i6,i7,i8,i9,i12,i14,j0,j4,j5,j6,j7,j8,j9,j12,j14,ic,jc,q1,q2,q3,q4,q5,q6];simp[iE,d1,d2,i0,i4,i5,i6,i7,i8,i9,i12,i14,j0,j4,j5,j6,j7,j8,j9,j12,j14,ic,jc,q1,q2,q3,q4,q5,q6];simp[iD,d1,d2,i0,i4,i5,i6,i7,i8,i9,i12,i14,j0,j4,j5,j6,j7,j8,j9,j12,j14,ic,jc,q1,q2,q3,q4,q5,q6];simp[ku,d1,d2,i0,i4,i5,i6,i7,i8,i9,i12,i14,j0,j4,j5,j6,j7,j8,j9,j12,j14,ic,jc,q1,q2,q3,q4,q5,q6];simp[kD,d1,d2,i0,i4,i5,i6,i7,i8,i9,i12,i14,j0,j4,j5,j6,j7,j8,j9,j12,j14,ic,jc,q1,q2,q3,q4,q5,q6];simp[kE,d1,d2,i0,i4,i5,i6,i7,i8,i9,i12,i14,j0,j4,j5,j6,j7,j8,j9,j12,j14,ic,jc,q1,q2,q3,q4,q5,q6];simp[kz,d1,d2,i0,i4,i5,i6,i7,i8,i9,i12,i14,j0,j4,j5,j6,j7,j8,j9,j12,j14,ic,jc,q1,q2,q3,q4,q5,q6];simp[ky,d1,d2,i0,i4,i5,i6,i7,i8,i9,i12,i14,j0,j4,j5,j6,j7,j8,j9,j12,j14,ic,jc,q1,q2,q3,q4,q5,q6];exact⟨ck (by simp only[teF,q6,an3,an5,anp]),fr⟩
 by_cases q7:i.b=j.b
 rotate_left
 ·simp[jo,d1,d2,i0,i4,i5,i6,i7,i8,i9,i12,i14,j0,j4,j5,j6,j7,j8,j9,j12,j14,ic,jc,q1,q2,q3,q4,q5,q6,q7];simp[iE,d1,d2,i0,i4,i5,i6,i7,i8,i9,i12,i14,j0,j4,j5,j6,j7,j8,j9,j12,j14,ic,jc,q1,q2,q3,q4,q5,q6,q7];simp[iD,d1,d2,i0,i4,i5,i6,i7,i8,i9,i12,i14,j0,j4,j5,j6,j7,j8,j9,j12,j14,ic,jc,q1,q2,q3,q4,q5,q6,q7];simp[ku,d1,d2,i0,i4,i5,i6,i7,i8,i9,i12,i14,j0,j4,j5,j6,j7,j8,j9,j12,j14,ic,jc,q1,q2,q3,q4,q5,q6,q7];simp[kD,d1,d2,i0,i4,i5,i6,i7,i8,i9,i12,i14,j0,j4,j5,j6,j7,j8,j9,j12,j14,ic,jc,q1,q2,q3,q4,q5,q6,q7];simp[kE,d1,d2,i0,i4,i5,i6,i7,i8,i9,i12,i14,j0,j4,j5,j6,j7,j8,j9,j12,j14,ic,jc,q1,q2,q3,q4,q5,q6,q7];simp[kz,d1,d2,i0,i4,i5,i6,i7,i8,i9,i12,i14,j0,j4,j5,j6,j7,j8,j9,j12,j14,ic,jc,q1,q2,q3,q4,q5,q6,q7];simp[ky,d1,d2,i0,i4,i5,i6,i7,i8,i9,i12,i14,j0,j4,j5,j6,j7,j8,j9,j12,j14,ic,jc,q1,q2,q3,q4,q5,q6,q7];exact⟨ck (by simp only[teF,q7,an3,an5,anp]),fr⟩
 by_cases q8:i.x=j.x/\i.y=j.y
 rotate_left
 ·rw[anw q8]at heq;simp[jo,d1,d2,i0,i4,i5,i6,i7,i8,i9,i12,i14,j0,j4,j5,j6,j7,j8,j9,j12,j14,ic,jc,q1,q2,q3,q4,q5,q6,q7,heq];simp[iE,d1,d2,i0,i4,i5,i6,i7,i8,i9,i12,i14,j0,j4,j5,j6,j7,j8,j9,j12,j14,ic,jc,q1,q2,q3,q4,q5,q6,q7,heq];simp[iD,d1,d2,i0,i4,i5,i6,i7,i8,i9,i12,i14,j0,j4,j5,j6,j7,j8,j9,j12,j14,ic,jc,q1,q2,q3,q4,q5,q6,q7,heq];simp[ku,d1,d2,i0,i4,i5,i6,i7,i8,i9,i12,i14,j0,j4,j5,j6,j7,j8,j9,j12,j14,ic,jc,q1,q2,q3,q4,q5,q6,q7,heq];simp[kD,d1,d2,i0,i4,i5,i6,i7,i8,i9,i12,i14,j0,j4,j5,j6,j7,j8,j9,j12,j14,ic,jc,q1,q2,q3,q4,q5,q6,q7,heq];simp[kE,d1,d2,i0,i4,i5,i6,i7,i8,i9,i12,i14,j0,j4,j5,j6,j7,j8,j9,j12,j14,ic,jc,q1,q2,q3,q4,q5,q6,q7,heq];simp[kz,d1,d2,i0,i4,i5,i6,i7,i8,i9,i12,i14,j0,j4,j5,j6,j7,j8,j9,j12,j14,ic,jc,q1,q2,q3,q4,q5,q6,q7,heq];simp[ky,d1,d2,i0,i4,i5,i6,i7,i8,i9,i12,i14,j0,j4,j5,j6,j7,j8,j9,j12,j14,ic,jc,q1,q2,q3,q4,q5,q6,q7,heq];exact⟨ck (by simp only[teF,q8,an3,an5,anp]),fr⟩
 rw[anA q8]at heq;by_cases q9:i.oa=j.oa
 rotate_left
 ·simp[jo,d1,d2,i0,i4,i5,i6,i7,i8,i9,i12,i14,j0,j4,j5,j6,j7,j8,j9,j12,j14,ic,jc,q1,q2,q3,q4,q5,q6,q7,heq,q9];simp[iE,d1,d2,i0,i4,i5,i6,i7,i8,i9,i12,i14,j0,j4,j5,j6,j7,j8,j9,j12,j14,ic,jc,q1,q2,q3,q4,q5,q6,q7,heq,q9];simp[iD,d1,d2,i0,i4,i5,i6,i7,i8,i9,i12,i14,j0,j4,j5,j6,j7,j8,j9,j12,j14,ic,jc,q1,q2,q3,q4,q5,q6,q7,heq,q9];simp[ku,d1,d2,i0,i4,i5,i6,i7,i8,i9,i12,i14,j0,j4,j5,j6,j7,j8,j9,j12,j14,ic,jc,q1,q2,q3,q4,q5,q6,q7,heq,q9];simp[kD,d1,d2,i0,i4,i5,i6,i7,i8,i9,i12,i14,j0,j4,j5,j6,j7,j8,j9,j12,j14,ic,jc,q1,q2,q3,q4,q5,q6,q7,heq,q9];simp[kE,d1,d2,i0,i4,i5,i6,i7,i8,i9,i12,i14,j0,j4,j5,j6,j7,j8,j9,j12,j14,ic,jc,q1,q2,q3,q4,q5,q6,q7,heq,q9];simp[kz,d1,d2,i0,i4,i5,i6,i7,i8,i9,i12,i14,j0,j4,j5,j6,j7,j8,j9,j12,j14,ic,jc,q1,q2,q3,q4,q5,q6,q7,heq,q9];simp[ky,d1,d2,i0,i4,i5,i6,i7,i8,i9,i12,i14,j0,j4,j5,j6,j7,j8,j9,j12,j14,ic,jc,q1,q2,q3,q4,q5,q6,q7,heq,q9];exact⟨ck (by simp only[teF,q9,an3,an5,anp]),fr⟩
 by_cases qa:i.tt=j.tt
 rotate_left
 ·simp[jo,d1,d2,i0,i4,i5,i6,i7,i8,i9,i12,i14,j0,j4,j5,j6,j7,j8,j9,j12,j14,ic,jc,q1,q2,q3,q4,q5,q6,q7,heq,q9,qa];simp[iE,d1,d2,i0,i4,i5,i6,i7,i8,i9,i12,i14,j0,j4,j5,j6,j7,j8,j9,j12,j14,ic,jc,q1,q2,q3,q4,q5,q6,q7,heq,q9,qa];simp[iD,d1,d2,i0,i4,i5,i6,i7,i8,i9,i12,i14,j0,j4,j5,j6,j7,j8,j9,j12,j14,ic,jc,q1,q2,q3,q4,q5,q6,q7,heq,q9,qa];simp[ku,d1,d2,i0,i4,i5,i6,i7,i8,i9,i12,i14,j0,j4,j5,j6,j7,j8,j9,j12,j14,ic,jc,q1,q2,q3,q4,q5,q6,q7,heq,q9,qa];simp[kD,d1,d2,i0,i4,i5,i6,i7,i8,i9,i12,i14,j0,j4,j5,j6,j7,j8,j9,j12,j14,ic,jc,q1,q2,q3,q4,q5,q6,q7,heq,q9,qa];simp[kE,d1,d2,i0,i4,i5,i6,i7,i8,i9,i12,i14,j0,j4,j5,j6,j7,j8,j9,j12,j14,ic,jc,q1,q2,q3,q4,q5,q6,q7,heq,q9,qa];simp[kz,d1,d2,i0,i4,i5,i6,i7,i8,i9,i12,i14,j0,j4,j5,j6,j7,j8,j9,j12,j14,ic,jc,q1,q2,q3,q4,q5,q6,q7,heq,q9,qa];simp[ky,d1,d2,i0,i4,i5,i6,i7,i8,i9,i12,i14,j0,j4,j5,j6,j7,j8,j9,j12,j14,ic,jc,q1,q2,q3,q4,q5,q6,q7,heq,q9,qa];exact⟨by rw[ck (by simp only[teF,qa,an3,an5,anp])];simpa using qa,fr⟩
 simp[jo,d1,d2,i0,i4,i5,i6,i7,i8,i9,i12,i14,j0,j4,j5,j6,j7,j8,j9,j12,j14,ic,jc,q1,q2,q3,q4,q5,q6,q7,heq,q9,qa];simp[iE,d1,d2,i0,i4,i5,i6,i7,i8,i9,i12,i14,j0,j4,j5,j6,j7,j8,j9,j12,j14,ic,jc,q1,q2,q3,q4,q5,q6,q7,heq,q9,qa];simp[iD,d1,d2,i0,i4,i5,i6,i7,i8,i9,i12,i14,j0,j4,j5,j6,j7,j8,j9,j12,j14,ic,jc,q1,q2,q3,q4,q5,q6,q7,heq,q9,qa];simp[ku,d1,d2,i0,i4,i5,i6,i7,i8,i9,i12,i14,j0,j4,j5,j6,j7,j8,j9,j12,j14,ic,jc,q1,q2,q3,q4,q5,q6,q7,heq,q9,qa];simp[kD,d1,d2,i0,i4,i5,i6,i7,i8,i9,i12,i14,j0,j4,j5,j6,j7,j8,j9,j12,j14,ic,jc,q1,q2,q3,q4,q5,q6,q7,heq,q9,qa];simp[kE,d1,d2,i0,i4,i5,i6,i7,i8,i9,i12,i14,j0,j4,j5,j6,j7,j8,j9,j12,j14,ic,jc,q1,q2,q3,q4,q5,q6,q7,heq,q9,qa];simp[kz,d1,d2,i0,i4,i5,i6,i7,i8,i9,i12,i14,j0,j4,j5,j6,j7,j8,j9,j12,j14,ic,jc,q1,q2,q3,q4,q5,q6,q7,heq,q9,qa];simp[ky,d1,d2,i0,i4,i5,i6,i7,i8,i9,i12,i14,j0,j4,j5,j6,j7,j8,j9,j12,j14,ic,jc,q1,q2,q3,q4,q5,q6,q7,heq,q9,qa];exact⟨pN ⟨q1,q2,q3,q4,q5,q6,q7,q8,q9,qa⟩,fr⟩
inductive Q34(h:AH)(X Y:List AV)(C C':AV)(L N:List (Int×Bool)):Nat->List AV->AH->Prop
 |mk {m:Nat} {h':AH} (i:Nat):i+m=L.length->L.take i=N.take i->Fr h h'->h'.ab h.nx=some X->h'.ab (h.nx+1)=some Y->h.nx+2<=h'.nx->Q34 h X Y C C' L N m [.ptr h.nx 0,.ptr (h.nx+1) 0,I i] h'
theorem TY(h:AH)(i j:Inp)(T CT CR C T' CT' CR' C':AV)(hx:(Sl (rnC i.t) T/\Sl (rnC i.ct) CT/\Sl (chC i.cr) CR/\Sl (cbC i.cls) C)/\(Sl (rnC j.t) T'/\Sl (rnC j.ct) CT'/\Sl (chC j.cr) CR'/\Sl (cbC j.cls) C')/\i.t.length<=1000000/\i.ct.length<=1000000/\i.cr.length<=1000000/\i.cls.length<=2000000):aK prog 34 [.agg (txG i T CT CR C),.agg (txG j T' CT' CR' C')] h (.bool (pd (teE i j))) h:=by
 obtain⟨⟨hT,hCT,hCR,hC⟩,⟨hT',XC,Xx,hC'⟩,b1,b2,b3,b4⟩:=hx;refine kM (λ_=>.bool _) (C34 (aW [e78,e79]) ?_);have o1:dj (txG i T CT CR C)=true:=by
  have a1:=ib hT;have a2:=ib hCT;have a3:=ib hCR;have a4:=ib hC;simp only[txG,dj,aoE,a1,a2,a3,a4];rfl
 have o2:dj (txG j T' CT' CR' C')=true:=by
  have a1:=ib hT';have a2:=ib XC;have a3:=ib Xx;have a4:=ib hC';simp only[txG,dj,aoE,a1,a2,a3,a4];rfl
 have x13:(txG i T CT CR C)[13]?=some C:=rfl;have x1:(txG i T CT CR C)[1]?=some T:=rfl;have xc:cut (txG i T CT CR C) 2 2=some [CT,CR]:=rfl;have y13:(txG j T' CT' CR' C')[13]?=some C':=rfl;have y1:(txG j T' CT' CR' C')[1]?=some T':=rfl;have yc:cut (txG j T' CT' CR' C') 2 2=some [CT',CR']:=rfl;simp[g34];have fr:Fr h ((h.add (.cells (txG i T CT CR C))).add (.cells (txG j T' CT' CR' C'))):=((Fr.refl h).add _).add _;have c1:((h.add (.cells (txG i T CT CR C))).add (.cells (txG j T' CT' CR' C'))).ab h.nx=some (txG i T CT CR C):=by rw[aC _ _ _ (by simp)];exact aj _ _ _ rfl
 have c2:((h.add (.cells (txG i T CT CR C))).add (.cells (txG j T' CT' CR' C'))).ab (h.nx+1)=some (txG j T' CT' CR' C'):=aj _ _ _ (by simp);have hn:h.nx+2<=((h.add (.cells (txG i T CT CR C))).add (.cells (txG j T' CT' CR' C'))).nx:=by simp
 generalize(h.add (.cells (txG i T CT CR C))).add (.cells (txG j T' CT' CR' C'))=h1 at*;have l1:∀h:AH,bh h C=some (I i.cls.length,h):=λh=>by rw[gW hC];simp[cbC]
 have l2:∀h:AH,bh h C'=some (I j.cls.length,h):=λh=>by rw[gW hC'];simp[cbC]
 obtain⟨fl,hfl⟩:∃fl,fl=(decide (i.cls.length≠j.cls.length)||(!(dq i.t j.t) || !(dq i.ct j.ct&&dq i.cr j.cr))):=⟨_,rfl⟩;have ajP:= @aa1 (tb [e78,e79]) h;refine⟨λvs h2=>vs=[.ptr h.nx 0,.ptr (h.nx+1) 0,.bool fl]/\h2=h1,?_,?_⟩
 ·by_cases hl:i.cls.length=j.cls.length
  ·have hl':(i.cls.length:Int)=j.cls.length:=by omega
   rw[anw (by simpa using hl),anF]at hfl;simp[H5,c1,c2,x13,y13,l1,l2,hl'];simp[Fa,c1,c2,x1,y1];refine YC T T' i.t j.t ⟨hT,hT',b1⟩ ?_;cases hq:dq i.t j.t
   ·rw[hq]at hfl;simp[];simp[Av,hfl]
   ·rw[hq]at hfl;simp[c1,xc];simp[Av,c2,yc];refine afp CT CR CT' CR' i.ct i.cr j.ct j.cr ⟨hCT,hCR,XC,Xx,b2,b3⟩ ?_;rw[hfl];simp[]
  ·have hl':¬(i.cls.length:Int)=j.cls.length:=by omega
   rw[anA hl,anR]at hfl;simp[H5,c1,c2,x13,y13,l1,l2,hl'];simp[Fa];simp[Av,hfl]
 ·rintro vs h2 ⟨rfl,rfl⟩;cases hf:fl
  ·rw[hf]at hfl;have hfl:=hfl.symm;simp only[anC,aoF,ano,amZ,ne_eq,aos]at hfl;obtain⟨hl,ht,hct,hcr⟩:=hfl;have dqe:∀ {α:Type} {a b:α},dq a b=true->a=b:=fun {α a b} e=>by unfold dq at e;simpa using e
   have ht:=dqe ht;have hct:=dqe hct;have hcr:=dqe hcr;simp[GU];refine⟨Q34 h (txG i T CT CR C) (txG j T' CT' CR' C') C C' i.cls j.cls,i.cls.length,.mk 0 (by simp) rfl fr c1 c2 hn,?_⟩;clear c1 c2 fr hn;rintro m vs h' ⟨q,him,hq,fr,c1,c2,hn⟩;cases m with
   |zero=>
    have hlt:¬(q:Int)<i.cls.length:=by omega
    simp[Ip,c1,x13,l1,hlt];unfold H3;simp[];have xR:i.cls=j.cls:=by
     rw[anc (by omega),anc (by omega)]at hq;exact hq
    have:=ajP (i:=i) (j:=j) (T:=T) (CT:=CT) (CR:=CR) (C:=C) (T':=T') (CT':=CT') (CR':=CR') (C':=C') fr c1 c2;have e:pd (teE i j)=pd (teF i j):=by
     by_cases hp:teF i j
     ·rw[pN hp,pN ⟨⟨xR,ht,hct,hcr⟩,hp⟩]
     ·rw[ck hp,ck λe=>hp e.2]
    rw[e];exact this
   |succ m=>
    have h1:q<i.cls.length:=by omega
    have h2:q<j.cls.length:=by omega
    have hlt:(q:Int)<i.cls.length:=by omega
    have i1:∀h:AH,aF h 2 C (I q)=some (.cd [I i.cls[q].1,.bool i.cls[q].2],h):=λh=>gY hC (by simp[cbC,h1]) rfl
    have i2:∀h:AH,aF h 2 C' (I q)=some (.cd [I j.cls[q].1,.bool j.cls[q].2],h):=λh=>gY hC' (by simp[cbC,h2]) rfl
    have fr2:=fr.bump (k:=h'.nx+11) (by omega);simp[Ip,c1,x13,l1,hlt,i1];have heq:bA [.int .i64,.bool] [I i.cls[q].1,.bool i.cls[q].2] [I j.cls[q].1,.bool j.cls[q].2]=some (i.cls[q].1==j.cls[q].1&&i.cls[q].2==j.cls[q].2):=by simp[bA,gn]
    by_cases he:i.cls[q]=j.cls[q]
    ·have hb:(i.cls[q].1==j.cls[q].1&&i.cls[q].2==j.cls[q].2)=true:=by rw[he];simp
     rw[hb]at heq;simp(disch:=first|go_size|fail)[IP,c2,y13,i2,heq];simp(disch:=first|go_size|fail)[TK];exact⟨m,by omega,.mk (q+1) (show q+1+m=i.cls.length by omega) (g_ hq h1 h2 he) fr2 c1 c2 (by simp;omega)⟩
    ·have hb:(i.cls[q].1==j.cls[q].1&&i.cls[q].2==j.cls[q].2)=false:=by
      rw[Bool.eq_false_iff];intro e;simp only[amZ,an2]at e;exact he (Prod.ext e.1 e.2)
     rw[hb]at heq;simp[IP,c2,y13,i2,heq];simp[H3];exact⟨ck λe=>he (by simp only[e.1.1]),fr2⟩
  ·rw[hf]at hfl;simp[GU];refine⟨ck ?_,fr⟩;rintro⟨⟨e1,e2,e3,e4⟩,_⟩;rw[gv e2,gv e3,gv e4,e1]at hfl;simp at hfl
def e34:QE prog:=QE.fn 34 (λ_=>True) (fun(y:Inp×Inp×AV×AV×AV×AV×AV×AV×AV×AV)=>match y with|⟨i,j,T,CT,CR,C,T',CT',CR',C'⟩=>[.agg (txG i T CT CR C),.agg (txG j T' CT' CR' C')]) (fun(y:Inp×Inp×AV×AV×AV×AV×AV×AV×AV×AV)(h:AH)=>match y with|⟨i,j,T,CT,CR,C,T',CT',CR',C'⟩=>(Sl (rnC i.t) T/\Sl (rnC i.ct) CT/\Sl (chC i.cr) CR/\Sl (cbC i.cls) C)/\(Sl (rnC j.t) T'/\Sl (rnC j.ct) CT'/\Sl (chC j.cr) CR'/\Sl (cbC j.cls) C')/\i.t.length<=1000000/\i.ct.length<=1000000/\i.cr.length<=1000000/\i.cls.length<=2000000) (fun(y:Inp×Inp×AV×AV×AV×AV×AV×AV×AV×AV)=>match y with|⟨i,j,T,CT,CR,C,T',CT',CR',C'⟩=>.bool (pd (teE i j))) (λh y hj hx=>match y,hx with|⟨i,j,T,CT,CR,C,T',CT',CR',C'⟩,hx=>TY h i j T CT CR C T' CT' CR' C' hx)
theorem ad7{tl h}(i:Inp)(j:Inp)(T:AV)(CT:AV)(CR:AV)(C:AV)(T':AV)(CT':AV)(CR':AV)(C':AV){Q:QT}(hx:(Sl (rnC i.t) T/\Sl (rnC i.ct) CT/\Sl (chC i.cr) CR/\Sl (cbC i.cls) C)/\(Sl (rnC j.t) T'/\Sl (rnC j.ct) CT'/\Sl (chC j.cr) CR'/\Sl (cbC j.cls) C')/\i.t.length<=1000000/\i.ct.length<=1000000/\i.cr.length<=1000000/\i.cls.length<=2000000)(hq:Q (.bool (pd (teE i j))) h):tb (e34::tl) 34 [.agg (txG i T CT CR C),.agg (txG j T' CT' CR' C')] h Q:=aV (i,j,T,CT,CR,C,T',CT',CR',C') trivial hx hq
def eqI(i j:Inp):Prop:=i.kind=j.kind/\(i.pk=j.pk/\i.pid=j.pid/\i.px=j.px/\i.py=j.py/\i.pt=j.pt/\i.pw=j.pw)/\(i.key=j.key/\i.mM=j.mM)/\i.time=j.time/\(i.sw=j.sw/\i.sh=j.sh)/\(i.nP=j.nP/\i.high=j.high/\i.scale=j.scale)/\i.args=j.args/\(i.ver=j.ver/\i.node=j.node/\i.act=j.act/\i.frm=j.frm/\i.too=j.too/\i.rt=j.rt)/\teE i j
theorem JS(i j:Inp):eqI i j↔i=j:=by
 constructor
 ·rintro⟨h1,⟨h2,h3,h4,h5,h6,h7⟩,⟨h8,h9⟩,h10,⟨h11,h12⟩,⟨h13,h14,h15⟩,h16,⟨h17,h18,h19,h20,h21,h22⟩,⟨h23,h24,h25,h26⟩,h27,h28,h29,h30,h31,h32,h33,⟨h34,h35⟩,h36,h37⟩;cases i;cases j;simp only at*;subst h1 h2 h3 h4 h5 h6 h7 h8 h9 h10 h11 h12 h13 h14 h15 h16 h17 h18 h19 h20 h21 h22 h23 h24 h25 h26 h27 h28 h29 h30 h31 h32 h33 h34 h35 h36 h37;rfl
 ·rintro rfl;simp[eqI,teE,teF]
structure InB(i:Inp):Prop where
 args:i.args.length<=2000000
 wb:∀v∈i.args,WB v
 t:i.t.length<=1000000
 ct:i.ct.length<=1000000
 cr:i.cr.length<=1000000
 cls:i.cls.length<=2000000
theorem V7(h:AH)(i j:Inp)(cs ds:LA)(hx:InC i cs/\InC j ds/\InB i):aK prog 18 [.agg cs,.agg ds] h (.bool (dq i j)) h:=by
 obtain⟨⟨A,T,CT,CR,C,rfl,hA,hT,hCT,hCR,hC⟩,⟨A',T',CT',CR',C',rfl,hA',hT',XC,Xx,hC'⟩,hB⟩:=hx;have e0:dq i j=pd (eqI i j):=by
  by_cases he:i=j
  ·rw[gv he,pN ((JS i j).2 he)]
  ·rw[dZ he,ck λe=>he ((JS i j).1 e)]
 rw[e0];refine kM (λ_=>.bool _) (C18 (aW [e33,e34]) ?_);have zI:Sl (vCs i.args) A/\Sl (vCs j.args) A'/\i.args.length<=2000000/\∀v∈i.args,WB v:=⟨hA,hA',hB.args,hB.wb⟩;have htx:(Sl (rnC i.t) T/\Sl (rnC i.ct) CT/\Sl (chC i.cr) CR/\Sl (cbC i.cls) C)/\(Sl (rnC j.t) T'/\Sl (rnC j.ct) CT'/\Sl (chC j.cr) CR'/\Sl (cbC j.cls) C')/\i.t.length<=1000000/\i.ct.length<=1000000/\i.cr.length<=1000000/\i.cls.length<=2000000:=⟨⟨hT,hCT,hCR,hC⟩,⟨hT',XC,Xx,hC'⟩,hB.t,hB.ct,hB.cr,hB.cls⟩;simp[g18];have fr:Fr h ((h.add (.cells (inG i A T CT CR C))).add (.cells (inG j A' T' CT' CR' C'))):=((Fr.refl h).add _).add _;have d1:((h.add (.cells (inG i A T CT CR C))).add (.cells (inG j A' T' CT' CR' C'))).ab h.nx=some (inG i A T CT CR C):=by rw[aC _ _ _ (by simp)];exact aj _ _ _ rfl
 have d2:((h.add (.cells (inG i A T CT CR C))).add (.cells (inG j A' T' CT' CR' C'))).ab (h.nx+1)=some (inG j A' T' CT' CR' C'):=aj _ _ _ (by simp);generalize(h.add (.cells (inG i A T CT CR C))).add (.cells (inG j A' T' CT' CR' C'))=h1 at*;have i0:(inG i A T CT CR C)[0]?=some (I i.kind):=rfl;have i9:(inG i A T CT CR C)[9]?=some (I i.time):=rfl;have i15:(inG i A T CT CR C)[15]?=some A:=rfl;have ip:cut (inG i A T CT CR C) 1 6=some [I i.pk,I i.pid,I i.px,I i.py,I i.pt,I i.pw]:=rfl;have ik:cut (inG i A T CT CR C) 7 2=some [I i.key,I i.mM]:=rfl;have iz:cut (inG i A T CT CR C) 10 2=some [I i.sw,I i.sh]:=rfl;have im:cut (inG i A T CT CR C) 12 3=some [.bool i.nP,.bool i.high,I i.scale]:=rfl;have ir:cut (inG i A T CT CR C) 16 6=some [I i.ver,I i.node,I i.act,I i.frm,I i.too,.str i.rt]:=rfl;have it:cut (inG i A T CT CR C) 22 15=some (txG i T CT CR C):=rfl;have j0:(inG j A' T' CT' CR' C')[0]?=some (I j.kind):=rfl;have j9:(inG j A' T' CT' CR' C')[9]?=some (I j.time):=rfl;have j15:(inG j A' T' CT' CR' C')[15]?=some A':=rfl;have jp:cut (inG j A' T' CT' CR' C') 1 6=some [I j.pk,I j.pid,I j.px,I j.py,I j.pt,I j.pw]:=rfl;have jk:cut (inG j A' T' CT' CR' C') 7 2=some [I j.key,I j.mM]:=rfl;have jz:cut (inG j A' T' CT' CR' C') 10 2=some [I j.sw,I j.sh]:=rfl;have jm:cut (inG j A' T' CT' CR' C') 12 3=some [.bool j.nP,.bool j.high,I j.scale]:=rfl;have jr:cut (inG j A' T' CT' CR' C') 16 6=some [I j.ver,I j.node,I j.act,I j.frm,I j.too,.str j.rt]:=rfl;have jt:cut (inG j A' T' CT' CR' C') 22 15=some (txG j T' CT' CR' C'):=rfl
 have ep:bA [.int .i64,.int .i64,.int .i64,.int .i64,.int .i64,.int .i64] [I i.pk,I i.pid,I i.px,I i.py,I i.pt,I i.pw] [I j.pk,I j.pid,I j.px,I j.py,I j.pt,I j.pw]=some (decide (i.pk=j.pk/\i.pid=j.pid/\i.px=j.px/\i.py=j.py/\i.pt=j.pt/\i.pw=j.pw)):=by simp[bA,gn,aob]
 have ek:bA [.int .i64,.int .i64] [I i.key,I i.mM] [I j.key,I j.mM]=some (decide (i.key=j.key/\i.mM=j.mM)):=by simp[bA,gn,aob]
 have ez:bA [.int .i64,.int .i64] [I i.sw,I i.sh] [I j.sw,I j.sh]=some (decide (i.sw=j.sw/\i.sh=j.sh)):=by simp[bA,gn,aob]
 have em:bA [.bool,.bool,.int .i64] [.bool i.nP,.bool i.high,I i.scale] [.bool j.nP,.bool j.high,I j.scale]=some (decide (i.nP=j.nP/\i.high=j.high/\i.scale=j.scale)):=by simp[bA,gn,aob]
 have er:bA [.int .i64,.int .i64,.int .i64,.int .i64,.int .i64,.str] [I i.ver,I i.node,I i.act,I i.frm,I i.too,.str i.rt] [I j.ver,I j.node,I j.act,I j.frm,I j.too,.str j.rt]=some (decide (i.ver=j.ver/\i.node=j.node/\i.act=j.act/\i.frm=j.frm/\i.too=j.too/\i.rt=j.rt)):=by simp[bA,gn,aob]
 generalize inG i A T CT CR C=X at*;generalize inG j A' T' CT' CR' C'=Y at*;by_cases q1:i.kind=j.kind
 rotate_left
 ·simp[d1,d2,i0,i9,i15,ip,ik,iz,im,ir,it,j0,j9,j15,jp,jk,jz,jm,jr,jt,q1];simp[oP,d1,d2,i0,i9,i15,ip,ik,iz,im,ir,it,j0,j9,j15,jp,jk,jz,jm,jr,jt,q1];simp[oN,d1,d2,i0,i9,i15,ip,ik,iz,im,ir,it,j0,j9,j15,jp,jk,jz,jm,jr,jt,q1];simp[o9,d1,d2,i0,i9,i15,ip,ik,iz,im,ir,it,j0,j9,j15,jp,jk,jz,jm,jr,jt,q1];simp[oL,d1,d2,i0,i9,i15,ip,ik,iz,im,ir,it,j0,j9,j15,jp,jk,jz,jm,jr,jt,q1];simp[o5,d1,d2,i0,i9,i15,ip,ik,iz,im,ir,it,j0,j9,j15,jp,jk,jz,jm,jr,jt,q1];simp[mK,d1,d2,i0,i9,i15,ip,ik,iz,im,ir,it,j0,j9,j15,jp,jk,jz,jm,jr,jt,q1];exact⟨ck (by simp only[eqI,q1,an3,an5,anp]),fr⟩
 by_cases q2:i.pk=j.pk/\i.pid=j.pid/\i.px=j.px/\i.py=j.py/\i.pt=j.pt/\i.pw=j.pw
 rotate_left
 ·rw[anw q2]at ep;simp[d1,d2,i0,i9,i15,ip,ik,iz,im,ir,it,j0,j9,j15,jp,jk,jz,jm,jr,jt,q1,ep];simp[oP,d1,d2,i0,i9,i15,ip,ik,iz,im,ir,it,j0,j9,j15,jp,jk,jz,jm,jr,jt,q1,ep];simp[oN,d1,d2,i0,i9,i15,ip,ik,iz,im,ir,it,j0,j9,j15,jp,jk,jz,jm,jr,jt,q1,ep];simp[o9,d1,d2,i0,i9,i15,ip,ik,iz,im,ir,it,j0,j9,j15,jp,jk,jz,jm,jr,jt,q1,ep];simp[oL,d1,d2,i0,i9,i15,ip,ik,iz,im,ir,it,j0,j9,j15,jp,jk,jz,jm,jr,jt,q1,ep];simp[o5,d1,d2,i0,i9,i15,ip,ik,iz,im,ir,it,j0,j9,j15,jp,jk,jz,jm,jr,jt,q1,ep];simp[mK,d1,d2,i0,i9,i15,ip,ik,iz,im,ir,it,j0,j9,j15,jp,jk,jz,jm,jr,jt,q1,ep];exact⟨ck (by simp only[eqI,q2,an3,an5,anp]),fr⟩
 rw[anA q2]at ep;by_cases q3:i.key=j.key/\i.mM=j.mM
 rotate_left
 ·rw[anw q3]at ek;simp[d1,d2,i0,i9,i15,ip,ik,iz,im,ir,it,j0,j9,j15,jp,jk,jz,jm,jr,jt,q1,ep,ek];simp[oP,d1,d2,i0,i9,i15,ip,ik,iz,im,ir,it,j0,j9,j15,jp,jk,jz,jm,jr,jt,q1,ep,ek];simp[oN,d1,d2,i0,i9,i15,ip,ik,iz,im,ir,it,j0,j9,j15,jp,jk,jz,jm,jr,jt,q1,ep,ek];simp[o9,d1,d2,i0,i9,i15,ip,ik,iz,im,ir,it,j0,j9,j15,jp,jk,jz,jm,jr,jt,q1,ep,ek];simp[oL,d1,d2,i0,i9,i15,ip,ik,iz,im,ir,it,j0,j9,j15,jp,jk,jz,jm,jr,jt,q1,ep,ek];simp[o5,d1,d2,i0,i9,i15,ip,ik,iz,im,ir,it,j0,j9,j15,jp,jk,jz,jm,jr,jt,q1,ep,ek];simp[mK,d1,d2,i0,i9,i15,ip,ik,iz,im,ir,it,j0,j9,j15,jp,jk,jz,jm,jr,jt,q1,ep,ek];exact⟨ck (by simp only[eqI,q3,an3,an5,anp]),fr⟩
 rw[anA q3]at ek;by_cases q4:i.time=j.time
 rotate_left
 ·simp[d1,d2,i0,i9,i15,ip,ik,iz,im,ir,it,j0,j9,j15,jp,jk,jz,jm,jr,jt,q1,ep,ek,q4];simp[oP,d1,d2,i0,i9,i15,ip,ik,iz,im,ir,it,j0,j9,j15,jp,jk,jz,jm,jr,jt,q1,ep,ek,q4];simp[oN,d1,d2,i0,i9,i15,ip,ik,iz,im,ir,it,j0,j9,j15,jp,jk,jz,jm,jr,jt,q1,ep,ek,q4];simp[o9,d1,d2,i0,i9,i15,ip,ik,iz,im,ir,it,j0,j9,j15,jp,jk,jz,jm,jr,jt,q1,ep,ek,q4];simp[oL,d1,d2,i0,i9,i15,ip,ik,iz,im,ir,it,j0,j9,j15,jp,jk,jz,jm,jr,jt,q1,ep,ek,q4];simp[o5,d1,d2,i0,i9,i15,ip,ik,iz,im,ir,it,j0,j9,j15,jp,jk,jz,jm,jr,jt,q1,ep,ek,q4];simp[mK,d1,d2,i0,i9,i15,ip,ik,iz,im,ir,it,j0,j9,j15,jp,jk,jz,jm,jr,jt,q1,ep,ek,q4];exact⟨ck (by simp only[eqI,q4,an3,an5,anp]),fr⟩
 by_cases q5:i.sw=j.sw/\i.sh=j.sh
 rotate_left
 ·rw[anw q5]at ez;simp[d1,d2,i0,i9,i15,ip,ik,iz,im,ir,it,j0,j9,j15,jp,jk,jz,jm,jr,jt,q1,ep,ek,q4,ez];simp[oP,d1,d2,i0,i9,i15,ip,ik,iz,im,ir,it,j0,j9,j15,jp,jk,jz,jm,jr,jt,q1,ep,ek,q4,ez];simp[oN,d1,d2,i0,i9,i15,ip,ik,iz,im,ir,it,j0,j9,j15,jp,jk,jz,jm,jr,jt,q1,ep,ek,q4,ez];simp[o9,d1,d2,i0,i9,i15,ip,ik,iz,im,ir,it,j0,j9,j15,jp,jk,jz,jm,jr,jt,q1,ep,ek,q4,ez];simp[oL,d1,d2,i0,i9,i15,ip,ik,iz,im,ir,it,j0,j9,j15,jp,jk,jz,jm,jr,jt,q1,ep,ek,q4,ez];simp[o5,d1,d2,i0,i9,i15,ip,ik,iz,im,ir,it,j0,j9,j15,jp,jk,jz,jm,jr,jt,q1,ep,ek,q4,ez];simp[mK,d1,d2,i0,i9,i15,ip,ik,iz,im,ir,it,j0,j9,j15,jp,jk,jz,jm,jr,jt,q1,ep,ek,q4,ez];exact⟨ck (by simp only[eqI,q5,an3,an5,anp]),fr⟩
 rw[anA q5]at ez;by_cases q6:i.nP=j.nP/\i.high=j.high/\i.scale=j.scale
 rotate_left
 ·rw[anw q6]at em;simp[d1,d2,i0,i9,i15,ip,ik,iz,im,ir,it,j0,j9,j15,jp,jk,jz,jm,jr,jt,q1,ep,ek,q4,ez,em];simp[oP,d1,d2,i0,i9,i15,ip,ik,iz,im,ir,it,j0,j9,j15,jp,jk,jz,jm,jr,jt,q1,ep,ek,q4,ez,em];simp[oN,d1,d2,i0,i9,i15,ip,ik,iz,im,ir,it,j0,j9,j15,jp,jk,jz,jm,jr,jt,q1,ep,ek,q4,ez,em];simp[o9,d1,d2,i0,i9,i15,ip,ik,iz,im,ir,it,j0,j9,j15,jp,jk,jz,jm,jr,jt,q1,ep,ek,q4,ez,em];simp[oL,d1,d2,i0,i9,i15,ip,ik,iz,im,ir,it,j0,j9,j15,jp,jk,jz,jm,jr,jt,q1,ep,ek,q4,ez,em];simp[o5,d1,d2,i0,i9,i15,ip,ik,iz,im,ir,it,j0,j9,j15,jp,jk,jz,jm,jr,jt,q1,ep,ek,q4,ez,em];simp[mK,d1,d2,i0,i9,i15,ip,ik,iz,im,ir,it,j0,j9,j15,jp,jk,jz,jm,jr,jt,q1,ep,ek,q4,ez,em];exact⟨ck (by simp only[eqI,q6,an3,an5,anp]),fr⟩
 rw[anA q6]at em;simp[d1,d2,i0,i9,i15,ip,ik,iz,im,ir,it,j0,j9,j15,jp,jk,jz,jm,jr,jt,q1,ep,ek,q4,ez,em];simp[oP,d1,d2,i0,i9,i15,ip,ik,iz,im,ir,it,j0,j9,j15,jp,jk,jz,jm,jr,jt,q1,ep,ek,q4,ez,em];simp[oN,d1,d2,i0,i9,i15,ip,ik,iz,im,ir,it,j0,j9,j15,jp,jk,jz,jm,jr,jt,q1,ep,ek,q4,ez,em];simp[o9,d1,d2,i0,i9,i15,ip,ik,iz,im,ir,it,j0,j9,j15,jp,jk,jz,jm,jr,jt,q1,ep,ek,q4,ez,em];simp[oL,d1,d2,i0,i9,i15,ip,ik,iz,im,ir,it,j0,j9,j15,jp,jk,jz,jm,jr,jt,q1,ep,ek,q4,ez,em];simp[o5,d1,d2,i0,i9,i15,ip,ik,iz,im,ir,it,j0,j9,j15,jp,jk,jz,jm,jr,jt,q1,ep,ek,q4,ez,em];refine ad3 A A' i.args j.args zI ?_;by_cases q7:i.args=j.args
 rotate_left
 ·rw[dZ q7];simp[d1,d2,i0,i9,i15,ip,ik,iz,im,ir,it,j0,j9,j15,jp,jk,jz,jm,jr,jt];simp[mK,d1,d2,i0,i9,i15,ip,ik,iz,im,ir,it,j0,j9,j15,jp,jk,jz,jm,jr,jt];exact⟨ck (by simp only[eqI,q7,an3,an5,anp]),fr⟩
 rw[gv q7];by_cases q8:i.ver=j.ver/\i.node=j.node/\i.act=j.act/\i.frm=j.frm/\i.too=j.too/\i.rt=j.rt
 rotate_left
 ·rw[anw q8]at er;simp[d1,d2,i0,i9,i15,ip,ik,iz,im,ir,it,j0,j9,j15,jp,jk,jz,jm,jr,jt,er];simp[mK,d1,d2,i0,i9,i15,ip,ik,iz,im,ir,it,j0,j9,j15,jp,jk,jz,jm,jr,jt,er];exact⟨ck (by simp only[eqI,q8,an3,an5,anp]),fr⟩
 rw[anA q8]at er;simp[d1,d2,i0,i9,i15,ip,ik,iz,im,ir,it,j0,j9,j15,jp,jk,jz,jm,jr,jt,er];simp[mK,d1,d2,i0,i9,i15,ip,ik,iz,im,ir,it,j0,j9,j15,jp,jk,jz,jm,jr,jt,er];refine ad7 i j T CT CR C T' CT' CR' C' htx ?_;by_cases q9:teE i j
 rotate_left
 ·rw[ck q9];simp[];exact⟨ck (by simp only[eqI,q9,an3,an5,anp]),fr⟩
 rw[pN q9];simp[];exact⟨pN ⟨q1,q2,q3,q4,q5,q6,q7,q8,q9⟩,fr⟩
def e18:QE prog:=QE.fn 18 (λ_=>True) (fun(y:Inp×Inp×List AV×LA)=>match y with|⟨i,j,cs,ds⟩=>[.agg cs,.agg ds]) (fun(y:Inp×Inp×List AV×LA)(h:AH)=>match y with|⟨i,j,cs,ds⟩=>InC i cs/\InC j ds/\InB i) (fun(y:Inp×Inp×List AV×LA)=>match y with|⟨i,j,cs,ds⟩=>.bool (dq i j)) (λh y hj hx=>match y,hx with|⟨i,j,cs,ds⟩,hx=>V7 h i j cs ds hx)
theorem YM{tl h}(i:Inp)(j:Inp)(cs:LA)(ds:LA){Q:QT}(hx:InC i cs/\InC j ds/\InB i)(hq:Q (.bool (dq i j)) h):tb (e18::tl) 18 [.agg cs,.agg ds] h Q:=aV (i,j,cs,ds) trivial hx hq
theorem InC.len{i:Inp}{cs:LA}(h:InC i cs):cs.length=37:=by
 obtain⟨A,T,CT,CR,C,rfl,_⟩:=h;rfl
def wi(is:List Inp)(css:List (LA)):Prop:=is.length=css.length/\∀(k:Nat) (i:Inp) (c:LA),is[k]?=some i->css[k]?=some c->InC i c
inductive Q14(h:AH)(A B:AV)(L M:List Inp):Nat->List AV->AH->Prop
 |mk {m:Nat} {h':AH} (i:Nat):i+m=L.length->L.take i=M.take i->Fr h h'->Q14 h A B L M m [A,B,I i] h'
theorem Wk(h:AH)(A B:AV)(L M:List Inp)(css dss:List (LA))(hx:Sl css A/\Sl dss B/\wi L css/\wi M dss/\L.length<=1000000/\∀i∈L,InB i):aK prog 14 [A,B] h (.bool (dq L M)) h:=by
 obtain⟨hA,hB,⟨hl1,hc1⟩,⟨hl2,hc2⟩,hL,hw⟩:=hx;refine kM (λ_=>.bool _) (C14 (aW [e18]) ?_);have l1:∀h:AH,bh h A=some (I L.length,h):=λh=>by rw[gW hA,hl1]
 have l2:∀h:AH,bh h B=some (I M.length,h):=λh=>by rw[gW hB,hl2]
 by_cases hl:L.length=M.length
 ·have hl':(L.length:Int)=M.length:=by omega
  simp[g14,l1,l2,hl'];refine⟨Q14 h A B L M,L.length,.mk 0 (by simp) rfl (Fr.refl h),?_⟩;rintro m vs h' ⟨i,him,ht,fr⟩;cases m with
  |zero=>
   have hlt:¬(i:Int)<L.length:=by omega
   simp[Ij,l1,hlt];simp[Iy,HR];have:L=M:=by
    rw[anc (by omega),anc (by omega)]at ht;exact ht
   exact⟨gv this,fr⟩
  |succ m=>
   have h1:i<L.length:=by omega
   have h2:i<M.length:=by omega
   have hlt:(i:Int)<L.length:=by omega
   have g1:css[i]?=some (css[i]'(by omega)):=by simp
   have g2:dss[i]?=some (dss[i]'(by omega)):=by simp
   have q1:=hc1 i L[i] _ (by simp) g1;have q2:=hc2 i M[i] _ (by simp) g2;generalize css[i]'(by omega)=c at*;generalize dss[i]'(by omega)=d at*;have i1:∀h:AH,aF h 37 A (I i)=some (.cd c,h):=λh=>gY hA g1 q1.len
   have i2:∀h:AH,aF h 37 B (I i)=some (.cd d,h):=λh=>gY hB g2 q2.len
   have k1:cut c 0 37=some c:=by
    have:=aM (α:=c) (b:=[]) (n:=37) q1.len;rwa [am5]at this
   have k2:cut d 0 37=some d:=by
    have:=aM (α:=d) (b:=[]) (n:=37) q2.len;rwa [am5]at this
   have fr2:=fr.bump (k:=h'.nx+10) (by omega);simp[Ij,l1,hlt,i1,k1];simp[S7,i2,k2];refine YM L[i] M[i] c d ⟨q1,q2,hw _ (anL h1)⟩ ?_;refine⟨by simp,?_⟩;by_cases he:L[i]=M[i]
   ·rw[gv he];simp(disch:=first|go_size|fail)[];refine⟨m,by omega,?_⟩;exact .mk (i+1) (show i+1+m=L.length by omega) (g_ ht h1 h2 he) fr2
   ·rw[dZ he];simp[];simp[Iy];exact⟨dZ λe=>he (by simp only[e]),fr2⟩
 ·have hl':¬(L.length:Int)=M.length:=by omega
  simp[g14,l1,l2,hl'];exact⟨dZ λe=>hl (by rw[e]),Fr.refl h⟩
def e14:QE prog:=QE.fn 14 (λ_=>True) (fun(y:AV×AV×List Inp×List Inp×List (LA)×List (LA))=>match y with|⟨A,B,L,M,css,dss⟩=>[A,B]) (fun(y:AV×AV×List Inp×List Inp×List (LA)×List (LA)) (h:AH)=>match y with|⟨A,B,L,M,css,dss⟩=>Sl css A/\Sl dss B/\wi L css/\wi M dss/\L.length<=1000000/\∀i∈L,InB i) (fun(y:AV×AV×List Inp×List Inp×List (LA)×List (LA))=>match y with|⟨A,B,L,M,css,dss⟩=>.bool (dq L M)) (λh y hj hx=>match y,hx with|⟨A,B,L,M,css,dss⟩,hx=>Wk h A B L M css dss hx)
theorem adr{tl h}(A:AV)(B:AV)(L:List Inp)(M:List Inp)(css:List (LA))(dss:List (LA)){Q:QT}(hx:Sl css A/\Sl dss B/\wi L css/\wi M dss/\L.length<=1000000/\∀i∈L,InB i)(hq:Q (.bool (dq L M)) h):tb (e14::tl) 14 [A,B] h Q:=aV (A,B,L,M,css,dss) trivial hx hq
@[simp ↓] theorem akC:TbT e14 14:=aH e14
theorem ki:∀(n:Nat) (l:List UInt8),(ew n l).length<=n
 |0,l=>by cases l<;>simp[ew]
 |n+1,[]=>by simp[ew]
 |n+1,b::l=>by
  have:=ki n;simp only[ew,am6];exact Nat.succ_le_succ (this _)
theorem Hf(l:List UInt8):(aD l).length<=l.length:=ki _ _
theorem xr(s:Str)(V:RS->Val×RS):∀(n:Nat) (acc:List Val) (t:RS),(fL s V n acc t).1.length<=acc.length+n
 |0,acc,t=>by simp[fL]
 |n+1,acc,t=>by
  unfold fL;split
  ·simp only;omega
  ·split
   ·simp only;omega
   ·have:=xr s V n (acc++[(V (if acc=[]then t else aN s t)).1]) (V (if acc=[]then t else aN s t)).2;simp at this;omega
theorem zd(s:Str)(V:RS->Val×RS)(hV:∀t,WB (V t).1):∀(n:Nat) (acc:List Val) (t:RS),(∀v∈acc,WB v)->∀v∈(fL s V n acc t).1,WB v
 |0,acc,t,h=>h
 |n+1,acc,t,h=>by
  unfold fL;split
  ·exact h
  ·split
   ·exact h
   ·refine zd s V hV n _ _ λv hv=>?_
    rcases anP.1 hv with hv|hv
    ·exact h v hv
    ·rw[anQ.1 hv];exact hV _
theorem wb0(k n:Int)(s:Str):WB (.mk k n s []):=.mk _ _ _ _ (by simp) (by simp)
theorem Em(s:Str)(L:RS->Val×RS)(hL:∀t,WB (L t).1)(t:RS):WB (o6 s L t).1:=by
 unfold o6
 (repeat' split)
 ·exact wb0 _ _ _
 ·exact wb0 _ _ _
 ·exact wb0 _ _ _
 ·exact wb0 _ _ _
 ·exact hL _
 ·exact wb0 _ _ _
theorem KH(s:Str)(hs:s.length<=1000000):∀(k:Nat) (t:RS),WB (fm s k t).1
 |0,t=>Em s _ (λt=>wb0 _ _ _) t
 |k+1,t=>Em s _ (λt=>.mk _ _ _ _ (by
   have:=xr s (fm s k) (s.length+3) [] t;simp only[anr]at this;omega) (zd s _ (KH s hs k) _ _ _ (by simp))) t
theorem yJ(s:Str):∀(n:Nat) (acc:List Val) (t:RS),(gw s n acc t).1.length<=acc.length+n
 |0,acc,t=>by simp[gw]
 |n+1,acc,t=>by
  unfold gw;split
  ·simp only;omega
  ·split
   ·simp only;omega
   ·have:=yJ s n (acc++[(fm s 16 (aN s t)).1]) (ei s t);simp at this;omega
theorem De(s:Str)(hs:s.length<=1000000):∀(n:Nat) (acc:List Val) (t:RS),(∀v∈acc,WB v)->∀v∈(gw s n acc t).1,WB v
 |0,acc,t,h=>h
 |n+1,acc,t,h=>by
  unfold gw;split
  ·exact h
  ·split
   ·exact h
   ·refine De s hs n _ _ λv hv=>?_
    rcases anP.1 hv with hv|hv
    ·exact h v hv
    ·rw[anQ.1 hv];exact KH s hs 16 _
theorem Dq(s:Str):∀(n:Nat) (acc:List Int) (t:RS),(lS s n acc t).1.length<=acc.length+n
 |0,acc,t=>by simp[lS]
 |n+1,acc,t=>by
  unfold lS;split
  ·simp only;omega
  ·split
   ·simp only;omega
   ·have:=Dq s n (acc++[cG s t]) (a_ s t);simp at this;omega
def InG(cs:LA):Prop:=∃i,InC i cs/\InB i
theorem DB(i:Inp)(h1:i.args=[])(h2:i.t=[])(h3:i.ct=[])(h4:i.cr=[])(h5:i.cls=[]):InG (inG i .aa .aa .aa .aa .aa):=by
 refine⟨i,⟨_,_,_,_,_,rfl,.inr ⟨rfl,by rw[h1];simp[vCs]⟩,.inr ⟨rfl,by rw[h2];rfl⟩,.inr ⟨rfl,by rw[h3];rfl⟩,.inr ⟨rfl,by rw[h4];rfl⟩,.inr ⟨rfl,by rw[h5];rfl⟩⟩,?_⟩;exact⟨by rw[h1];simp,by rw[h1];simp,by rw[h2];simp,by rw[h3];simp,by rw[h4];simp,by rw[h5];simp⟩
theorem Wv(l:List Int):nL l=cbC (l.map λn=>(max n (-n),decide (n<0))):=by
 simp only[nL,cbC,List.map_map];rfl
theorem HM(s:Str)(t:RS):(fP s t).length<=s.length:=by
 unfold fP ju;split
 ·rename_i h34;have hlt:=(amV.1 h34).1;exact zO s _ _ _ (by simp only;omega) (by simp)
 ·simp
theorem vL(x:Int×AV×Int×AV)(T:List Int)(L:List Int)(h1:Sl (rnC T) x.2.1)(h2:Sl (nL L) x.2.2.2)(h3:T.length<=1000000)(h4:L.length<=2000000):InG (lb x):=by
 obtain⟨k,r,n,c⟩:=x;rw[Wv]at h2;exact⟨z7A k T n (L.map λn=>(max n (-n),decide (n<0))),⟨_,_,_,_,_,rfl,.inr ⟨rfl,by simp[z7A,vCs]⟩,h1,.inr ⟨rfl,rfl⟩,.inr ⟨rfl,rfl⟩,h2⟩,⟨by simp[z7A],by simp[z7A],h3,by simp[z7A],by simp[z7A],by simpa[z7A]using h4⟩⟩
theorem vp(s:Str)(hs:s.length<=1000000):InG (fg s).1:=by
 unfold fg;simp only;generalize aX s ⟨0,false⟩=t at*;split
 ·unfold MI;simp only;exact DB {Inp.z with kind:=1,pk:=_,pid:=_,px:=_,py:=_,pt:=_,pw:=_} rfl rfl rfl rfl rfl
 split
 ·unfold MD;simp only;split
  ·exact DB {Inp.z with kind:=2,time:=_} rfl rfl rfl rfl rfl
  ·exact DB {Inp.z with kind:=2,key:=_,mM:=_,time:=_} rfl rfl rfl rfl rfl
 split
 ·unfold yB;exact DB {Inp.z with kind:=3,time:=_} rfl rfl rfl rfl rfl
 split
 ·unfold zl;exact DB {Inp.z with kind:=4,sw:=_,sh:=_} rfl rfl rfl rfl rfl
 split
 ·unfold yU;simp only;exact DB {Inp.z with kind:=5,nP:=_,high:=_,scale:=_} rfl rfl rfl rfl rfl
 split
 ·unfold xk y6;have h1:=yJ s (s.length+3) [] t;have h2:=De s hs (s.length+3) [] t (by simp);simp only[anr]at h1;generalize(gw s (s.length+3) [] t).1=L at*;exact⟨z5A L,⟨_,_,_,_,_,rfl,.inl rfl,.inr ⟨rfl,rfl⟩,.inr ⟨rfl,rfl⟩,.inr ⟨rfl,rfl⟩,.inr ⟨rfl,rfl⟩⟩,⟨by show L.length<=_;omega,h2,by simp[z5A],by simp[z5A],by simp[z5A],by simp[z5A]⟩⟩
 split
 ·unfold DQ;simp only;exact DB {Inp.z with kind:=7,ver:=_,node:=_,act:=_,frm:=_,too:=_,rt:=_} rfl rfl rfl rfl rfl
 split
 ·unfold iv wY;simp only;have hT:∀u,(aD (fP s u)).length<=1000000:=λu=>by
   have h1:=Hf (fP s u);have h2:=HM s u;omega
  have hnr:Sl (rnC []) .aa:=.inr ⟨rfl,rfl⟩;have hnc:Sl (nL []) .aa:=.inr ⟨rfl,rfl⟩
  (repeat' split)
  ·exact vL _ [] [] hnr hnc (by simp) (by simp)
  ·exact vL _ [] [] hnr hnc (by simp) (by simp)
  ·exact vL _ (aD _) [] (.inl rfl) hnc (hT _) (by simp)
  ·refine vL _ (aD _) _ (.inl rfl) (.inl rfl) (hT _) ?_;have:=Dq s (s.length+3) [] (a_ s (ft s (aX s (aN s t))));simp only[anr]at this;omega
  ·exact vL _ [] [] hnr hnc (by simp) (by simp)
 ·exact DB Inp.z rfl rfl rfl rfl rfl
theorem Jz{z bytes:Nat}{h0 h:AH}{lv:AV}{n m:Nat}{cs tc:LA}(o:OL z h0 h lv n cs)(h0n:h0.nx<=h.nx)(hm:m≠0)(htl:tc.length=m*z)(hto:dj tc=true)(hn:n+m<=2000000)(hb:bytes<=1000):
  ∃lv' h2,dK (h.add (.cells tc)) z bytes lv (.rsl h.nx 0 m z)=some (lv',h2)/\OL z h0 h2 lv' (n+m) (cs++tc)/\h2.nx=h.nx+2/\∀i,i<h0.nx->h2.H.get i=h.H.get i:=by
 have fk:cut tc 0 (m*z)=some tc:=by
  have:=aM (α:=tc) (b:=[]) (n:=m*z) (by omega);rwa [am5]at this
 have hro:jh (n+m) bytes=true:=by
  refine v_ _ _ ?_ (by omega);have:(n+m)*bytes<=2000000*1000:=Nat.mul_le_mul (by omega) hb;omega
 rcases o with⟨rfl,rfl,rfl⟩|⟨k,rfl,hn0,hk0,hk,hcs,hlen⟩
 ·refine⟨.rsl (h.nx+1) 0 (0+m) z,(h.add (.cells tc)).add (.cells tc),?_,.inr ⟨h.nx+1,rfl,by omega,by omega,by simp,?_,by simp[htl]⟩,by simp,λi hi=>?_⟩
  ·rw[Cy _ _ _ _ _ _ hm];have Vc:jh m bytes=true:=by simpa using hro
   have hcn:(h.add (.cells tc)).ab h.nx=some tc:=aj _ _ _ rfl;simp[fk,hto,Vc]
  ·have:(h.add (.cells tc)).nx=h.nx+1:=by simp
   rw[<-this,anx];exact aj _ _ _ rfl
  ·rw[az,amU (by simp;omega),az,amU (by omega)]
 ·have UC:(h.add (.cells tc)).ab k=some cs:=by rw[aC _ _ _ (by omega)];exact hcs
  have hcn:(h.add (.cells tc)).ab h.nx=some tc:=aj _ _ _ rfl;have EK:cut cs 0 (n*z)=some cs:=by
   have:=aM (α:=cs) (b:=[]) (n:=n*z) hlen;rwa [am5]at this
  refine⟨.rsl (h.nx+1) 0 (n+m) z,((h.add (.cells tc)).kill k).add (.cells (cs++tc)),?_,.inr ⟨h.nx+1,rfl,by omega,by omega,by simp,?_,?_⟩,by simp,λi hi=>?_⟩
  ·rw[BL];simp[fk,hto,hro,UC,EK,hcn]
  ·have:((h.add (.cells tc)).kill k).nx=h.nx+1:=by simp
   rw[<-this];exact aj _ _ _ rfl
  ·rw[amX,hlen,htl,anY]
  ·rw[az,amU (by simp;omega),ri,amU (by omega),az,amU (by omega)]
def qtE(c:UInt8):Str:=if c=92\/c=34 then [92,c]else if c=10 then [92,110]else [c]
def qtB:Str->Str
 |[]=>[]
 |c::s=>qtE c++qtB s
def iu(s:Str):Str:=34::(qtB s++[34])
theorem Kj(c:UInt8):(qtE c).length<=2:=by unfold qtE;(repeat' split)<;>simp
theorem KG:∀s:Str,(qtB s).length<=2*s.length
 |[]=>by simp[qtB]
 |c::s=>by
  have:=KG s;have:=Kj c;simp only[qtB,amX,am6];omega
theorem mW(s:Str):(iu s).length<=2*s.length+2:=by
 have:=KG s;simp[iu];omega
inductive Q45(h hb:AH)(s:Str):Nat->List AV->AH->Prop
 |mk {m:Nat} {h':AH} (i:Nat) (acc:Str) (lv:AV):i+m=s.length->acc++qtB (s.drop i)=34::qtB s->acc.length<=2*i+1->OL 1 hb h' lv acc.length (aR acc)->Fr h h'->hb.nx<=h'.nx->Q45 h hb s m [.str s,lv,I i] h'
inductive aak(h hb:AH)(s:Str)(i:Nat)(out:Str):List AV->AH->Prop
 |mk {h':AH} (lv:AV):OL 1 hb h' lv out.length (aR out)->Fr h h'->hb.nx<=h'.nx->aak h hb s i out [.str s,lv,I i] h'
theorem wm(a b:Str):aR (a++b)=aR a++aR b:=by simp[aR]
theorem WD(h:AH)(s:Str)(hs:s.length<=400000):aK prog 45 [.str s] h (.str (iu s)) h:=by
 refine kM (λ_=>.str _) (C45 (aW []) ?_);have agk:bW [.int .u8 0] [(0,1,.int .u8 34)]=some [.int .u8 34]:=rfl;simp[g45,agk];have ol0:OL 1 h (h.add (.cells [.int .u8 34])) (.rsl h.nx 0 1 1) ([34]:Str).length (aR [34]):=.inr ⟨h.nx,rfl,by simp,amY _,by simp,aj _ _ _ rfl,rfl⟩;have fr0:Fr h (h.add (.cells [.int .u8 34])):=(Fr.refl h).add _;have aiS:h.nx<=(h.add (.cells [.int .u8 34])).nx:=fr0.nx;generalize h.add (.cells [.int .u8 34])=h1 at*;refine⟨Q45 h h s,s.length,.mk 0 [34] _ (by simp) (by simp) (by simp) ol0 fr0 aiS,?_⟩;rintro m vs h' ⟨i,acc,lv,him,hA,hl,ol,fr,hbn⟩;cases m with
 |zero=>
  have hlt:¬(i:Int)<s.length:=by omega
  have hd:s.drop i=[]:=anf (by omega);rw[hd]at hA;simp only[qtB,am5]at hA;obtain⟨lv',h2,k1,ol2,hn2,hg2⟩:=Jz (m:=1) (bytes:=1) ol hbn (tc:=[.int .u8 34]) (by omega) rfl rfl (by omega) (by omega);have e1:aR acc++[.int .u8 34]=aR (acc++[34]):=by rw[wm];rfl
  have e2:acc.length+1=(acc++[34]).length:=by simp
  rw[e1,e2]at ol2;have hb:=HG ol2;simp[HN,hlt];simp[Tw,Hd,agk,k1];rw[hb];simp[];refine⟨by rw[hA];rfl,by have:=fr.nx;omega,λi hi=>by rw[hg2 i hi];exact fr.get i hi⟩
 |succ m=>
  have hi:i<s.length:=by omega
  have hlt:(i:Int)<s.length:=by omega
  have hix:=λh=>bC (h:=h) (show s[i]?=some s[i]by simp[hi])
  rw[ang hi]at hA;simp only[qtB]at hA;generalize s[i]=c at*;have b1:=JR c;have b2:=Ke c;have b3:=afO c;simp[HN,hlt];refine⟨aak h h s i (acc++qtE c),?_,?_⟩
  ·obtain⟨fl,hfl⟩:∃fl,fl=decide (c=92\/c=34):=⟨_,rfl⟩;simp[Sk,hix,b1];refine⟨λvs h2=>vs=[.str s,lv,I i,.int .u8 c.toNat,.bool fl]/\h2=h',?_,?_⟩
   ·by_cases q1:c=92
    ·subst q1;simp[zX,hfl]
    ·by_cases q2:c=34
     ·subst q2;simp[zX,hfl]
     ·simp[zX,hfl,q1,q2,b2]
   ·rintro vs h2 ⟨rfl,rfl⟩;have fin:∀(t:Str),qtE c=t->t.length≠0->t.length<=2->∃lv' h3,dK (h2.add (.cells (aR t))) 1 1 lv (.rsl h2.nx 0 t.length 1)=some (lv',h3)/\aak h h s i (acc++qtE c) [.str s,lv',I i] h3:=by
     intro t ht ht0 ht2;obtain⟨lv',h3,k1,ol2,hn2,hg2⟩:=Jz (m:=t.length) (bytes:=1) ol hbn (tc:=aR t) ht0 (by simp[aR]) (by simp[dj,aR,AV.one]) (by omega) (by omega);refine⟨lv',h3,k1,.mk lv' ?_ ⟨by have:=fr.nx;omega,λi hi=>by rw[hg2 i hi];exact fr.get i hi⟩ (by omega)⟩;rw[ht,wm,amX];exact ol2
    by_cases q:c=92\/c=34
    ·rw[hfl,anA q];obtain⟨lv',h3,k1,hq⟩:=fin [92,c] (by unfold qtE;rw[am1 q]) (by simp) (by simp);have haf:bW [.int .u8 0,.int .u8 0] [(0,1,.int .u8 92),(1,1,.int .u8 c.toNat)]=some (aR [92,c]):=rfl;have k1:dK (h2.add (.cells (aR [92,c]))) 1 1 lv (.rsl h2.nx 0 2 1)=some (lv',h3):=k1;simp[CD,hix,haf,k1];exact hq
    ·rw[hfl,anw q];by_cases q3:c=10
     ·subst q3;obtain⟨lv',h3,k1,hq⟩:=fin [92,110] (by decide) (by simp) (by simp);have haf:bW [.int .u8 0,.int .u8 0] [(0,1,.int .u8 92),(1,1,.int .u8 110)]=some (aR [92,110]):=rfl;have k1:dK (h2.add (.cells (aR [92,110]))) 1 1 lv (.rsl h2.nx 0 2 1)=some (lv',h3):=k1;simp[CD,haf,k1];exact hq
     ·obtain⟨lv',h3,k1,hq⟩:=fin [c] (by unfold qtE;rw[amU q,amU q3]) (by simp) (by simp);have haf:bW [.int .u8 0] [(0,1,.int .u8 c.toNat)]=some (aR [c]):=rfl;have k1:dK (h2.add (.cells (aR [c]))) 1 1 lv (.rsl h2.nx 0 1 1)=some (lv',h3):=k1;simp(disch:=first|go_size|fail)[CD,hix,haf,k1,b3,q3];exact hq
  ·rintro vs h2 ⟨lv',ol2,fr2,xF⟩;simp(disch:=first|go_size|fail)[SX];refine⟨m,by omega,?_⟩;have e:=Kj c;exact .mk (i+1) (acc++qtE c) lv' (show i+1+m=s.length by omega) (by rw[<-hA,aok]) (by rw[amX];omega) ol2 fr2 xF
def e45:QE prog:=QE.fn 45 (λ_=>True) (fun(s:Str)=>[.str s]) (fun(s:Str)(h:AH)=>s.length<=400000) (fun(s:Str)=>.str (iu s)) (λh s hj hx=>WD h s hx)
theorem KB{tl h}(s:Str){Q:QT}(hx:s.length<=400000)(hq:Q (.str (iu s)) h):tb (e45::tl) 45 [.str s] h Q:=aV s trivial hx hq
@[simp ↓] theorem akf:TbT e45 45:=aH e45
theorem sC:∀(k u:Nat),u<10^(k+1)->(Lib.decDigits u).length<=k+1
 |0,u,h=>by
  rw[Lib.decDigits,dif_pos (by simpa using h)];simp
 |k+1,u,h=>by
  by_cases h10:u<10
  ·rw[Lib.decDigits,dif_pos h10];simp
  ·rw[Lib.decDigits,dif_neg h10,amX,am2];have:=sC k (u/10) (by
    have e:(10:Nat)^(k+1+1)=10^(k+1)*10:=aoR ..;rw[e]at h;exact Nat.div_lt_of_lt_mul (by omega))
   omega
theorem w_{n:Int}(h1 : -1000000000000000000<=n)(h2:n<=1000000000000000000):(Lib.itoa n).length<=20:=by
 have e:(10:Nat)^(18+1)=10000000000000000000:=by decide
 unfold Lib.itoa;split
 ·have:=sC 18 n.natAbs (by rw[e];omega);simp;omega
 ·have:=sC 18 n.toNat (by rw[e];omega);omega
def inR(n:Int):Bool:=decide (-1099511627776<=n/\n<=1099511627776)
def rV:List Int->Str
 |[]=>[]
 |n::l=>32::(Lib.itoa n++rV l)
def bo(l:List Int):Str:=if l.all inR=true then rV l else [33]
theorem y0:∀l:List Int,l.all inR=true->(rV l).length<=21*l.length
 |[],_=>by simp[rV]
 |n::l,h=>by
  simp only[aoE,amZ]at h;have h1:=y0 l h.2;have h2:=h.1;unfold inR at h2;have:=w_ (n:=n) (by simp at h2;omega) (by simp at h2;omega);simp only[rV,am6,amX];omega
theorem bM(l:List Int):(bo l).length<=21*l.length+1:=by
 unfold bo;split
 ·rename_i h;have:=y0 l h;omega
 ·simp
def NSl(h:AH)(A:AV)(L:List Int):Prop:=∃k,A =.rsl k 0 L.length 1/\h.ab k=some (L.map λn=>I n)/\k<h.nx
inductive Q40(h:AH)(A:AV)(L:List Int):Nat->List AV->AH->Prop
 |mk {m:Nat} {h':AH} (i:Nat) (acc:Str):i+m=L.length->(L.take i).all inR=true->acc++rV (L.drop i)=rV L->acc.length<=21*i->Fr h h'->Q40 h A L m [A,.str acc,I i] h'
theorem Nu(h:AH)(A:AV)(L:List Int)(hx:NSl h A L/\L.length<=1000):aK prog 40 [A] h (.str (bo L)) h:=by
 obtain⟨⟨k,rfl,hck,hkn⟩,hL⟩:=hx;refine kM (λ_=>.str _) (C40 (aW [e81]) ?_);simp[g40];refine⟨Q40 h (.rsl k 0 L.length 1) L,L.length,.mk 0 [] (by simp) (by simp) (by simp) (by simp) (Fr.refl h),?_⟩;rintro m vs h' ⟨i,acc,him,eQ,hA,hl,fr⟩;have Xz:h'.ab k=some (L.map λn=>I n):=by rw[ay (fr.get k hkn)];exact hck
 cases m with
 |zero=>
  have hlt:¬(i:Int)<L.length:=by omega
  rw[anc (by omega)]at eQ;rw[anf (by omega)]at hA;simp only[rV,am5]at hA;simp[Fg,hlt];simp[HQ,Gm];exact⟨by unfold bo;rw[am1 eQ,hA],fr⟩
 |succ m=>
  have hi:i<L.length:=by omega
  have hlt:(i:Int)<L.length:=by omega
  have hix:=λh=>qz h k L.length i hi
  have hgt:(L.map λn=>I n)[i]?=some (I L[i]):=by simp[hi]
  have htk:(L.take (i+1)).all inR=inR L[i]:=by
   rw[aoj hi,List.all_append,eQ];simp
  have agx:inR L[i]=false->L.all inR=false:=λe=>by
   rw[Bool.eq_false_iff];intro hc;rw[anK]at hc;have:=hc _ (anL hi);rw[e]at this;cases this
  rw[ang hi]at hA;simp only[rV]at hA;generalize hn:L[i]=n at*;generalize(L.map λn=>I n)=LL at*;simp[Fg,hlt];refine⟨λvs h2=>vs=[.rsl k 0 L.length 1,.str acc,I i,.bool (!(inR n))]/\h2=h',?_,?_⟩
  ·by_cases q1:n < -1099511627776
   ·have e:inR n=false:=by unfold inR;rw[anw];omega
    simp[zT,hix,Xz,hgt,q1,e];simp[Bb]
   ·by_cases q2:1099511627776<n
    ·have e:inR n=false:=by unfold inR;rw[anw];omega
     simp[zT,hix,Xz,hgt,q1,q2,e];simp[Bb]
    ·have e:inR n=true:=by unfold inR;rw[anA];omega
     simp[zT,hix,Xz,hgt,q1,q2,e];simp[Bb]
  ·rintro vs h2 ⟨rfl,rfl⟩;cases hr:inR n
   ·simp[FV];simp[HQ];exact⟨by unfold bo;rw[agx hr];rfl,fr⟩
   ·have hb : -1099511627776<=n/\n<=1099511627776:=by unfold inR at hr;simpa using hr
    simp[FV,hix,Xz,hgt];refine O2 n (by omega) ?_;have hil:=w_ (n:=n) (by omega) (by omega);have k1:=bQ (h:=h2) (a:=[32]) (b:=Lib.itoa n) (by simp;omega);have k2:=bQ (h:=h2) (a:=acc) (b:=[32]++Lib.itoa n) (by simp;omega);unfold Qi;rw[k1];simp(disch:=first|go_size|fail)[];have k2':ae h2 .add (.str acc) (.str (32::Lib.itoa n))=some (.str (acc++([32]++Lib.itoa n)),h2):=k2;rw[k2'];simp(disch:=first|go_size|fail)[];refine⟨m,by omega,?_⟩;exact .mk (i+1) (acc++(32::Lib.itoa n)) (show i+1+m=L.length by omega) (by rw[htk];exact hr) (by rw[<-hA];simp) (by simp;omega) fr
def e40:QE prog:=QE.fn 40 (λ_=>True) (fun(y:AV×List Int)=>match y with|⟨A,L⟩=>[A]) (fun(y:AV×List Int)(h:AH)=>match y with|⟨A,L⟩=>NSl h A L/\L.length<=1000) (fun(y:AV×List Int)=>match y with|⟨A,L⟩=>.str (bo L)) (λh y hj hx=>match y,hx with|⟨A,L⟩,hx=>Nu h A L hx)
theorem rJ{tl h}(A:AV)(L:List Int){Q:QT}(hx:NSl h A L/\L.length<=1000)(hq:Q (.str (bo L)) h):tb (e40::tl) 40 [A] h Q:=aV (A,L) trivial hx hq
@[simp ↓] theorem aks:TbT e40 40:=aH e40
mutual
def kY:Val->Str
 |.mk k n s l=>if k=1 then Lib.itoa n else if k=2 then(if n=1 then d_ else dk)else if k=3 then iu s else 91::(gE true l++[93])
def gE:Bool->List Val->Str
 |_,[]=>[]
 |b,v::r=>(if b=true then []else [32])++(kY v++gE false r)
end
inductive VW:Val->Prop
 |mk (k n:Int) (s:Str) (l:List Val):(-1000000000000000000<=n/\n<=1000000000000000000)->s.length<=400000->l.length<=2000000->(∀v∈l,VW v)->(kY (.mk k n s l)).length<=1000000000->VW (.mk k n s l)
def Om(v:Val):Prop:=∀(h:AH),aK prog 43 [.agg (vC v)] h (.str (kY v)) h
def eVt(l:List Val)(hv:∀v∈l,Om v):QE prog:=
 ⟨43,λargs h Q=>∃v,args=[.agg (vC v)]/\v∈l/\Q (.str (kY v)) h,λargs h Q ⟨v,h1,h2,h3⟩=>by
  subst h1;exact⟨_,_,hv v h2 h,h3⟩⟩
theorem af4{l:List Val}{hv:∀v∈l,Om v}{tl h}(v:Val){Q:QT}(hm:v∈l)(hq:Q (.str (kY v)) h):tb (eVt l hv::tl) 43 [.agg (vC v)] h Q:=by
 rw[dJ _ tl 43 _ _ _ rfl];exact⟨v,rfl,hm,hq⟩
inductive Q43(h:AH)(v:Val)(l:List Val):Nat->List AV->AH->Prop
 |mk {m:Nat} {h':AH} (i:Nat) (acc:Str):i+m=l.length->acc++gE (decide (i=0)) (l.drop i)=91::gE true l->Fr h h'->h'.ab h.nx=some (vC v)->h.nx+1<=h'.nx->Q43 h v l m [.ptr h.nx 0,.str acc,I i] h'
theorem V9(k n:Int)(s:Str)(l:List Val)(hn : -1000000000000000000<=n/\n<=1000000000000000000)(hs:s.length<=400000)(hl:l.length<=2000000)(hv:∀v∈l,Om v)(alq:(kY (.mk k n s l)).length<=1000000000):Om (.mk k n s l):=by
 intro h;refine kM (λ_=>.str _) (C43 (aW [e81,e45,eVt l hv]) ?_);have hvC:vC (.mk k n s l)=[I k,I n,.str s,.psl (vCs l)]:=by simp[vC]
 have hT:kY (.mk k n s l)=if k=1 then Lib.itoa n else if k=2 then(if n=1 then d_ else dk)else if k=3 then iu s else 91::(gE true l++[93]):=by simp only[kY]
 simp[g43];have fr:Fr h (h.add (.cells (vC (.mk k n s l)))):=(Fr.refl h).add _;have c1:(h.add (.cells (vC (.mk k n s l)))).ab h.nx=some (vC (.mk k n s l)):=aj _ _ _ rfl;have hnx:h.nx+1<=(h.add (.cells (vC (.mk k n s l)))).nx:=by simp
 have hv0:(vC (.mk k n s l))[0]?=some (I k):=by rw[hvC];rfl
 have hv1:(vC (.mk k n s l))[1]?=some (I n):=by rw[hvC];rfl
 have hv2:(vC (.mk k n s l))[2]?=some (.str s):=by rw[hvC];rfl
 have hv3:(vC (.mk k n s l))[3]?=some (.psl (vCs l)):=by rw[hvC];rfl
 generalize h.add (.cells (vC (.mk k n s l)))=h1 at*;generalize hT0:kY (.mk k n s l)=TT at*;by_cases k1:k=1
 ·rw[am1 k1]at hT;subst k1;simp[hv0,c1,hv1];refine O2 n hn ?_;simp[];exact⟨hT.symm,fr⟩
 rw[amU k1]at hT;by_cases k2:k=2
 ·rw[am1 k2]at hT;subst k2;by_cases n1:n=1
  ·rw[am1 n1]at hT;subst n1;simp[hv0,c1,hv1];simp[QV];exact⟨hT.symm,fr⟩
  ·rw[amU n1]at hT;simp[hv0,k1,c1,hv1,n1];simp[OD];exact⟨hT.symm,fr⟩
 rw[amU k2]at hT;by_cases k3:k=3
 ·rw[am1 k3]at hT;subst k3;simp[hv0,k1,k2,c1,hv2];unfold Qm;simp[];refine KB s hs ?_;simp[];exact⟨hT.symm,fr⟩
 rw[amU k3]at hT;simp[hv0,k1,k2,k3];refine⟨Q43 h (.mk k n s l) l,l.length,.mk 0 [91] (by simp) (by simp) fr c1 hnx,?_⟩;clear fr c1 hnx;rintro m vs h' ⟨i,acc,him,hA,fr,c1,hnx⟩;have l1:(vCs l).length=l.length:=dr l;have hlen:(91::gE true l).length+1=TT.length:=by rw[hT];simp
 cases m with
 |zero=>
  have hlt:¬(i:Int)<l.length:=by omega
  rw[anf (by omega)]at hA;simp only[gE,am5]at hA;simp[Hu,c1,hv3,l1,hlt];have k1:=bQ (h:=h') (a:=acc) (b:=[93]) (by rw[hA];simp at hlen ⊢; omega);simp[Od];unfold IL;rw[k1];simp[];exact⟨by rw[hA,hT];simp,fr⟩
 |succ m=>
  have hi:i<l.length:=by omega
  have hlt:(i:Int)<l.length:=by omega
  have i1:∀h:AH,aF h 4 (.psl (vCs l)) (I i)=some (.cd (vC l[i]),h):=λh=>da (nD hi) (cH _)
  have k1:cut (vC l[i]) 0 4=some (vC l[i]):=by
   have:=aM (α:=vC l[i]) (b:=[]) (n:=4) (cH _);rwa [am5]at this
  have ab2:=anL hi;rw[ang hi]at hA;simp only[gE]at hA;generalize l[i]=v at*;have hla:=congrArg List.length hA;simp only[amX]at hla;obtain⟨sep,acd⟩:∃sep:Str,sep=if decide (i=0)=true then []else [32]:=⟨_,rfl⟩
  rw[<-acd]at hA hla;simp[Hu,c1,hv3,l1,hlt];refine⟨λvs h2=>vs=[.ptr h.nx 0,.str (acc++sep),I i]/\h2=h',?_,?_⟩
  ·by_cases hi0:i=0
   ·subst hi0;simp[Hb,acd]
   ·have ot:0<i:=by omega
    have k2:=bQ (h:=h') (a:=acc) (b:=[32]) (by simp only[am6,anr]at hlen hla ⊢; omega);simp[Hb,hi0,ot];rw[k2];simp(disch:=first|go_size|fail)[acd,hi0]
  ·rintro vs h2 ⟨rfl,rfl⟩;simp(disch:=first|go_size|fail)[Qq,c1,hv3,i1,k1];refine af4 v ab2 ?_;have k3:=bQ (h:=h2) (a:=acc++sep) (b:=kY v) (by simp only[amX,am6]at hlen hla ⊢; omega);rw[k3];simp(disch:=first|go_size|fail)[];refine⟨m,by omega,?_⟩;have hd:decide (i+1=0)=false:=by simp
   exact .mk (i+1) (acc++(sep++kY v)) (show i+1+m=l.length by omega) (by rw[hd,<-hA];simp) fr c1 hnx
theorem adj:∀ {v:Val},VW v->Om v:=λhv=>by
 induction hv with
 |mk k n s l h1 h2 h3 _ h5 ih=>exact V9 k n s l h1 h2 h3 ih h5
theorem W4(h:AH)(v:Val)(hv:VW v):aK prog 43 [.agg (vC v)] h (.str (kY v)) h:=adj hv h
def e43:QE prog:=QE.fn 43 (λ_=>True) (fun(v:Val)=>[.agg (vC v)]) (fun(v:Val)(h:AH)=>VW v) (fun(v:Val)=>.str (kY v)) (λh v hj hx=>W4 h v hx)
theorem ad_{tl h}(v:Val){Q:QT}(hx:VW v)(hq:Q (.str (kY v)) h):tb (e43::tl) 43 [.agg (vC v)] h Q:=aV v trivial hx hq
@[simp ↓] theorem akM:TbT e43 43:=aH e43
open Go.Eng Go.St Tryz
def Wn(m:Int)(i:Nat):Bool:=(m.toNat >>> i)%2==1
def vM(m:Int):Nat->Str
 |0=>[]
 |i+1=>vM m i++(if Wn m i=true then dB.getD i []++[43]else [])
def lQ(k m:Int):Str:=vM m 4++gU k
theorem Z_(h:AH){m:Int}(h0:0<=m)(h1:m<=15){i:Nat}(hi:i<4):∃x y:Int,ae h .shr (I m) (.int .u64 i)=some (I x,h)/\ae h .and (I x) (I 1)=some (I y,h)/\(y==1)=Wn m i:=by
 have hm:m=0\/m=1\/m=2\/m=3\/m=4\/m=5\/m=6\/m=7\/m=8\/m=9\/m=10\/m=11\/m=12\/m=13\/m=14\/m=15:=by omega
 have hi':i=0\/i=1\/i=2\/i=3:=by omega
 rcases hm with rfl|rfl|rfl|rfl|rfl|rfl|rfl|rfl|rfl|rfl|rfl|rfl|rfl|rfl|rfl|rfl<;>rcases hi' with rfl|rfl|rfl|rfl<;>exact⟨_,_,rfl,rfl,rfl⟩
theorem D9{i:Nat}:(dB.getD i []).length<=10:=by
 by_cases h:i<4
 ·have:i=0\/i=1\/i=2\/i=3:=by omega
  rcases this with rfl|rfl|rfl|rfl<;>decide
 ·have:dB.getD i []=[]:=by
   rw[anh,aoa (by show 4<=i;omega)];rfl
  rw[this];simp
theorem rS(m:Int):∀i,(vM m i).length<=11*i
 |0=>by simp[vM]
 |i+1=>by
  have h1:=rS m i;have h2:= @D9 i;simp only[vM,amX];split
  ·simp only[amX,am2];omega
  ·simp only[anr];omega
theorem Ny{k:Int}:(gU k).length<=1000:=by
 unfold gU;split
 ·by_cases h:k.toNat<24
  ·have:=am9 (gr (l:=ij) (i:=k.toNat) h);exact(by decide:∀w∈ij,w.length<=1000) _ this
  ·rw[anh,aoa (by show 24<=k.toNat;omega)];simp
 ·split
  ·decide
  ·have:=rf k;omega
theorem vW(k m:Int):(lQ k m).length<=1044:=by
 have h1:=rS m 4;have h2:= @Ny k;simp only[lQ,amX];omega
inductive Q83(h:AH)(k m:Int):Nat->List AV->AH->Prop
 |mk {n:Nat} {h':AH} (i:Nat):i+n=4->h'.ab h.nx=some [I k,I m]->Fr h h'->Q83 h k m n [.ptr h.nx 0,.str (vM m i),I i] h'
theorem WK(h:AH)(k m:Int)(hk:fa k m=true):aK prog 83 [.agg [I k,I m]] h (.str (lQ k m)) h:=by
 have hk:=hk;rw[jJ]at hk;have hk:0<=m/\m<=15/\((1<=k/\k<=23)\/(32<=k/\k<=1114111/\(k<55296\/57343<k)/\(k<65\/90<k))):=by simpa using hk
 refine kM (λ_=>.str _) (C83 (aW [MR,Ns]) ?_);simp[g83];have hc1:(h.add (.cells [I k,I m])).ab h.nx=some [I k,I m]:=aj _ _ _ rfl;have fr:Fr h (h.add (.cells [I k,I m])):=(Fr.refl h).add _;generalize h.add (.cells [I k,I m])=h1 at*;refine⟨Q83 h k m,4,.mk 0 rfl hc1 fr,?_⟩;clear hc1 fr;rintro n vs h' ⟨i,hin,hc1,fr⟩;have hml:=rS m i;cases n with
 |succ n=>
  have h4':(i:Int)<4:=by omega
  simp[vA,h4'];refine⟨λvs h2=>vs=[.ptr h.nx 0,.str (vM m (i+1)),I i]/\h2=h',?_,?_⟩
  ·obtain⟨x,y,b1,b2,b3⟩:=Z_ h' hk.1 hk.2.1 (i:=i) (by omega);have hmP:vM m (i+1)=vM m i++(if Wn m i=true then dB.getD i []++[43]else []):=rfl;cases hb:Wn m i
   ·rw[hb]at b3 hmP;have b3':¬y=1:=by simpa using b3
    simp[BF,hc1,y2 i (by omega),b1,b2,b3'];rw[hmP];simp
   ·rw[hb]at b3 hmP;have b3':y=1:=by simpa using b3
    subst b3';simp[BF,hc1,y2 i (by omega),b1,b2];refine Po trivial ?_;have hx:=eU h' dB i _ (gr (show i<dB.length by show i<4;omega));have hl:= @D9 i;have k1:=bQ (h:=h') (a:=dB.getD i []) (b:=[43]) (by simp only[am2];omega);have k2:=bQ (h:=h') (a:=vM m i) (b:=dB.getD i []++[43]) (by simp only[amX,am2];omega);rw[hmP];generalize dB.getD i []=W at*;simp[PD];rw[hx];simp[];rw[k1];simp[];rw[k2];simp(disch:=first|go_size|fail)[]
  ·rintro vs h2 ⟨rfl,rfl⟩;simp(disch:=first|go_size|fail)[Gp];exact⟨n,by omega,.mk (i+1) (show i+1+n=4 by omega) hc1 fr⟩
 |zero=>
  obtain rfl:i=4:=by omega
  simp(disch:=first|go_size|fail)[vA];simp[Fx];have hml:=rS m 4;unfold lQ;generalize vM m 4=MP at*;by_cases h23:k<=23
  ·have UF:k.toNat<ij.length:=by show k.toNat<24;omega
   have hx:=eU ⟨h'.H,h'.nx+8⟩ ij k.toNat _ (gr UF);have e:((k.toNat:Nat):Int)=k:=by omega
   rw[e]at hx;simp[o_,hc1,h23];refine He trivial ?_;simp[hc1];rw[hx];have hw:(ij.getD k.toNat []).length<=1000:=by
    have:=am9 (gr UF);exact(by decide:∀w∈ij,w.length<=1000) _ this
   have eS:gU k=ij.getD k.toNat []:=by unfold gU;rw[am1 h23]
   rw[eS];generalize ij.getD k.toNat []=W at*;simp[];simp[Gs];rw[bQ (by omega)];simp[];exact fr.bump (by omega)
  ·by_cases h32:k=32
   ·subst h32;simp[o_,hc1];rw[bQ (by simp;omega)];simp[];exact⟨rfl,fr⟩
   ·have eS:gU k=oe k:=by unfold gU;rw[amU h23,amU h32]
    rw[eS];have U7:IntKind.i32.wrap k=k:=by simp only[IntKind.wrap,IntKind.bits,IntKind.signed];simp;omega
    have hX:∀h:AH,kX h .i2s [.int .i32 k]=some (.str (oe k),h):=λh=>rfl
    simp[o_,hc1,h23,h32];simp[Ia,U7,hX];rw[bQ (by have:=rf k;omega)];simp[];exact fr
def adJ:QE prog:=QE.fn 83 (λ_=>True) (fun(y:Int×Int)=>[.agg [I y.1,I y.2]]) (λy _=>fa y.1 y.2=true) (λy=>.str (lQ y.1 y.2)) (λh y _ hx=>WK h y.1 y.2 hx)
theorem Y6{tl h}(k m:Int){Q:QT}(hx:fa k m=true)(hq:Q (.str (lQ k m)) h):tb (adJ::tl) 83 [.agg [I k,I m]] h Q:=
 aV (ag:=fun(y:Int×Int)=>[.agg [I y.1,I y.2]]) (k,m) trivial hx hq
theorem Py{k m:Int}(hk:fa k m=true):gU k≠[]:=by
 rw[jJ]at hk;have hk:0<=m/\m<=15/\((1<=k/\k<=23)\/(32<=k/\k<=1114111/\(k<55296\/57343<k)/\(k<65\/90<k))):=by simpa using hk
 unfold gU;split
 ·rename_i h23;have e:∀q<24,0<q->ij.getD q []≠[]:=by decide
  exact e k.toNat (by omega) (by omega)
 ·split
  ·decide
  ·rw[pQ];have:=Lib.encodeRuneZ_length k;unfold Lib.encodeRune;intro e;have e2:=congrArg List.length e;rw[aor]at e2;simp at e2;have:=this.1;simp[e2]at this
theorem MY{k m:Int}(hk:fa k m=true):lQ k m≠[]:=λe=>by
 unfold lQ at e;exact Py hk (List.append_eq_nil_iff.1 e).2
def chF(k m:Int):Str×Int:=if fa k m=true then(lQ k m,0)else([],1)
theorem Ju(k m:Int):(chF k m).1.length<=1044:=by
 unfold chF;split
 ·exact vW k m
 ·simp
inductive Q41(h:AH)(A:AV)(k m:Int):Nat->List AV->AH->Prop
 |zero {h':AH}:Fr h h'->Q41 h A k m 1 [A,.str [],I 0] h'
 |one {h':AH}:fa k m=true->Fr h h'->Q41 h A k m 0 [A,.str (lQ k m),I 1] h'
theorem Wu(h:AH)(kk:Nat)(k m:Int)(hx:h.ab kk=some [I k,I m]/\kk<h.nx):aK prog 41 [.rsl kk 0 1 2] h (.tup [.str (chF k m).1,I (chF k m).2]) h:=by
 obtain⟨hc,hkk⟩:=hx;refine kM (λH=>gP (.str _) (.int _ _)) (C41 (aW [e82,adJ]) ?_);simp[g41];refine⟨Q41 h (.rsl kk 0 1 2) k m,1,.zero (Fr.refl h),?_⟩;rintro n vs h' hq;cases hq with
 |zero fr=>
  have hc':h'.ab kk=some [I k,I m]:=by rw[ay (fr.get kk hkk)];exact hc
  have hix:∀h:AH,aF h 2 (.rsl kk 0 1 2) (I 0)=some (.ptr kk 0,h):=λh=>dY (i:=0) (by omega) (by omega)
  simp[G6,hix,hc'];refine Yi k m trivial ?_;cases hv:fa k m
  ·simp[];simp[Iv];unfold chF;rw[hv];exact⟨⟨rfl,rfl⟩,fr⟩
  ·simp[];refine⟨λvs h2=>vs=[.rsl kk 0 1 2,.str [],I 0]/\h2=h',?_,?_⟩
   ·simp[Q2]
   ·rintro vs h2 ⟨rfl,rfl⟩;simp[Uh,hix,hc'];refine Y6 k m hv ?_;have k1:=bQ (h:=h2) (a:=[]) (b:=lQ k m) (by have:=vW k m;simp;omega);rw[k1];simp[];exact .one hv fr
 |one hv fr=>
  have hne:=MY hv;simp[G6];simp[Iv,G7,hne];unfold chF;rw[am1 hv];exact⟨⟨rfl,rfl⟩,fr⟩
def e41:QE prog:=QE.fn 41 (λ_=>True) (fun(y:Nat×Int×Int)=>match y with|⟨kk,k,m⟩=>[.rsl kk 0 1 2]) (fun(y:Nat×Int×Int)(h:AH)=>match y with|⟨kk,k,m⟩=>h.ab kk=some [I k,I m]/\kk<h.nx) (fun(y:Nat×Int×Int)=>match y with|⟨kk,k,m⟩=>.tup [.str (chF k m).1,I (chF k m).2]) (λh y hj hx=>match y,hx with|⟨kk,k,m⟩,hx=>Wu h kk k m hx)
theorem adz{tl h}(kk:Nat)(k:Int)(m:Int){Q:QT}(hx:h.ab kk=some [I k,I m]/\kk<h.nx)(hq:Q (.tup [.str (chF k m).1,I (chF k m).2]) h):tb (e41::tl) 41 [.rsl kk 0 1 2] h Q:=aV (kk,k,m) trivial hx hq
@[simp ↓] theorem akt:TbT e41 41:=aH e41
