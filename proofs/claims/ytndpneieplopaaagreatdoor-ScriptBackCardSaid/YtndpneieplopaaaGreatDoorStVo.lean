/- Every plain input is read back. -/
import Derived.Test.YtndpneieplopaaaGreatDoorStUy
set_option linter.unusedSimpArgs false
set_option linter.unusedVariables false
noncomputable section
namespace Go.Proofs.YtndpneieplopaaaGreatDoor
open Go.Eng Go.St Go.RowKit
theorem arV:∀l:Str,(∀c∈l,c.toNat<128)->cC (l.map λc=>(c.toNat:Int))=l
 |[],_=>rfl
 |c::l,h=>by
  have hc:=h c (by simp);rw[anO,pf,asV (by omega) (by omega),arV l λd hd=>h d (by simp[hd])];simp
theorem as6(l:Str)(h:∀c∈l,c.toNat<128):Lib.validD l=true:=by
 rw[<-arV l h];refine aqa λn hn=>?_
 obtain⟨c,hc,rfl⟩:=an0.1 hn;have:=h c hc;exact⟨by omega,by omega⟩
theorem awf(x:Sr):Lib.validD (wdV x 4)=true/\(wdV x 4).length<=4:=by
 refine⟨as6 _ λc hc=>?_,by have:=VC x (show(0:Int)<=4 by omega);omega⟩;refine qT (p:=λc:UInt8=>c.toNat<128) (λy=>?_) _ _ c hc;have h2:=eu y (show(1:Int)<=4 by omega);show(UInt8.ofNat (97+(nV y 4).toNat)).toNat<128
 rw[UInt8.toNat_ofNat'];omega
theorem azX{n:Int}(h : -1099511627776<=n/\n<=1099511627776):TV (.s 1) (.mk 1 n [] []):=⟨rfl,.inl ⟨rfl,rfl,h,rfl⟩⟩
theorem azC{n:Int}(h:n=0\/n=1):TV (.s 2) (.mk 2 n [] []):=⟨rfl,.inr (.inl ⟨rfl,rfl,h,rfl⟩)⟩
theorem aAl(x:Sr):TV (.s 3) (.mk 3 0 (wdV x 4) []):=⟨rfl,.inr (.inr ⟨rfl,rfl,rfl,(awf x).1,(awf x).2⟩)⟩
theorem n2(x:Sr):nV x 2=0\/nV x 2=1:=by
 have h1:=eG x 2;have h2:=eu x (show(1:Int)<=2 by omega);omega
theorem aub{f:Val->Sr->Val×Sr}{σ:Ty}(hf:∀v y,TV σ v->TV σ (f v y).1):∀(l:List Val) (x:Sr),(∀v∈l,TV σ v)->(lkL f l x).1.length<=l.length/\∀v∈(lkL f l x).1,TV σ v
 |[],x,_=>⟨amY _,by simp[lkL]⟩
 |v::r,x,h=>by
  unfold lkL;split
  ·obtain⟨h1,h2⟩:=aub hf r (f v (nS x 3)).2 λu hu=>h u (by simp[hu])
   refine⟨by simp only[am6];omega,λu hu=>?_⟩;rcases anT.1 hu with rfl|hu
   ·exact hf v _ (h v (by simp))
   ·exact h2 u hu
  ·obtain⟨h1,h2⟩:=aub hf r (nS x 3) λu hu=>h u (by simp[hu])
   exact⟨by simp only[am6];omega,h2⟩
theorem ayv:∀(τ:Ty) (n:Nat) (v:Val) (x:Sr),tH τ<n->TV τ v->TV τ (lk n v x).1
 |_,0,_,_,h,_=>by omega
 |.s j,n+1,.mk k m s l,x,_,h=>by
  obtain⟨rfl,h⟩:=h;unfold lk;rcases h with⟨rfl,rfl,_⟩|⟨rfl,rfl,_⟩|⟨rfl,rfl,_⟩
  ·rw[am1 rfl];have h1:=eG x 13;have h2:=eu x (show(1:Int)<=13 by omega);refine azX ?_;unfold rgV;rw[show(9:Int) - -3+1=13 by omega];omega
  ·rw[amU (by decide),am1 rfl];exact azC (n2 x)
  ·rw[amU (by decide),amU (by decide),am1 rfl];exact aAl x
 |.l σ,n+1,.mk k m s l,x,hn,h=>by
  obtain⟨rfl,rfl,rfl,hl,hv⟩:=h;unfold lk;rw[amU (by decide),amU (by decide),amU (by decide)];simp only[tH]at hn;obtain⟨h1,h2⟩:=aub (f:=lk n) (λv y hv=>ayv σ n v y (by omega) hv) l x hv;exact⟨rfl,rfl,rfl,by omega,h2⟩
theorem awh(x:Sr):TV (.s 1) (vaN x).1:=by
 refine azX ?_;have:∀k,(jG.getD k 0)∈jG\/jG.getD k 0=0:=λk=>by
  by_cases h:k<jG.length
  ·exact .inl (am9 (by rw[am0 h,anh,am0 h];rfl))
  ·exact .inr (by rw[anh,aoa (by omega)];rfl)
 rcases this (nV x 10).toNat with h|h
 ·exact(by decide:∀n∈jG, -1099511627776<=n/\n<=1099511627776) _ h
 ·rw[h];omega
theorem aw8{L:Sr->Val×Sr}{d:Nat}(hL:∀x,∃τ,tH τ<=d/\TV τ (L x).1)(x:Sr):∃τ,tH τ<=d/\TV τ (vaW L x).1:=by
 unfold vaW;split
 ·exact⟨.s 2,by simp[tH],azC (n2 _)⟩
 split
 ·exact⟨.s 3,by simp[tH],aAl _⟩
 split
 ·exact hL _
 ·exact⟨.s 1,by simp[tH],awh _⟩
theorem ayD:∀(d:Nat) (x:Sr),∃τ,tH τ<=d/\TV τ (va d x).1
 |0,x=>aw8 (λy=>⟨.s 1,by simp[tH],awh y⟩) x
 |d+1,x=>aw8 (λy=>by
   unfold vaL;split
   ·obtain⟨τ,h1,h2⟩:=ayD d (nS y 4);have n1:=eu y (show(1:Int)<=4 by omega);refine⟨.l τ,by simp only[tH];omega,rfl,rfl,rfl,?_,λv hv=>?_⟩
    ·simp only[am6,mr];omega
    ·rcases anT.1 hv with rfl|hv
     ·exact h2
     ·exact qT (p:=TV τ) (λz=>ayv τ (d+1) _ z (by omega) h2) _ _ v hv
   ·exact⟨.l (.s 1),by simp[tH],rfl,rfl,rfl,by simp,by simp⟩) x
def wB:Nat->Nat
 |0=>22
 |n+1=>3*wB n+5
theorem axk{n:Int}(h:i64 n):(Lib.itoa n).length<=22:=by
 have:=aoZ [n] (by simpa using h);have e:zA [n]=Lib.itoa n++[]:=rfl;rw[e]at this;simpa using this
theorem azE:∀(τ:Ty) (v:Val),TV τ v->PI (MP v)/\(MP v).length<=wB (tH τ)
 |.s j,.mk k n s l,h=>by
  obtain⟨rfl,h⟩:=h;rcases h with⟨rfl,_,hn,rfl⟩|⟨rfl,_,hn,rfl⟩|⟨rfl,_,rfl,hs,hl⟩
  ·have e:MP (.mk 1 n [] [])=Lib.itoa n:=by simp[MP]
   rw[e];exact⟨GV n,by show _<=22;exact axk (by unfold i64;omega)⟩
  ·rcases hn with rfl|rfl
   ·exact⟨by decide,by show _<=22;decide⟩
   ·exact⟨by decide,by show _<=22;decide⟩
  ·have e:MP (.mk 3 0 s [])=wQ s:=by simp[MP]
   rw[e];have h1:=ao9 s;have h2:=apA s;refine⟨aq7 s,?_⟩;simp only[wQ,am6,amX,anr,tH,wB];omega
 |.l σ,.mk k n s l,h=>by
  obtain⟨rfl,rfl,rfl,hl,hv⟩:=h;have e:MP (.mk 4 0 [] l)=[91]++p6 (kS l)++[93]:=by simp[MP]
  have hm:∀l:List Val,(∀v∈l,TV σ v)->(∀w∈kS l,PI w)/\(kI (kS l)).length<=l.length*(wB (tH σ)+1):=λl=>by
   induction l with
   |nil=>simp[kS,kI]
   |cons a l ih=>
    intro h;obtain⟨i1,i2⟩:=ih λv hv=>h v (by simp[hv])
    obtain⟨a1,a2⟩:=azE σ a (h a (by simp));refine⟨λw hw=>?_,?_⟩
    ·simp only[kS]at hw;rcases anT.1 hw with rfl|hw
     ·exact a1
     ·exact i1 w hw
    ·simp only[kS,kI,am6,amX,anY];omega
  obtain⟨m1,m2⟩:=hm l hv;have hj:=apE (kS l);have h3:l.length*(wB (tH σ)+1)<=3*(wB (tH σ)+1):=anS _ hl;rw[e];refine⟨lE (lE (by decide) (avH m1)) (by decide),?_⟩;simp only[amX,am6,anr,tH,wB];omega
theorem aAi:∀τ:Ty,tH τ<=2->tN τ<=13
 |.s _,_=>by simp[tN]
 |.l (.s _),_=>by simp[tN]
 |.l (.l (.s _)),_=>by simp[tN]
 |.l (.l (.l t)),h=>by simp only[tH]at h;omega
theorem aze(x:Sr):(WfV 17 (GY x)/\mT (GY x)=0)/\(WB (GY x)/\PI (MP (GY x)))/\(MP (GY x)).length<=300:=by
 obtain⟨τ,h1,h2⟩:=ayD 2 x;have hc:=axN h2 (by omega) (by have:=aAi τ h1;omega);obtain⟨h3,h4⟩:=azE τ _ h2;have h5:wB (tH τ)<=300:=by
  have:tH τ=0\/tH τ=1\/tH τ=2:=by omega
  rcases this with h|h|h<;>rw[h]<;>decide
 exact⟨⟨ays τ 17 _ h2 (by omega),hc⟩,⟨auN _ hc,h3⟩,ane h4 h5⟩
theorem ayi(x:Sr)(n:Int):∀m∈vdV x n,apk m:=λm hm=>
 asR _ _ (amY _) m (aCp hm)
theorem aqq(x:Sr){n:Int}(h:1<=n)(h2:n<=100000):nb (nV x n):=by
 have h1:=eG x n;have h2:=eu x h;unfold nb eM;omega
theorem azc(c n:Int)(hn : -1000<=n/\n<=1000)(x:Sr):RdS (plC c n x).1:=by
 have hnb:nb n:=by unfold nb eM;omega
 have hnn:nb (-n):=by unfold nb eM;omega
 unfold plC;split
 ·have h1:=eG x 6;have h2:=eu x (show(1:Int)<=6 by omega);obtain⟨k,hk⟩:=anu h1;have e:rgV x 1 6=1+(k:Int):=by unfold rgV;rw[show(6:Int)-1+1=6 by omega,hk]
  have hw:nb (rgV (nS (nS (nS x 6) 9) 99) (-9) 9):=by
   unfold rgV;rw[show(9:Int) - -9+1=19 by omega];have:=aqq (nS (nS (nS x 6) 9) 99) (n:=19) (by omega) (by omega);have h2:=eu (nS (nS (nS x 6) 9) 99) (show(1:Int)<=19 by omega);have h1:=eG (nS (nS (nS x 6) 9) 99) 19;unfold nb eM;omega
  unfold pl0;rw[e];exact rd1 k (by omega) _ _ _ _ _ (aqq _ (by omega) (by omega)) hnb hnn (aqq _ (by omega) (by omega)) hw
 split
 ·have e:(chV x).headD (0,0)=Hl (nS x 3):=by
   have h1:=eG x 3;have h2:1<=(rgV x 1 3).toNat:=by unfold rgV;rw[show(3:Int)-1+1=3 by omega];omega
   unfold chV;obtain⟨m,hm⟩:∃m,(rgV x 1 3).toNat=m+1:=⟨(rgV x 1 3).toNat-1,by omega⟩;rw[hm];rfl
  unfold pl1;rw[e];have h1:=eG (nS x 3) 7;have h2:=eu (nS x 3) (show(1:Int)<=7 by omega);have h3:=eG (nS (nS x 3) 7) 3;have h4:=eu (nS (nS x 3) 7) (show(1:Int)<=3 by omega);refine rd2 _ _ ?_ ?_ _ (aqq _ (by omega) (by omega))
  ·show mn.getD (nV (nS x 3) 7).toNat 0∈mn
   have hl:(nV (nS x 3) 7).toNat<mn.length:=by show _<7;omega
   rw[anh,am0 hl];exact anL hl
  ·show nV (nS (nS x 3) 7) 3∈[(0:Int),1,2]
   simp only[anT,aoc,or_false];omega
 split
 ·exact rd3 n hnb
 split
 ·exact rd4 n _ hnb (aqq _ (by omega) (by omega))
 split
 ·refine rd5 _ _ _ ?_;have:∀k,(kA.getD k 0)∈kA\/kA.getD k 0=0:=λk=>by
   by_cases h:k<kA.length
   ·exact .inl (am9 (by rw[am0 h,anh,am0 h];rfl))
   ·exact .inr (by rw[anh,aoa (by omega)];rfl)
  rcases this (nV (nS (nS x 2) 2) 5).toNat with h|h
  ·have:=(by decide:∀n∈kA,0<=n/\n<=1000) _ h;unfold nb eM;omega
  ·rw[h];exact nb0
 split
 ·have h2:=eu x (show(1:Int)<=3 by omega);have hl:(itV GY yg (nV x 3).toNat (nS x 3)).length<=2:=by rw[mr];omega
  have hp:=qT (V:=GY) (S:=yg) (p:=λv=>(WfV 17 v/\mT v=0)/\(WB v/\PI (MP v))/\(MP v).length<=300) aze (nV x 3).toNat (nS x 3);unfold pl5;generalize itV GY yg (nV x 3).toNat (nS x 3)=L at*;refine rd6 L (by omega) (λv hv=>(hp v hv).1) (λv hv=>(hp v hv).2.1) ?_;have ht:∀l:List Val,(∀v∈l,(MP v).length<=300)->(kI (kS l)).length<=301*l.length:=λl=>by
   induction l with
   |nil=>simp[kS,kI]
   |cons a l ih=>
    intro h;have h1:=ih λv hv=>h v (by simp[hv])
    have h2:=h a (by simp);simp only[kS,kI,am6,amX];omega
  have:=ht L λv hv=>(hp v hv).2.2
  omega
 split
 ·have h2:=eu (nS x 9) (show(1:Int)<=9 by omega);have hv:=Ti (nS (nS (nS (nS x 9) 9) 9) 9) 4;have he:=lL (vdV (nS (nS (nS (nS x 9) 9) 9) 9) 4);have e4:(4:Int).toNat=4:=rfl;unfold pl6;exact rd7 _ (by omega) _ _ _ _ _ (aqq _ (by omega) (by omega)) hnb (aqq _ (by omega) (by omega)) (aqq _ (by omega) (by omega)) (aqa (ayi _ _)) (by omega)
 ·have hT:∀(k:Int) (y:Sr),(plT k y).length<=5/\∀m∈plT k y,apk m:=λk y=>by
   unfold plT;split
   ·have:=Ti y 5;have e5:(5:Int).toNat=5:=rfl;exact⟨by omega,ayi y 5⟩
   ·simp
  have h1:=eG x 4;have h2:=eu x (show(1:Int)<=4 by omega);have er:rgV x 14 17=14+nV x 4:=by unfold rgV;rw[show(17:Int)-14+1=4 by omega]
  rw[TZ];split
  ·rename_i h15;rw[h15];refine aAR _ (hT _ _).2 (by have:=(hT 15 (nS x 4)).1;omega) _ (aqq _ (by omega) (by omega)) _ ?_ ?_
   ·refine qT (p:=λp:Int×Bool=>1<=p.1/\p.1<=1000) (λy=>?_) _ _;have h1:=eG y 3;have h2:=eu y (show(1:Int)<=3 by omega);show 1<=rgV y 1 3/\rgV y 1 3<=1000
    unfold rgV;rw[show(3:Int)-1+1=3 by omega];omega
   ·rw[mr];have h2:=eu (nS (mU 15 (nS x 4)) 6) (show(1:Int)<=3 by omega);omega
  ·rename_i h15;have:rgV x 14 17=16\/rgV x 14 17=14\/rgV x 14 17=17:=by omega
   rcases this with h|h|h
   ·rw[h];exact aAN _ (hT _ _).2 (by have:=(hT 16 (nS x 4)).1;omega)
   ·rw[h];exact azT 0 (.inl rfl)
   ·rw[h];exact azT 3 (.inr rfl)
theorem ayN(x:Sr):RdS (plI x):=by
 have h1:=eG x 1003;have h2:=eu x (show(1:Int)<=1003 by omega);refine azc _ _ ?_ _;unfold rgV;rw[show(999:Int) - -3+1=1003 by omega];omega
open Tryz
inductive aAr(h:AH)(A B:AV)(L M:List Inp):Nat->List AV->AH->Prop
 |mk {m:Nat} {h':AH} (i:Nat):i+m=L.length->L.take i=M.take i->Fr h h'->aAr h A B L M m [A,B,I i] h'
theorem awR(h:AH)(A B:AV)(L M:List Inp)(css dss:List (LA))(hx:Lst h A css/\Lst h B dss/\wi L css/\wi M dss/\L.length<=1000000/\∀i∈L,InB i):aK prog 14 [A,B] h (.bool (dq L M)) h:=by
 obtain⟨hA,hB,⟨hl1,hc1⟩,⟨hl2,hc2⟩,hL,hw⟩:=hx;refine kM (λ_=>.bool _) (C14 (aW [e18]) ?_);have l1:∀h:AH,bh h A=some (I L.length,h):=λh=>by rw[hA.len,hl1]
 have l2:∀h:AH,bh h B=some (I M.length,h):=λh=>by rw[hB.len,hl2]
 by_cases hl:L.length=M.length
 ·have hl':(L.length:Int)=M.length:=by omega
  simp[g14,l1,l2,hl'];refine⟨aAr h A B L M,L.length,.mk 0 (by simp) rfl (Fr.refl h),?_⟩;rintro m vs h' ⟨i,him,ht,fr⟩;cases m with
  |zero=>
   have hlt:¬(i:Int)<L.length:=by omega
   simp[Ij,l1,hlt];simp[Iy,HR];have:L=M:=by
    rw[anc (by omega),anc (by omega)]at ht;exact ht
   exact⟨gv this,fr⟩
  |succ m=>
   have h1:i<L.length:=by omega
   have h2:i<M.length:=by omega
   have hlt:(i:Int)<L.length:=by omega
   have g1:css[i]?=some (css[i]'(by omega)):=by simp
   have g2:dss[i]?=some (dss[i]'(by omega)):=by simp
   have q1:=hc1 i L[i] _ (by simp) g1;have q2:=hc2 i M[i] _ (by simp) g2;generalize css[i]'(by omega)=c at*;generalize dss[i]'(by omega)=d at*;have fr2:=fr.bump (k:=h'.nx+10) (by omega);obtain⟨p,hp⟩:=hA.at_ i c g1;obtain⟨p',hp'⟩:=hB.at_ i d g2;have i1:=(hp _ fr2).1;have k1:=(hp _ fr2).2;have i2:=(hp' _ fr2).1;have k2:=(hp' _ fr2).2;simp[Ij,l1,hlt,i1,k1];simp[S7,i2,k2];refine YM L[i] M[i] c d ⟨q1,q2,hw _ (anL h1)⟩ ?_;refine⟨by simp,?_⟩;by_cases he:L[i]=M[i]
   ·rw[gv he];simp(disch:=first|go_size|fail)[];refine⟨m,by omega,?_⟩;exact .mk (i+1) (show i+1+m=L.length by omega) (g_ ht h1 h2 he) fr2
   ·rw[dZ he];simp[];simp[Iy];exact⟨dZ λe=>he (by simp only[e]),fr2⟩
 ·have hl':¬(L.length:Int)=M.length:=by omega
  simp[g14,l1,l2,hl'];exact⟨dZ λe=>hl (by rw[e]),Fr.refl h⟩
def awP:QE prog:=
 ⟨14,λargs h Q=>∃A B L M css dss,args=[A,B]/\(Lst h A css/\Lst h B dss/\wi L css/\wi M dss/\L.length<=1000000/\∀i∈L,InB i)/\Q (.bool (dq L M)) h,λargs h Q ⟨A,B,L,M,css,dss,h1,h2,h3⟩=>by
  subst h1;exact⟨_,_,awR h A B L M css dss h2,h3⟩⟩
theorem ayL{tl h}{A B:AV}(L M:List Inp)(css dss:List (LA)){Q:QT}(hx:Lst h A css/\Lst h B dss/\wi L css/\wi M dss/\L.length<=1000000/\∀i∈L,InB i)(hq:Q (.bool (dq L M)) h):tb (awP::tl) 14 [A,B] h Q:=by
 rw[dJ _ tl 14 _ _ _ rfl];exact⟨A,B,L,M,css,dss,rfl,hx,hq⟩
@[simp ↓] theorem aAM:TbT awP 14:=aH awP
def bE:List (QE prog):=[e7,e8,e9,e11,e12,awP,e15,e17]
theorem auM(s:Str):yk (qG s) =.tup [.psl ((qG s).1.getD []),I (qG s).2.1,I (qG s).2.2]:=rfl
inductive LB2(h:AH)(kt:Nat)(T:List Str):Nat->List AV->AH->Prop
 |mk {m:Nat} {h':AH} (i:Nat):i+m=3->Fr h h'->LB2 h kt T m [.rsl kt 0 3 1,I i] h'
theorem axL{h h1:AH}{kt:Nat}{T:List Str}(hg:GJ h1)(fr0:Fr h h1)(hc:h1.ab kt=some (T.map λs=>.str s))(hk:kt<h1.nx)(hT:T.length=3)(hl:∀s∈T,s.length<=38000):
  b9 (λvs h k=>auy (tb bE) (ai vs 0) (ai vs 1) h k) [.rsl kt 0 3 1,I 0] h1 λx vs h2=>axe (tb bE) x (ai vs 0) h2 λv h'=>v =.bool true/\Fr h h':=by
 refine⟨LB2 h1 kt T,3,.mk 0 rfl (Fr.refl h1),?_⟩;rintro m vs h2 ⟨i,him,fr⟩;have hg2:=hg.fr fr;cases m with
 |zero=>
  obtain rfl:i=3:=by omega
  unfold bE;simp[auy];simp[axe];unfold aw3;simp[];refine aeK hg2 trivial ?_;simp[];exact fr0.trans fr
 |succ m=>
  have hi:i<T.length:=by omega
  have hlt:(i:Int)<3:=by omega
  have hix:=qz h2 kt 3 i (by omega);have hgt:(T.map λs=>AV.str s)[i]?=some (.str T[i]):=by simp[hi]
  have hs:=hl _ (anL hi);have hc2:h2.ab kt=some (T.map λs=>.str s):=by rw[ay (fr.get kt hk)];exact hc
  generalize T[i]=s at*;generalize(T.map λs=>AV.str s)=TT at*;unfold bE;simp[auy,hlt];refine⟨λx vs h3=>x =.nrm/\vs=[.undef,.rsl kt 0 3 1,I i]/\h3=h2,?_,?_⟩
  ·simp[ayj,hix,hc2,hgt];refine XU s hg2 (by omega) ?_;rw[auM];by_cases he:(qG s).2.2=0
   ·obtain⟨L,r1,r2,r3,r4⟩:=auU s.length s [] (amY _) hs (by simp) he;have hin:=aut r1;have e1:(qG s).1.getD []=L.map λi=>(iM (p8 i)).1:=by
     unfold qG;rw[r4];rfl
    rw[e1,he];simp at r3;generalize(L.map λi=>(iM (p8 i)).1)=css at*;have agU:Lst h2 (.psl css) css:=aao (.inl rfl) λc hc=>by
     obtain⟨k,hk,rfl⟩:=List.getElem_of_mem hc;have hkl:k<L.length:=by rw[hin.1];exact hk
     exact(hin.2 k L[k] css[k] (by simp) (by simp)).len
    simp[awS];refine ayq (.psl css) L css hg2 ⟨agU,hin,r3,r1⟩ ?_;rw[r2];simp[ayA];refine⟨λvs h3=>vs=[.rsl kt 0 3 1,I i,.bool false]/\h3=h2,?_,?_⟩
    ·simp[aym,hix,hc2,hgt]
    ·rintro vs h3 ⟨rfl,rfl⟩;simp[ayh]
   ·simp(disch:=first|go_size|fail)[awS,he]
  ·rintro x vs h3 ⟨rfl,rfl,rfl⟩;simp(disch:=first|go_size|fail)[ayg];exact⟨m,by omega,.mk (i+1) (show i+1+m=3 by omega) fr⟩
inductive LB1(t:Str)(h1 hb:AH)(id:Nat):Nat->List AV->AH->Prop
 |mk {m:Nat} {h':AH} (x:Sr) (lv:AV) (acc:List Inp):x.Ok->acc.length+m<=5->(∀i∈acc,RdS i)->GI h1 hb h' id x 37 lv acc.length (acc.map inC).flatten->LB1 t h1 hb id m [.str t,.ptr id 0,lv,I m] h'
theorem azl(h:AH)(t:Str)(l:List Int)(hg:GJ h):aK prog 5 [.str t,jO l] h (.bool true) h:=by
 refine kM (λ_=>.bool _) (C5 (aW bE) ?_);by_cases ht:(300:Int)<t.length
 ·simp[g5,ht];exact Fr.refl h
 have htl:t.length<=300:=by omega
 have hbE:bE=[e7,e8,e9,e11,e12,awP,e15,e17]:=rfl;unfold g5;rw[hbE];simp[ht];refine ahr l ?_;have hx:=VL l;have hc1:(h.add (.cells (srC (sL l)))).ab h.nx=some (srC (sL l)):=bd _ _ _ rfl;have hid:h.nx<(h.add (.cells (srC (sL l)))).nx:=by simp
 have fr1:Fr h (h.add (.cells (srC (sL l)))):=(Fr.refl h).add _;have h8:8<=h.nx:=hg.2;generalize h.add (.cells (srC (sL l)))=h1 at*;have hg1:=hg.fr fr1;generalize sL l=x at*;refine gD 6 hc1 hid ⟨hx,by omega⟩ ?_;have ho:=(Ob.start hc1).set (srC (nS x 6));have n1:=eG x 6;have n2:=eu x (show(1:Int)<=6 by omega);obtain⟨m0,hm0⟩:=anu n1;have hx:=bn hx 6;generalize h1.set h.nx (.cells (srC (nS x 6)))=h2 at*;generalize nS x 6=x2 at*;rw[hm0];rw[<-hbE];refine⟨LB1 t h1 h2 h.nx,m0,.mk x2 .aa [] hx (by simp;omega) (by simp) (GI.start 37 ho),?_⟩;clear hx ho n1 n2 hm0;rintro m vs h3 ⟨x,lv,acc,hx,hm,hsm,g⟩;cases m with
 |succ m=>
  have hlt:(0:Int)<((m+1:Nat):Int):=by omega
  rw[hbE];simp[aw0,hlt];refine aho g.ob.c (g.ob.lt hid) hx ?_;have g:=g.rd hid (plS x);have hx':=ZD hx;have hpi:=ayN x;generalize h3.set h.nx (.cells (srC (plS x)))=h4 at*;generalize plI x=i at*;generalize plS x=x' at*;have lr:=Wo i;obtain⟨lv',h5,k1,g,hn5,hg5⟩:=g.app hid 376 (tc:=inC i) rfl lr.one (by omega) (by omega);obtain⟨Z,hZ⟩:∃Z:List AV,Z=zIn:=⟨_,rfl⟩;have hZ':Z=[I 0,I 0,I 0,I 0,I 0,I 0,I 0,I 0,I 0,I 0,I 0,I 0,.bool false,.bool false,I 0,.aa,I 0,I 0,I 0,I 0,I 0,.str [],I 0,.aa,.aa,.aa,I 0,I 0,.bool false,I 0,I 0,I 0,I 0,I 0,I 0,.aa,I 0]:=hZ;have haf:bW Z [(0,37,.agg (inC i))]=some (inC i):=by rw[hZ];rfl
  unfold ayw;rw[<-hZ'];simp(disch:=first|go_size|fail)[haf,k1];refine⟨m,by omega,.mk x' lv' (acc++[i]) hx' (by simp;omega) (λj hj=>?_) ?_⟩
  ·rcases anP.1 hj with hj|hj
   ·exact hsm j hj
   ·rw[anQ.1 hj];exact hpi
  ·simpa using g
 |zero=>
  rw[hbE];simp(disch:=first|go_size|fail)[aw0];unfold aw4;simp[];unfold aug;simp[];have agU:Lst h3 lv (acc.map inC):=aay (hb:=h2) (by have:=g.l;simpa using this) (λc hc=>by
   obtain⟨i,_,rfl⟩:=an0.1 hc;rfl)
  have hll:∀h:AH,bh h lv=some (I acc.length,h):=λh=>by rw[agU.len];simp
  have ho:=g.ob;have fr3:Fr h h3:=⟨by have:=ho.nx;omega,λi hi=>by rw[ho.get i (by omega) (by omega)];exact fr1.get i hi⟩;have hg3:=hg.fr fr3;have hrd:∀i∈acc,RdI i:=λi hi=>(hsm i hi).1
  refine ayq lv acc (acc.map inC) hg3 ⟨agU,Uo acc,by omega,hrd⟩ ?_;have hul:(ao7 acc).length<=7001*acc.length:=by
   have:∀L:List Inp,(∀i∈L,(p8 i).length<=7000)->(ao7 L).length<=7001*L.length:=λL=>by
    induction L with
    |nil=>simp[ao7]
    |cons i L ih=>
     intro h;have h1:=h i (by simp);have h2:=ih λj hj=>h j (by simp[hj])
     simp only[ao7,amX,am6]at*;omega
   exact this acc λi hi=>(hsm i hi).2
  have hpr:qG (ao7 acc)=_:=awt acc (ao7 acc).length [] (amY _) (by simp;omega) hrd;have ayf:=aut hrd;simp[ayp];generalize ao7 acc=T at*;refine XU T hg3 (by omega) ?_;rw[auM,hpr];simp only[Option.getD_some,anx,anr,aoe];generalize(acc.map λi=>(iM (p8 i)).1)=css at*;have ayH:Lst h3 (.psl css) css:=aao (.inl rfl) λc hc=>by
   obtain⟨k,hk,rfl⟩:=List.getElem_of_mem hc;have hkl:k<acc.length:=by rw[ayf.1];exact hk
   exact(ayf.2 k acc[k] css[k] (by simp) (by simp)).len
  simp[ayn];refine⟨λvs h4=>vs=[.str t,.ptr h.nx 0,.str T,.bool false]/\h4=h3,?_,?_⟩
  ·simp[ayE,hll];simp[ayC];refine ayL acc acc css (acc.map inC) ⟨ayH,agU,ayf,Uo acc,by omega,λi hi=>(hrd i hi).ib⟩ ?_;rw[gv rfl];simp[]
  ·rintro vs h4 ⟨rfl,rfl⟩;clear agU ayH ayf hsm hrd hpr g hll;simp[awp];refine JL T ho.c (ho.lt hid) ⟨hx,by omega⟩ ?_;have l1:=uT x T;have ho:=ho.set (srC (spS x T));have hx:=ay6 hx T;generalize h4.set h.nx (.cells (srC (spS x T)))=h5 at*;generalize spV x T=r1 at*;generalize spS x T=x2 at*;unfold ayz;simp[];refine JL T ho.c (ho.lt hid) ⟨hx,by omega⟩ ?_;have l2:=uT x2 T;have ho:=ho.set (srC (spS x2 T));generalize h5.set h.nx (.cells (srC (spS x2 T)))=h6 at*;generalize spV x2 T=r2 at*;have haf:bW [.str [],.str [],.str []] [(0,1,.str t),(1,1,.str r1),(2,1,.str r2)]=some ([t,r1,r2].map λs=>.str s):=rfl;simp[haf];have fr6:Fr h h6:=⟨by have:=ho.nx;omega,λi hi=>by rw[ho.get i (by omega) (by omega)];exact fr1.get i hi⟩;have fr8:=fr6.add (.cells ([t,r1,r2].map λs=>.str s));have hc8:(h6.add (.cells ([t,r1,r2].map λs=>.str s))).ab h6.nx=some ([t,r1,r2].map λs=>.str s):=bd _ _ _ rfl;have hk8:h6.nx<(h6.add (.cells ([t,r1,r2].map λs=>.str s))).nx:=by simp
   have:=axL (hg.fr fr8) fr8 hc8 hk8 rfl (λs hs=>by
    simp only[anT,aoc,or_false]at hs;rcases hs with rfl|rfl|rfl<;>omega)
   exact this
def HV:Hp:=((((PM.leaf.put 1 (.iq 1 (qC.map (.int .u8)))).put 2 (.iq 2 (yh.map (.int .u8)))).put 3 (.iq 3 [.iface 258 (.ptr 6 0)])).put 4 (.iq 4 [.iface 258 (.ptr 7 0)])).put 5 (.iq 5 (IV.map (.int .u64)))
def hV:AH:=⟨HV,8⟩
theorem RN(i:Nat):HV.get i=if i=5 then some (.iq 5 (IV.map (.int .u64)))else if i=4 then some (.iq 4 [.iface 258 (.ptr 7 0)])else if i=3 then some (.iq 3 [.iface 258 (.ptr 6 0)])else if i=2 then some (.iq 2 (yh.map (.int .u8)))else if i=1 then some (.iq 1 (qC.map (.int .u8)))else none:=by
 unfold HV;simp only[PM.jA];repeat' split
 all_goals rfl
theorem DJ{id:Nat}{o:dx}(h:HV.get id=some o):∃cs,(id,cs)∈VG/\o =.iq id cs:=by
 rw[RN]at h;split at h
 ·rename_i hi;subst hi;cases h;exact⟨_,by simp[VG],rfl⟩
 split at h
 ·rename_i hi;subst hi;cases h;exact⟨_,by simp[VG],rfl⟩
 split at h
 ·rename_i hi;subst hi;cases h;exact⟨_,by simp[VG],rfl⟩
 split at h
 ·rename_i hi;subst hi;cases h;exact⟨_,by simp[VG],rfl⟩
 split at h
 ·rename_i hi;subst hi;cases h;exact⟨_,by simp[VG],rfl⟩
 ·cases h
theorem PR{g:Nat}{cs:LA}(h:(g,cs)∈VG):HV.get g=some (.iq g cs):=by
 simp only[VG,anT,Prod.mk.injEq,aoc,or_false]at h;rw[RN];rcases h with⟨rfl,rfl⟩|⟨rfl,rfl⟩|⟨rfl,rfl⟩|⟨rfl,rfl⟩|⟨rfl,rfl⟩<;>simp
theorem aev:GJ hV:=⟨λ_ _ h=>PR h,amY _⟩
def bG(s r:Nat×Nat):Bl:=λid=>if id=0 then none else if id<6 then some (id,0)else if id=6 then some s else if id=7 then some r else none
def mu:AV->Bool
 |.int k _=>k !=.i64
 |.iface _ (.ptr id _)=>decide (id<8)
 |_=>false
theorem Oe:VG.all (λx=>x.2.all mu)=true:=by decide +kernel
theorem OI{g:Nat}{cs:LA}(h:(g,cs)∈VG){c:AV}(hc:c∈cs):mu c=true:=
 anK.1 (anK.1 Oe _ h) c hc
theorem vN{g:Nat}{cs:LA}(h:(g,cs)∈VG):1<=g/\g<=5:=by
 simp only[VG,anT,Prod.mk.injEq,aoc,or_false]at h;omega
theorem Zr{id:Nat}(h:1<=id/\id<=5):∃cs,(id,cs)∈VG:=by
 have:id=1\/id=2\/id=3\/id=4\/id=5:=by omega
 rcases this with rfl|rfl|rfl|rfl|rfl
 ·exact⟨qC.map (.int .u8),by simp[VG]⟩
 ·exact⟨yh.map (.int .u8),by simp[VG]⟩
 ·exact⟨[.iface 258 (.ptr 6 0)],by simp[VG]⟩
 ·exact⟨[.iface 258 (.ptr 7 0)],by simp[VG]⟩
 ·exact⟨IV.map (.int .u64),by simp[VG]⟩
theorem OX{hp hp':Array Obj}{L L':Nat->Prop}{β β':Bl}(he:∀id,id<8->β' id=β id){a:AV}(hx:mu a=true){v v':Value}(h:VR hp L β a v)(h':VR hp' L' β' a v'):v=v':=by
 cases a<;>simp[mu]at hx
 ·cases h;cases h';rfl
 ·rename_i t p;cases p<;>simp at hx;rename_i id off;cases h with
  |iface _ _ v h=>
  cases h' with
  |iface _ _ v' h'=>
  cases h with
  |ptr _ _ b base hb=>
  cases h' with
  |ptr _ _ b' eI hb'=>
  rw[he id hx,hb]at hb';cases hb';rfl
theorem Hv{hp hp':Array Obj}{L L':Nat->Prop}{β:Bl}{a:AV}(hx:mu a=true){v:Value}(h:VR hp L β a v):VR hp' L' β a v:=by
 cases a<;>simp[mu]at hx
 ·cases h;exact .int _ _
 ·rename_i t p;cases p<;>simp at hx;cases h with
  |iface _ _ v h=>
  cases h with
  |ptr _ _ b base hb=>exact .iface _ _ _ (.ptr _ _ _ _ hb)
theorem Qb{hp:Array Obj}{L:Nat->Prop}{β:Bl}{a:AV}(hx:mu a=true){n:Int}(h:VR hp L β a (.int .i64 n)):False:=by
 cases a<;>simp[mu]at hx
 ·cases h;exact hx rfl
 ·cases h
def aa2(W:World)(s r:Nat×Nat):Prop:=∀g cs,(g,cs)∈VG->∃cur e fz,W.heap[g]?=some (.cells cur e fz)/\Go.Eng.RL W.heap (λ_=>False) (bG s r) cs cur.toList
theorem Dt{s r:Nat×Nat}{g:Nat}(h:1<=g/\g<=5):bG s r g=some (g,0):=by
 unfold bG;rw[amU (by omega),am1 (by omega)]
theorem Oy{f:Nat}{YQ:LA}(hc:aK prog f YQ hV (.bool true) hV){W:World}{cS:Array Value}{s r:Nat×Nat}(hs:s.1<W.heap.size)(hr:r.1<W.heap.size)(hb:aa2 W s r)
  (hR:Go.Eng.RL W.heap (Go.Eng.LL (λ_=>False) (bG s r) hV.H) (bG s r) YQ cS.toList):Calls prog f cS W λe W'=>e =.returned (.bool true)/\Below W.heap.size W W':=by
 have hS:bV (λ_=>False) (bG s r) hV.H hV.nx W:=by
  refine⟨λid hid=>?_,λid b base hb'=>?_,λb hb=>hb.elim,λid o ho=>?_,λid id' o o' b x y h1 h2 h3 h4=>?_⟩
  ·have h8:8<=id:=hid;unfold bG;rw[amU (by omega),amU (by omega),amU (by omega),amU (by omega)]
  ·unfold bG at hb';split at hb'
   ·cases hb'
   split at hb'
   ·cases hb';have:=Zr (show 1<=id/\id<=5 by omega);obtain⟨cs,hm⟩:=this;obtain⟨cur,e,fz,h1,_⟩:=hb id cs hm;exact gg h1
   split at hb'
   ·cases hb';exact hs
   split at hb'
   ·cases hb';exact hr
   ·cases hb'
  ·obtain⟨cs,hm,rfl⟩:=DJ ho;obtain⟨cur,e,fz,h1,h2⟩:=hb id cs hm;refine⟨id,0,Dt (vN hm),λhf=>hf.elim,rfl,rfl,cur,e,fz,h1,?_,λi c v hc hv=>?_⟩
   ·have:=h2.1;simpa using this
   ·exact Hv (OI hm (am9 hc)) (h2.2 i c v hc (by simpa using hv))
  ·obtain⟨cs,hm,_⟩:=DJ h1;obtain⟨cs',hm',_⟩:=DJ h2;rw[Dt (vN hm)]at h3;rw[Dt (vN hm')]at h4;cases h3;cases h4;rfl
 refine(hc.2 (λ_=>False) (bG s r) W cS hS hR).mono ?_;rintro ee W' ⟨cv,v,h2,β',rfl,⟨rfl,rfl⟩,hS',hv,ht⟩;cases hv;refine⟨rfl,ht.os,ht.tape,ht.output,ht.size,λk hk=>?_⟩;by_cases hkg:∃cs,(k,cs)∈VG
 ·obtain⟨cs,hm⟩:=hkg;obtain⟨cur,e,fz,hbk,hRk⟩:=hb k cs hm;obtain⟨b,base,h1,_,h0,h3,jB,e',fz',h4,h5,h6⟩:=hS'.obj k _ (PR hm);subst h3;obtain⟨CV,fz2,h7,h8,h9⟩:=ht.shape _ _ _ _ hbk;obtain rfl:=h9 ⟨_,_,_,PR hm,h1⟩;rw[h7]at h4;cases h4;rw[h7,hbk];have:jB=cur:=by
   apply Array.ext h8;intro i hi1 hi2;have hlen:=hRk.1;simp at hlen;have hc:cs[i]?=some cs[i]:=am0 (by omega);refine OX (β:=bG s r) (β':=β') (λid hid=>?_) (OI hm (am9 hc)) (hRk.2 i _ _ hc (by simp[hi2])) (h6 i _ _ hc (aCf hi1)) |>.symm;exact ht.low id hid
  rw[this]
 ·refine ht.du k hk ?_;rintro⟨id,o,base,h1,h2⟩;obtain⟨cs,hm,_⟩:=DJ h1;rw[Dt (vN hm)]at h2;cases h2;exact hkg ⟨cs,hm⟩
theorem Nd{W:World}{s r:Nat×Nat}(hb:aa2 W s r){L:List Int}{v:Value}(h:VR W.heap (λ_=>False) noB (jO L) v):VR W.heap (Go.Eng.LL (λ_=>False) (bG s r) hV.H) (bG s r) (jO L) v:=by
 unfold jO at h ⊢;generalize hx:(L.map λx=>[I x])=xs at*;have hel:∀(i:Nat) (x:LA),xs[i]?=some x->∃n,x=[I n]:=λi x hi=>by
  rw[<-hx,anb,anm]at hi;obtain⟨n,_,rfl⟩:=hi;exact⟨n,rfl⟩
 cases h with
 |jS a cap=>exact .jS a cap
 |psl _ z b o cap cur e fz hbk hL hs hz hc h=>
  by_cases h0:xs=[]
  ·subst h0;exact .jS _ _
  have hlen:0<xs.length:=anI.2 h0;obtain⟨x0,hx0⟩:∃x,xs[0]?=some x:=⟨xs[0],am0 hlen⟩;obtain⟨n0,rfl⟩:=hel 0 x0 hx0;have hz1:z=1:=(hz 0 _ hx0).symm;subst hz1;refine .psl _ 1 b o cap cur e fz hbk ?_ hs hz hc λi x j c v h1 h2 h3=>?_
  ·rintro(hf|⟨id,ob,base,h1,h2⟩)
   ·exact hf
   ·obtain⟨cs,hm,_⟩:=DJ h1;rw[Dt (vN hm)]at h2;cases h2;obtain⟨CV,e2,fz2,h4,h5⟩:=hb b cs hm;rw[hbk]at h4;cases h4;have hlt:o<cur.size:=by omega
    have hvo:=h 0 _ 0 (I n0) cur[o] hx0 rfl (by simp[hlt]);have hl2:=h5.1;simp at hl2;have hco:cs[o]?=some cs[o]:=am0 (by omega);have h6:=h5.2 o _ cur[o] hco (by simp[hlt]);generalize cur[o]=vv at*;cases hvo;exact Qb (OI hm (am9 hco)) h6
  ·obtain⟨n,rfl⟩:=hel i x h1;have:=h i _ j c v h1 h2 h3;match j with
   |0=>simp at h2;subst h2;cases this;exact .int _ _
   |j+1=>simp at h2
