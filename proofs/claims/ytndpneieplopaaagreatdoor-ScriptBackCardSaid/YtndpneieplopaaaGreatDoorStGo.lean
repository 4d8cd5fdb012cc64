/- The laws' reader: Text, valid, Valid. -/
import Derived.Test.YtndpneieplopaaaGreatDoorStGb
set_option linter.unusedSimpArgs false
set_option linter.unusedVariables false
noncomputable section
namespace Go.Proofs.YtndpneieplopaaaGreatDoor
open Go.Eng Go.St Tryz
structure GI(h hb h':AH)(id:Nat)(x:Sr)(z:Nat)(lv:AV)(n:Nat)(cs:LA):Prop where
 ob:Ob h h' id (srC x)
 b1:h.nx<=hb.nx
 b2:hb.nx<=h'.nx
 l:OL z hb h' lv n cs
theorem GI.start{h hb:AH}{id:Nat}{x:Sr}(z:Nat)(o:Ob h hb id (srC x)):GI h hb hb id x z .aa 0 []:=⟨o,o.nx,amY _,OL.start _ _ _⟩
theorem GI.rd{h hb h':AH}{id:Nat}{x:Sr}{z:Nat}{lv:AV}{n:Nat}{cs:LA}(g:GI h hb h' id x z lv n cs)(hid:id<h.nx)(y:Sr):GI h hb (h'.set id (.cells (srC y))) id y z lv n cs:=
 ⟨g.ob.set _,g.b1,g.b2,g.l.set (ant hid g.b1) _⟩
theorem GI.bump{h hb h':AH}{id:Nat}{x:Sr}{z:Nat}{lv:AV}{n:Nat}{cs:LA}(g:GI h hb h' id x z lv n cs){k:Nat}(hk:h'.nx<=k):GI h hb ⟨h'.H,k⟩ id x z lv n cs:=
 ⟨g.ob.bump _ hk,g.b1,ane g.b2 hk,g.l.bump hk⟩
theorem GI.app{h hb h':AH}{id:Nat}{x:Sr}{z:Nat}{lv:AV}{n:Nat}{cs tc:LA}(g:GI h hb h' id x z lv n cs)(hid:id<h.nx)(bytes:Nat)(htl:tc.length=z)(hto:dj tc=true)(hn:n<=1000000)(hby:bytes<=1000):
  ∃lv' h2,dK (h'.add (.cells tc)) z bytes lv (.rsl h'.nx 0 1 z)=some (lv',h2)/\GI h hb h2 id x z lv' (n+1) (cs++tc)/\h2.nx=h'.nx+2/\∀i,i<hb.nx->h2.H.get i=h'.H.get i:=by
 obtain⟨lv',h2,h3,h4,h5,h6⟩:=mI g.l g.b2 htl hto hn hby (bytes:=bytes);have hb1:=g.b1;have hb2:=g.b2;exact⟨lv',h2,h3,⟨g.ob.app hid (by omega) λi hi=>h6 i (by omega),g.b1,by omega,h4⟩,h5,h6⟩
def itV{α:Type}(V:Sr->α)(S:Sr->Sr):Nat->Sr->List α
 |0,_=>[]
 |n+1,x=>V x::itV V S n (S x)
def itS(S:Sr->Sr):Nat->Sr->Sr
 |0,x=>x
 |n+1,x=>itS S n (S x)
theorem mr{α:Type}(V:Sr->α)(S:Sr->Sr):∀n x,(itV V S n x).length=n
 |0,_=>rfl
 |n+1,x=>by simp[itV,mr V S n]
theorem pc{S:Sr->Sr}(hS:∀x,x.Ok->(S x).Ok):∀n x,x.Ok->(itS S n x).Ok
 |0,_,h=>h
 |n+1,x,h=>pc hS n _ (hS x h)
def fw5(x:Sr):List Int:=itV ruV ruS 5 x
def F_(x:Sr):Sr:=itS ruS 5 x
def pkV(F:Int)(l:List Int)(x:Sr):Int:=if 0<F then l.getD (nV x 5).toNat 0 else ruV x
def pkS(F:Int)(x:Sr):Sr:=if 0<F then nS x 5 else ruS x
theorem QJ{F:Int}{x:Sr}(h:x.Ok):(pkS F x).Ok:=by
 unfold pkS;split
 ·exact bn h _
 ·exact IA h
def txK(x:Sr)(n:Int):Int:=nV x (n+1)
def txF(x:Sr)(n:Int):Int:=nV (nS x (n+1)) 3
def txB(x:Sr)(n:Int):Sr:=nS (nS x (n+1)) 3
def txV(x:Sr)(n:Int):List Int:=itV (pkV (txF x n) (fw5 (txB x n))) (pkS (txF x n)) (txK x n).toNat (F_ (txB x n))
def txS(x:Sr)(n:Int):Sr:=itS (pkS (txF x n)) (txK x n).toNat (F_ (txB x n))
theorem Rt{x:Sr}(h:x.Ok)(n:Int):(txB x n).Ok:=bn (bn h _) _
theorem GX{x:Sr}(h:x.Ok)(n:Int):(txS x n).Ok:=pc (λ_=>QJ) _ _ (pc (λ_=>IA) _ _ (Rt h n))
theorem ax1(x:Sr){n:Int}(hn:0<=n):((txV x n).length:Int)<=n:=by
 unfold txV;rw[mr];have h1:=eG x (n+1);have h2:=eu x (show 1<=n+1 by omega);unfold txK;omega
inductive T1(h:AH)(id:Nat)(K F:Int)(ALL:List Int)(END:Sr):Nat->List AV->AH->Prop
 |mk {m:Nat} {h':AH} (x:Sr) (lv:AV) (acc:List Int):x.Ok->acc.length+m=5->acc++itV ruV ruS m x=ALL->itS ruS m x=END->GI h h h' id x 1 lv acc.length (acc.map bH)->T1 h id K F ALL END m [.ptr id 0,I K,.aa,I F,lv,I acc.length] h'
inductive T2(h hb:AH)(id ks K:Nat)(F:Int)(SM:List Int)(ALL:List Int)(END:Sr):Nat->List AV->AH->Prop
 |mk {m:Nat} {h':AH} (x:Sr) (lv:AV) (acc:List Int):x.Ok->acc.length+m=K->acc++itV (pkV F SM) (pkS F) m x=ALL->itS (pkS F) m x=END->GI h hb h' id x 1 lv acc.length (acc.map bH)->h'.ab ks=some (SM.map bH)->T2 h hb id ks K F SM ALL END m [.ptr id 0,I K,lv,I F,.rsl ks 0 5 1,I acc.length] h'
inductive T2m(h hb:AH)(id ks K:Nat)(F:Int)(SM:List Int)(x:Sr)(acc:List Int)(i:Nat):List AV->AH->Prop
 |mk {h':AH} (lv:AV):GI h hb h' id x 1 lv acc.length (acc.map bH)->h'.ab ks=some (SM.map bH)->T2m h hb id ks K F SM x acc i [.ptr id 0,I K,lv,I F,.rsl ks 0 5 1,I i] h'
theorem qz(h:AH)(k m a:Nat)(ha:a<m):aF h 1 (.rsl k 0 m 1) (I a)=some (.ptr k a,h):=by
 have:=dY (h:=h) (z:=1) (id:=k) (off:=0) (len:=m) (i:=a) (by omega) (by omega);simpa using this
theorem abi{L:List Int}{a:Nat}(ha:a<L.length):(L.map bH)[a]?=some (bH (L.getD a 0)):=by simp[ha,List.getD]
theorem Xb(h:AH)(id:Nat)(x:Sr)(n:Int)(hc:h.ab id=some (srC x))(hid:id<h.nx)(hx:x.Ok/\0<=n/\n<=1000):aK prog 38 [.ptr id 0,I n] h (.psl (rnC (txV x n))) (h.set id (.cells (srC (txS x n)))):=by
 refine bm (R:=λv h'=>Frz (fresh h' h.nx) false v (.psl (rnC (txV x n)))/\Ob h h' id (srC (txS x n))) hid (dR _) (C38 (aW [e8,e80]) ?_) λv' h' h1=>h1
 obtain⟨hx,hn0,hn1⟩:=hx;simp(disch:=first|go_size|fail)[g38];refine gD (n+1) hc hid ⟨hx,by omega⟩ ?_;have ho:=(Ob.start hc).set (srC (nS x (n+1)));generalize h.set id (.cells (srC (nS x (n+1))))=h1 at*;refine gD 3 ho.c (ho.lt hid) ⟨bn hx _,by omega⟩ ?_;have ho:=ho.set (srC (nS (nS x (n+1)) 3));generalize h1.set id (.cells (srC (nS (nS x (n+1)) 3)))=h2 at*;have eV:txV x n=itV (pkV (txF x n) (fw5 (txB x n))) (pkS (txF x n)) (txK x n).toNat (F_ (txB x n)):=rfl;have eS:txS x n=itS (pkS (txF x n)) (txK x n).toNat (F_ (txB x n)):=rfl;have hxB:=Rt hx n;have hF:nV (nS x (n+1)) 3=txF x n:=rfl;have hB:nS (nS x (n+1)) 3=txB x n:=rfl;have hK0:=eG x (n+1);have hK1:=eu x (show 1<=n+1 by omega);have hKK:nV x (n+1)=((txK x n).toNat:Int):=by unfold txK;omega
 have hK2:(txK x n).toNat<=1000:=by unfold txK;omega
 rw[hF,hKK];rw[hB]at ho;rw[eV,eS];generalize txB x n=xb at*;generalize txF x n=F at*;generalize(txK x n).toNat=K at*;clear eV eS hKK hK0 hK1 hF hB hc hx;refine⟨T1 h id K F (fw5 xb) (F_ xb),5,.mk xb .aa [] hxB rfl rfl rfl (by have:=GI.start 1 ho;exact⟨this.ob,amY _,ho.nx,OL.start _ _ _⟩),?_⟩;rintro m vs h' ⟨x,lv,acc,hx,hm,hA,hE,g⟩;cases m with
 |succ m=>
  have hlt:(acc.length:Int)<5:=by omega
  simp(disch:=first|go_size|fail)[Gy,hlt];refine YG g.ob.c (g.ob.lt hid) hx ?_;have g:=g.rd hid (ruS x);generalize h'.set id (.cells (srC (ruS x)))=h3 at*;obtain⟨lv',h4,k1,g,_,_⟩:=g.app hid 4 (tc:=[bH (ruV x)]) rfl rfl (by omega) (by omega);have haf:bW [.int .i32 0] [(0,1,bH (ruV x))]=some [bH (ruV x)]:=rfl;simp(disch:=first|go_size|fail)[TC,haf,k1];refine⟨m,by omega,?_⟩;have e1:((acc.length:Int)+1)=((acc++[ruV x]).length:Nat):=by simp
  rw[e1];refine .mk (ruS x) lv' (acc++[ruV x]) (IA hx) (by simp;omega) (by rw[<-hA];simp[itV]) (by rw[<-hE];rfl) ?_;simpa using g
 |zero=>
  have hlt:¬(acc.length:Int)<5:=by omega
  have hA':acc=fw5 xb:=by rw[<-hA];simp[itV]
  have hE':x=F_ xb:=hE;simp[Gy,hlt];obtain⟨gob,gb1,gb2,gl⟩:=g;rcases gl with⟨_,h0,_⟩|⟨ks,rfl,hn0,hk0,hk,hcs,hlen⟩
  ·omega
  have hl5:acc.length=5:=by omega
  rw[hl5];rw[hA']at hcs hl5;subst hE';generalize fw5 xb=SM at*;generalize F_ xb=xc at*;clear hA hE hA' hlen hn0 hlt hm;simp[Ot,ID];refine⟨T2 h h' id ks K F SM (itV (pkV F SM) (pkS F) K xc) (itS (pkS F) K xc),K,.mk xc .aa [] hx (by simp) rfl rfl (GI.start 1 gob) hcs,?_⟩;rintro m vs h3 ⟨x,lv,acc,hx,hm,hA,hE,g,hs⟩;have hks:ks≠id:=by omega
  cases m with
  |succ m=>
   have hlt:(acc.length:Int)<K:=by omega
   simp[Il,hlt];refine⟨T2m h h' id ks K F SM (pkS F x) (acc++[pkV F SM x]) acc.length,?_,?_⟩
   ·by_cases hF:0<F
    ·simp[F8,hF];refine gD 5 g.ob.c (g.ob.lt hid) ⟨hx,by omega⟩ ?_;have g:=g.rd hid (nS x 5);have hs2:(h3.set id (.cells (srC (nS x 5)))).ab ks=some (SM.map bH):=by rw[ak _ _ _ _ hks];exact hs
     generalize h3.set id (.cells (srC (nS x 5)))=h4 at*;have e1:pkV F SM x=SM.getD (nV x 5).toNat 0:=by unfold pkV;rw[am1 hF]
     have e2:pkS F x=nS x 5:=by unfold pkS;rw[am1 hF]
     have n1:=eG x 5;have n2:=eu x (show(1:Int)<=5 by omega);obtain⟨q,hq⟩:=anu n1;have hq5:q<5:=by omega
     obtain⟨lv',h5,k1,g,hn5,hg5⟩:=g.app hid 4 (tc:=[bH (pkV F SM x)]) rfl rfl (by omega) (by omega);have haf:bW [.int .i32 0] [(0,1,bH (pkV F SM x))]=some [bH (pkV F SM x)]:=rfl;have hgr:(SM.map bH)[q]?=some (bH (pkV F SM x)):=by rw[e1,hq];exact abi (by omega)
     rw[hq];have hix:=qz h4 ks 5 q hq5;have hs3:h5.ab ks=some (SM.map bH):=(ay (hg5 ks hk)).trans hs2;rw[<-e2]at g;obtain⟨MM,hMM⟩:∃MM,MM=SM.map bH:=⟨_,rfl⟩;rw[<-hMM]at hs2 hgr;simp[TD,hix,hs2,hgr,haf,k1];exact .mk _ (by simpa using g) hs3
    ·simp[F8,hF];refine YG g.ob.c (g.ob.lt hid) hx ?_;have g:=g.rd hid (ruS x);have hs2:(h3.set id (.cells (srC (ruS x)))).ab ks=some (SM.map bH):=by rw[ak _ _ _ _ hks];exact hs
     generalize h3.set id (.cells (srC (ruS x)))=h4 at*;have e1:pkV F SM x=ruV x:=by unfold pkV;rw[amU hF]
     have e2:pkS F x=ruS x:=by unfold pkS;rw[amU hF]
     obtain⟨lv',h5,k1,g,hn5,hg5⟩:=g.app hid 4 (tc:=[bH (ruV x)]) rfl rfl (by omega) (by omega);have haf:bW [.int .i32 0] [(0,1,bH (ruV x))]=some [bH (ruV x)]:=rfl;have hs3:h5.ab ks=some (SM.map bH):=(ay (hg5 ks hk)).trans hs2;rw[<-e2,<-e1]at g;simp(disch:=first|go_size|fail)[SL,haf,k1];exact .mk _ (by simpa using g) hs3
   ·rintro vs h4 ⟨lv,g,hs⟩;simp(disch:=first|go_size|fail)[Q4];refine⟨m,by omega,?_⟩;have e1:((acc.length:Int)+1)=((acc++[pkV F SM x]).length:Nat):=by simp
    rw[e1];exact .mk (pkS F x) lv (acc++[pkV F SM x]) (QJ hx) (by simp;omega) (by rw[<-hA];simp[itV]) (by rw[<-hE];rfl) g hs
  |zero=>
   have hlt:¬(acc.length:Int)<K:=by omega
   simp(disch:=first|go_size|fail)[Il,hlt];simp(disch:=first|go_size|fail)[OM,GM];have hA':itV (pkV F SM) (pkS F) K xc=acc:=by rw[<-hA];simp[itV]
   have hE':itS (pkS F) K xc=x:=hE.symm;rw[hA',hE'];exact⟨Qx g.l (by omega),g.ob⟩
def e38:QE prog:=QE.obj 38 (λ_ _=>True) srC (fun(n:Int)=>[I n]) (fun(x:Sr)(y:Int)=>match y with|n=>x.Ok/\0<=n/\n<=1000) (fun(x:Sr)(y:Int)=>match y with|n=>.psl (rnC (txV x n))) (fun(x:Sr)(y:Int)=>match y with|n=>txS x n) (λh id x y hj hc hid hx=>match y,hx with|n,hx=>Xb h id x n hc hid hx)
theorem aeh{tl h}{id:Nat}{x:Sr}(n:Int){Q:QT}(hc:h.ab id=some (srC x))(hid:id<h.nx)(hx:x.Ok/\0<=n/\n<=1000)(hq:Q (.psl (rnC (txV x n))) (h.set id (.cells (srC (txS x n))))):tb (e38::tl) 38 (.ptr id 0::[I n]) h Q:=bF n trivial hc hid hx hq
@[simp ↓] theorem aki:TbT e38 38:=aH e38
theorem zn(h:AH)(L:List Int):cj h 1 (.psl (rnC L))=some (L.map bH):=by
 have eQ:(rnC L).all (λx=>x.length==1)=true:=by
  rw[anK];intro y hy;simp[Jm L y hy]
 simp only[cj,eQ,anH,Ed]
theorem lL:∀L:List Int,(cC L).length<=4*L.length
 |[]=>by simp[cC]
 |n::L=>by
  have:=lL L;have h2:=rf n;rw[pf,amX,am6];omega
def vdL(L:List Int):List Int:=aD (cC L)
theorem M4(h:AH)(id:Nat)(L:List Int)(hL:L.length<=10000):aK prog 37 [.ptr id 0,.psl (rnC L)] h (.psl (rnC (vdL L))) h:=by
 refine aZ (R:=λv h'=>Frz (fresh h' h.nx) false v (.psl (rnC (vdL L)))/\h.nx<=h'.nx/\∀i,i<h.nx->h'.H.get i=h.H.get i) (C37 (aW []) ?_) λv' h' h1=>h1
 have h1:=Fk (zn h L) (m:=(rnC L).length) rfl;have hl:=lL L;have h2:=qj h (cC L) (by omega);simp[g37];rw[h1];simp[];rw[h2];simp[];have e:(aD (cC L)).length=(rnC (aD (cC L))).length:=by simp[rnC]
 refine⟨?_,λi hi=>by rw[az,amU (by omega)]⟩;have:=mZ (n:=h.nx) (s:=cC L) (bd h ((aD (cC L)).map bH) h.nx rfl) (amY _);exact this
def e37:QE prog:=QE.fn 37 (λ_=>True) (fun(y:Nat×List Int)=>match y with|⟨id,L⟩=>[.ptr id 0,.psl (rnC L)]) (fun(y:Nat×List Int)(h:AH)=>match y with|⟨id,L⟩=>L.length<=10000) (fun(y:Nat×List Int)=>match y with|⟨id,L⟩=>.psl (rnC (vdL L))) (λh y hj hx=>match y,hx with|⟨id,L⟩,hx=>M4 h id L hx)
theorem ad8{tl h}(id:Nat)(L:List Int){Q:QT}(hx:L.length<=10000)(hq:Q (.psl (rnC (vdL L))) h):tb (e37::tl) 37 [.ptr id 0,.psl (rnC L)] h Q:=aV (id,L) trivial hx hq
def vdV(x:Sr)(n:Int):List Int:=(vdL (txV x n)).take n.toNat
theorem ZP(h:AH)(L:List Int)(b:Nat)(hb:b<=L.length):kSl h 1 (.psl (rnC L)) none (some (I b)) none=some (.psl (rnC (L.take b)),h):=by
 have:(b:Int)<=L.length:=by omega
 simp[rnC,kSl,lF,abd,oc,this,fj,asl,hb,List.map_take]
theorem V_(h:AH)(L:List Int):bh h (.psl (rnC L))=some (I L.length,h):=by simp[rnC]
theorem BQ(L:List Int)(H:AH):Frz H false (.psl (rnC L)) (.psl (rnC L)):=
 .psl rfl _ _ rfl (λi x y hx hy=>by rw[hx]at hy;cases hy;rfl) λi x y j c d hx hy hc hd=>by
  rw[hx]at hy;cases hy;rw[hc]at hd;cases hd;exact KK L x (am9 hx) H j c hc
theorem Nh(h:AH)(id:Nat)(x:Sr)(n:Int)(hc:h.ab id=some (srC x))(hid:id<h.nx)(hx:x.Ok/\0<=n/\n<=1000):aK prog 23 [.ptr id 0,I n] h (.psl (rnC (vdV x n))) (h.set id (.cells (srC (txS x n)))):=by
 refine bm (R:=λv h'=>v =.psl (rnC (vdV x n))/\Ob h h' id (srC (txS x n))) hid (dR _) (C23 (aW [e38,e37]) ?_) λv' h' ⟨h1,h2⟩=>⟨by rw[h1];exact BQ _ _,h2⟩
 simp[g23];refine aeh n hc hid hx ?_;have ho:=(Ob.start hc).set (srC (txS x n));generalize h.set id (.cells (srC (txS x n)))=h1 at*;have hl:=ax1 x hx.2.1;unfold vdV;generalize txV x n=T at*;refine ad8 id T (by omega) ?_;generalize vdL T=V at*;have hlv:=V_ h1 V;simp[hlv];obtain⟨m,rfl⟩:=anu hx.2.1;refine⟨λvs h'=>vs=[.psl (rnC (V.take m))]/\h'=h1,?_,?_⟩
 ·by_cases hm:(m:Int)<V.length
  ·have hs:=ZP h1 V m (by omega);simp[I3,hm,hs]
  ·have:V.take m=V:=anc (by omega);simp[I3,hm,this]
 ·rintro vs h' ⟨rfl,rfl⟩;simp[SW];exact ho
def e23:QE prog:=QE.obj 23 (λ_ _=>True) srC (fun(n:Int)=>[I n]) (fun(x:Sr)(y:Int)=>match y with|n=>x.Ok/\0<=n/\n<=1000) (fun(x:Sr)(y:Int)=>match y with|n=>.psl (rnC (vdV x n))) (fun(x:Sr)(y:Int)=>match y with|n=>txS x n) (λh id x y hj hc hid hx=>match y,hx with|n,hx=>Nh h id x n hc hid hx)
theorem Ye{tl h}{id:Nat}{x:Sr}(n:Int){Q:QT}(hc:h.ab id=some (srC x))(hid:id<h.nx)(hx:x.Ok/\0<=n/\n<=1000)(hq:Q (.psl (rnC (vdV x n))) (h.set id (.cells (srC (txS x n))))):tb (e23::tl) 23 (.ptr id 0::[I n]) h Q:=bF n trivial hc hid hx hq
def wdB(x:Sr):UInt8:=UInt8.ofNat (97+(nV x 4).toNat)
def wd1(x:Sr):Sr:=nS x 4
def wdV(x:Sr)(n:Int):Str:=itV wdB wd1 (nV x (n+1)).toNat (nS x (n+1))
def wdS(x:Sr)(n:Int):Sr:=itS wd1 (nV x (n+1)).toNat (nS x (n+1))
theorem Um{x:Sr}(h:x.Ok)(n:Int):(wdS x n).Ok:=pc (λ_ h=>bn h _) _ _ (bn h _)
theorem VC(x:Sr){n:Int}(hn:0<=n):((wdV x n).length:Int)<=n:=by
 unfold wdV;rw[mr];have h1:=eG x (n+1);have h2:=eu x (show 1<=n+1 by omega);omega
inductive W1(h:AH)(id kb K:Nat)(ALL:Str)(END:Sr):Nat->List AV->AH->Prop
 |mk {m:Nat} {h':AH} (x:Sr) (acc:Str):x.Ok->acc.length+m=K->acc++itV wdB wd1 m x=ALL->itS wd1 m x=END->Ob h h' id (srC x)->h'.ab kb=some (aR acc++List.replicate m (.int .u8 0))->W1 h id kb K ALL END m [.ptr id 0,I K,.rsl kb 0 K 1,I acc.length] h'
theorem H4{a:LA}{v w:AV}{r:LA}{n:Nat}(h:a.length=n):fi (a++w::r) n [v]=some (a++v::r):=by
 subst h;unfold fi;rw[am1 (by simp)];simp
theorem Wx(h:AH)(id:Nat)(x:Sr)(n:Int)(hc:h.ab id=some (srC x))(hid:id<h.nx)(hx:x.Ok/\0<=n/\n<=1000):aK prog 35 [.ptr id 0,I n] h (.str (wdV x n)) (h.set id (.cells (srC (wdS x n)))):=by
 refine bm (R:=λv h'=>v =.str (wdV x n)/\Ob h h' id (srC (wdS x n))) hid (dR _) (C35 (aW [e8]) ?_) λv' h' ⟨h1,h2⟩=>⟨by rw[h1];exact .str _,h2⟩
 obtain⟨hx,hn0,hn1⟩:=hx;simp(disch:=first|go_size|fail)[g35];refine gD (n+1) hc hid ⟨hx,by omega⟩ ?_;have ho:=(Ob.start hc).set (srC (nS x (n+1)));generalize h.set id (.cells (srC (nS x (n+1))))=h1 at*;have hK0:=eG x (n+1);have hK1:=eu x (show 1<=n+1 by omega);have hKK:nV x (n+1)=((nV x (n+1)).toNat:Int):=by omega
 have hK2:(nV x (n+1)).toNat<=1000:=by omega
 have hx1:=bn hx (n+1);unfold wdV wdS;generalize(nV x (n+1)).toNat=K at*;generalize nS x (n+1)=xb at*;rw[hKK];have hmk:nZ h1 1 1 [.int .u8 0] (I K) (I K)=some (.rsl h1.nx 0 K 1,h1.add (.cells (List.replicate K (.int .u8 0)))):=by
  have h2:(K:Int)<=9223372036854775807:=by omega
  have h3:K<=140737488355328:=by omega
  have h4:lp K [AV.int .u8 0]=List.replicate K (.int .u8 0):=by
   unfold lp;induction K with
   |zero=>rfl
   |succ k ih=>simp
  simp[nZ,h2,h3,h4]
 simp[hmk];have hkb:h.nx<=h1.nx:=ho.nx;have aji:h1.nx≠id:=by omega
 have hck:(h1.add (.cells (List.replicate K (.int .u8 0)))).ab h1.nx=some (List.replicate K (.int .u8 0)):=bd _ _ _ rfl;have ho:=ho.new hid (h2:=h1.add (.cells (List.replicate K (.int .u8 0)))) (by simp) λi hi=>by rw[az,amU (by omega)]
 generalize h1.add (.cells (List.replicate K (.int .u8 0)))=h2 at*;generalize h1.nx=kb at*;refine⟨W1 h id kb K (itV wdB wd1 K xb) (itS wd1 K xb),K,.mk xb [] hx1 (by simp) rfl rfl ho hck,?_⟩;rintro m vs h3 ⟨x,acc,hx,hm,hA,hE,ho,hb⟩;cases m with
 |succ m=>
  have hlt:(acc.length:Int)<K:=by omega
  simp[HS,hlt];refine gD 4 ho.c (ho.lt hid) ⟨hx,by omega⟩ ?_;have ho:=ho.set (srC (nS x 4));have hb2:(h3.set id (.cells (srC (nS x 4)))).ab kb=some (aR acc++List.replicate (m+1) (.int .u8 0)):=by rw[ak _ _ _ _ aji];exact hb
  generalize h3.set id (.cells (srC (nS x 4)))=h4 at*;have n1:=eG x 4;have n2:=eu x (show(1:Int)<=4 by omega);have hw:IntKind.u8.wrap (97+nV x 4)=((wdB x).toNat:Int):=by
   unfold wdB;simp only[IntKind.wrap,IntKind.bits,IntKind.signed];simp;omega
  have hix:=qz h4 kb K acc.length (by omega);have hsp:fi (aR acc++List.replicate (m+1) (.int .u8 0)) acc.length [.int .u8 (wdB x).toNat]=some (aR acc ++ .int .u8 (wdB x).toNat::List.replicate m (.int .u8 0)):=by
   rw[List.replicate_succ];exact H4 (by simp[aR])
  generalize aR acc++List.replicate (m+1) (.int .u8 0)=CC at*;simp(disch:=first|go_size|fail)[SO,hix,hw,hb2,hsp];refine⟨m,by omega,?_⟩;have e1:((acc.length:Int)+1)=((acc++[wdB x]).length:Nat):=by simp
  rw[e1];refine .mk (nS x 4) (acc++[wdB x]) (bn hx _) (by simp;omega) (by rw[<-hA];simp[itV,wd1]) (by rw[<-hE];rfl) ?_ ?_
  ·exact ho.app hid (by simp) λi hi=>by
    rw[au,amU];omega
  ·rw[eD _ _ _ _ rfl];simp[aR]
 |zero=>
  have hlt:¬(acc.length:Int)<K:=by omega
  have hA':itV wdB wd1 K xb=acc:=by rw[<-hA];simp[itV]
  have hE':itS wd1 K xb=x:=hE.symm;rw[hA',hE'];simp(disch:=first|go_size|fail)[HS,hlt];have hbb:=Co (l:=acc) (by simpa using hb);rw[show acc.length=K by omega]at hbb;simp[TU,F1];rw[hbb];simp[];exact ho
def e35:QE prog:=QE.obj 35 (λ_ _=>True) srC (fun(n:Int)=>[I n]) (fun(x:Sr)(y:Int)=>match y with|n=>x.Ok/\0<=n/\n<=1000) (fun(x:Sr)(y:Int)=>match y with|n=>.str (wdV x n)) (fun(x:Sr)(y:Int)=>match y with|n=>wdS x n) (λh id x y hj hc hid hx=>match y,hx with|n,hx=>Wx h id x n hc hid hx)
theorem XM{tl h}{id:Nat}{x:Sr}(n:Int){Q:QT}(hc:h.ab id=some (srC x))(hid:id<h.nx)(hx:x.Ok/\0<=n/\n<=1000)(hq:Q (.str (wdV x n)) (h.set id (.cells (srC (wdS x n))))):tb (e35::tl) 35 (.ptr id 0::[I n]) h Q:=bF n trivial hc hid hx hq
@[simp ↓] theorem aj_:TbT e35 35:=aH e35
def kA:List Int:=[100,100,50,150,400]
def mdV(x:Sr):LA:=[.bool (nV x 2==1),.bool (nV (nS x 2) 2==1),I (kA.getD (nV (nS (nS x 2) 2) 5).toNat 0)]
def mdS(x:Sr):Sr:=nS (nS (nS x 2) 2) 5
theorem aa_{x:Sr}(h:x.Ok):(mdS x).Ok:=bn (bn (bn h _) _) _
theorem Rx{L:List Int}{a:Nat}(ha:a<L.length):(L.map λn=>I n)[a]?=some (I (L.getD a 0)):=by simp[ha,List.getD]
theorem re{H:AH}{cs ds:LA}(h:ea H false cs ds):Frz H false (.agg cs) (.agg ds):=by
 rw[bK]at h;exact .agg _ _ h.1 h.2
theorem V4(x:Sr)(H:AH):ea H false (mdV x) (mdV x):=⟨.bool _,.bool _,.int _ _,trivial⟩
theorem ZW(h:AH)(id:Nat)(x:Sr)(hc:h.ab id=some (srC x))(hid:id<h.nx)(hx:x.Ok):aK prog 21 [.ptr id 0] h (.agg (mdV x)) (h.set id (.cells (srC (mdS x)))):=by
 refine bm (R:=λv h'=>v =.agg (mdV x)/\Ob h h' id (srC (mdS x))) hid (dR _) (C21 (aW [e8]) ?_) λv' h' ⟨h1,h2⟩=>⟨by rw[h1];exact re (V4 x _),h2⟩
 unfold mdV mdS;simp[g21];have ho:=(Ob.start hc).new hid (h2:=h.add (.cells [.bool false,.bool false,I 0])) (by simp) λi hi=>by rw[az,amU (by omega)]
 have hck:(h.add (.cells [.bool false,.bool false,I 0])).ab h.nx=some [.bool false,.bool false,I 0]:=bd _ _ _ rfl;have hkl:h.nx<(h.add (.cells [.bool false,.bool false,I 0])).nx:=by simp
 generalize h.add (.cells [.bool false,.bool false,I 0])=h1 at*;have hne:h.nx≠id:=by omega
 refine gD 2 ho.c (ho.lt hid) ⟨hx,by omega⟩ ?_;have ho:=ho.set (srC (nS x 2));have hck:(h1.set id (.cells (srC (nS x 2)))).ab h.nx=some [.bool false,.bool false,I 0]:=by rw[ak _ _ _ _ hne];exact hck
 have hkl:h.nx<(h1.set id (.cells (srC (nS x 2)))).nx:=hkl;have hx:=bn hx 2;generalize h1.set id (.cells (srC (nS x 2)))=h2 at*;generalize nV x 2=a at*;generalize nS x 2=x2 at*;simp[QK];refine gD 2 ho.c (ho.lt hid) ⟨hx,by omega⟩ ?_;have ho:=ho.set (srC (nS x2 2));have hck:(h2.set id (.cells (srC (nS x2 2)))).ab h.nx=some [.bool false,.bool false,I 0]:=by rw[ak _ _ _ _ hne];exact hck
 have hkl:h.nx<(h2.set id (.cells (srC (nS x2 2)))).nx:=hkl;have hx:=bn hx 2;generalize h2.set id (.cells (srC (nS x2 2)))=h3 at*;generalize nV x2 2=b at*;generalize nS x2 2=x3 at*;have haf:bW [I 0,I 0,I 0,I 0,I 0] [(0,1,(I 100)),(1,1,(I 100)),(2,1,(I 50)),(3,1,(I 150)),(4,1,(I 400))]=some (kA.map λn=>I n):=rfl;unfold Qg;simp[haf];have ho:=ho.new hid (h2:=h3.add (.cells (kA.map λn=>I n))) (by simp) λi hi=>by rw[az,amU (by omega)]
 have hck:(h3.add (.cells (kA.map λn=>I n))).ab h.nx=some [.bool false,.bool false,I 0]:=by rw[aC _ _ _ (by omega)];exact hck
 have hcs:(h3.add (.cells (kA.map λn=>I n))).ab h3.nx=some (kA.map λn=>I n):=bd _ _ _ rfl;have ajI:h3.nx≠id:=by omega
 generalize h3.add (.cells (kA.map λn=>I n))=h4 at*;generalize h3.nx=ks at*;refine gD 5 ho.c (ho.lt hid) ⟨hx,by omega⟩ ?_;have ho:=ho.set (srC (nS x3 5));have hck:(h4.set id (.cells (srC (nS x3 5)))).ab h.nx=some [.bool false,.bool false,I 0]:=by rw[ak _ _ _ _ hne];exact hck
 have hcs:(h4.set id (.cells (srC (nS x3 5)))).ab ks=some (kA.map λn=>I n):=by rw[ak _ _ _ _ ajI];exact hcs
 have n1:=eG x3 5;have n2:=eu x3 (show(1:Int)<=5 by omega);obtain⟨q,hq⟩:=anu n1;have hgr:=Rx (L:=kA) (a:=q) (by show q<5;omega);generalize h4.set id (.cells (srC (nS x3 5)))=h5 at*;generalize nS x3 5=x4 at*;rw[hq];have hix:=qz h5 ks 5 q (by omega);generalize kA.map (λn=>I n)=SS at*;simp[Rb,hix,hcs,hgr,hck];exact ho.app hid (by simp) λi hi=>by rw[au,amU (by omega)]
def e21:QE prog:=QE.obj 21 (λ_ _=>True) srC (fun(_:Unit)=>[]) (fun(x:Sr)(y:Unit)=>match y with|_=>x.Ok) (fun(x:Sr)(y:Unit)=>match y with|_=>.agg (mdV x)) (fun(x:Sr)(y:Unit)=>match y with|_=>mdS x) (λh id x y hj hc hid hx=>match y,hx with|_,hx=>ZW h id x hc hid hx)
theorem afs{tl h}{id:Nat}{x:Sr}{Q:QT}(hc:h.ab id=some (srC x))(hid:id<h.nx)(hx:x.Ok)(hq:Q (.agg (mdV x)) (h.set id (.cells (srC (mdS x))))):tb (e21::tl) 21 (.ptr id 0::[]) h Q:=bF () trivial hc hid hx hq
@[simp ↓] theorem aj3:TbT e21 21:=aH e21
def mn:List Int:=[97,107,99,49,32,2,12]
def Hl(x:Sr):Int×Int:=(mn.getD (nV x 7).toNat 0,nV (nS x 7) 3)
def xf(x:Sr):Sr:=nS (nS x 7) 3
def chV(x:Sr):List (Int×Int):=itV Hl xf (rgV x 1 3).toNat (nS x 3)
def chS(x:Sr):Sr:=itS xf (rgV x 1 3).toNat (nS x 3)
theorem LN(x:Sr)(h:x.Ok):(xf x).Ok:=bn (bn h _) _
theorem Q7{x:Sr}(h:x.Ok):(chS x).Ok:=pc LN _ _ (bn h _)
def chC(l:List (Int×Int)):List (LA):=l.map λp=>[I p.1,I p.2]
theorem VU(l:List (Int×Int)):∀y∈chC l,y.length=2:=by
 intro y hy;obtain⟨p,_,rfl⟩:=an0.1 hy;rfl
theorem Mm(l:List (Int×Int)):∀y∈chC l,∀(H:AH) (j:Nat) (c:AV),y[j]?=some c->Frz H false c c:=by
 intro y hy H j c hc;obtain⟨p,_,rfl⟩:=an0.1 hy;match j with
 |0=>simp at hc;subst hc;exact .int _ _
 |1=>simp at hc;subst hc;exact .int _ _
 |j+2=>simp at hc
theorem GI.aiD{h hb h0 h6:AH}{id:Nat}{x y:Sr}{z:Nat}{lv:AV}{n:Nat}{cs tc:LA}(g:GI h hb h0 id x z lv n cs)(hid:id<h.nx)(o:Ob h h6 id (srC y))(hn6:h0.nx<=h6.nx)(hg:∀i,hb.nx<=i->i<h0.nx->h6.H.get i=h0.H.get i)
  (bytes:Nat) {q:Nat} (hq:h6.ab q=some tc) (htl:tc.length=z) (hto:dj tc=true) (hn:n<=1000000) (hby:bytes<=1000):
  ∃lv' h7,dK h6 z bytes lv (.rsl q 0 1 z)=some (lv',h7)/\GI h hb h7 id y z lv' (n+1) (cs++tc)/\h7.nx=h6.nx+1/\(∀i,i<hb.nx->h7.H.get i=h6.H.get i)/\lv'.one=true:=by
 have hb1:=g.b1;have hb2:=g.b2;have l6:OL z hb h6 lv n cs:=g.l.du hn6 hg;obtain⟨lv',h7,k1,k2,k3,k4⟩:=mw (bytes:=bytes) l6 (by omega) hq htl hto hn hby;exact⟨lv',h7,k1,⟨o.app hid (by omega) λi hi=>k4 i (by omega),hb1,by omega,k2⟩,k3,k4,jy k2⟩
inductive H1(h hb:AH)(id ks:Nat)(ALL:List (Int×Int))(END:Sr):Nat->List AV->AH->Prop
 |mk {m:Nat} {h':AH} (x:Sr) (lv:AV) (acc:List (Int×Int)):x.Ok->acc.length+m<=3->acc++itV Hl xf m x=ALL->itS xf m x=END->GI h hb h' id x 2 lv acc.length (chC acc).flatten->h'.ab ks=some (mn.map λn=>I n)->H1 h hb id ks ALL END m [.ptr id 0,.rsl ks 0 7 1,lv,I m] h'
theorem OW(h:AH)(id:Nat)(x:Sr)(hc:h.ab id=some (srC x))(hid:id<h.nx)(hx:x.Ok):aK prog 20 [.ptr id 0] h (.psl (chC (chV x))) (h.set id (.cells (srC (chS x)))):=by
 refine bm (R:=λv h'=>Frz (fresh h' h.nx) false v (.psl (chC (chV x)))/\Ob h h' id (srC (chS x))) hid (dR _) (C20 (aW [e8,e19]) ?_) λv' h' h1=>h1
 have haf:bW [I 0,I 0,I 0,I 0,I 0,I 0,I 0] [(0,1,(I 97)),(1,1,(I 107)),(2,1,(I 99)),(3,1,(I 49)),(4,1,(I 32)),(5,1,(I 2)),(6,1,(I 12))]=some (mn.map λn=>I n):=rfl;unfold g20;simp[haf];have ho:=(Ob.start hc).new hid (h2:=h.add (.cells (mn.map λn=>I n))) (by simp) λi hi=>by rw[az,amU (by omega)]
 have hcs:(h.add (.cells (mn.map λn=>I n))).ab h.nx=some (mn.map λn=>I n):=bd _ _ _ rfl;have hn:(h.add (.cells (mn.map λn=>I n))).nx=h.nx+1:=by simp
 generalize h.add (.cells (mn.map λn=>I n))=h1 at*;have hne:h.nx≠id:=by omega
 refine u4 1 3 ho.c (ho.lt hid) ⟨hx,by omega,by omega,by omega⟩ ?_;have ho:=ho.set (srC (nS x 3));have hcs:(h1.set id (.cells (srC (nS x 3)))).ab h.nx=some (mn.map λn=>I n):=by rw[ak _ _ _ _ hne];exact hcs
 have hn:(h1.set id (.cells (srC (nS x 3)))).nx=h.nx+1:=hn;rw[show(3:Int)-1+1=3 by omega];generalize h1.set id (.cells (srC (nS x 3)))=h2 at*;have hK0:=eG x 3;have hK1:=eu x (show(1:Int)<=3 by omega);have hKK:rgV x 1 3=((rgV x 1 3).toNat:Int):=by unfold rgV;rw[show(3:Int)-1+1=3 by omega];omega
 have hK2:(rgV x 1 3).toNat<=3:=by unfold rgV;rw[show(3:Int)-1+1=3 by omega];omega
 have hx1:=bn hx 3;unfold chV chS;rw[hKK];generalize(rgV x 1 3).toNat=K at*;generalize nS x 3=xb at*;refine⟨H1 h h2 id h.nx (itV Hl xf K xb) (itS xf K xb),K,.mk xb .aa [] hx1 (by simpa using hK2) rfl rfl (GI.start 2 ho) hcs,?_⟩;rintro m vs h3 ⟨x,lv,acc,hx,hm,hA,hE,g,hcs⟩;cases m with
 |succ m=>
  have hlt:(0:Int)<((m+1:Nat):Int):=by omega
  simp[Gf,hlt];have g0:=g;have g:=g.bump (k:=h3.nx+14) (by omega);refine gD 7 g.ob.c (g.ob.lt hid) ⟨hx,by omega⟩ ?_;refine⟨by simp,?_⟩;have g:=g.rd hid (nS x 7);have hg2:=g.b2;have ab5:((AH.mk h3.H (h3.nx+14)).set id (.cells (srC (nS x 7)))).ab h.nx=some (mn.map λn=>I n):=by rw[ak _ _ _ _ hne];exact hcs
  have hn2:((AH.mk h3.H (h3.nx+14)).set id (.cells (srC (nS x 7)))).nx=h3.nx+14:=rfl;have hx2:=bn hx 7;have n1:=eG x 7;have n2:=eu x (show(1:Int)<=7 by omega);obtain⟨q,hq⟩:=anu n1;have hgr:=Rx (L:=mn) (a:=q) (by show q<7;omega);have hfv:Hl x=(mn.getD q 0,nV (nS x 7) 3):=by unfold Hl;rw[hq];rfl
  have hfs:xf x=nS (nS x 7) 3:=rfl;have um:∀i,i≠id->((AH.mk h3.H (h3.nx+14)).set id (.cells (srC (nS x 7)))).H.get i=h3.H.get i:=λi hi=>by rw[au,amU hi]
  rw[hq];generalize(AH.mk h3.H (h3.nx+14)).set id (.cells (srC (nS x 7)))=h4 at*;generalize nS x 7=x2 at*;have hix:=qz h4 h.nx 7 q (by omega);generalize mn.getD q 0=kk at*;obtain⟨SS,hSS⟩:∃SS,SS=mn.map (λn=>I n):=⟨_,rfl⟩;rw[<-hSS]at hgr ab5;simp[hix];simp[QP,ab5,hgr];refine gD 3 g.ob.c (g.ob.lt hid) ⟨hx2,by omega⟩ ?_;refine⟨by simp,?_⟩;have mj:aU (.read h.nx) (.eff h4 (h4.set id (.cells (srC (nS x2 3)))))=true:=cP _ _ _ _ hne;have g:=g.rd hid (nS x2 3);have aiW:(h4.set id (.cells (srC (nS x2 3)))).ab h.nx=some SS:=by rw[ak _ _ _ _ hne];exact ab5
  have hn3:(h4.set id (.cells (srC (nS x2 3)))).nx=h3.nx+14:=hn2;have um:∀i,i≠id->(h4.set id (.cells (srC (nS x2 3)))).H.get i=h3.H.get i:=λi hi=>by rw[au,amU hi];exact um i hi
  generalize h4.set id (.cells (srC (nS x2 3)))=h5 at*;generalize hv3:nV x2 3=vv at*;have EL:bW [I 0,I 0] [(0,1,I kk),(1,1,I vv)]=some [I kk,I vv]:=rfl;have ajD:bW [I 0,I 0] [(0,2,.agg [I kk,I vv])]=some [I kk,I vv]:=rfl;simp[EL,ajD];have ho5:Ob h (h5.set (h3.nx+11) (.cells [I kk,I vv])) id (srC (nS x2 3)):=g.ob.app hid (by simp) λi hi=>by have:=g0.b1;have:=g0.b2;rw[au,amU (by omega)]
  obtain⟨lv',h7,k1,g7,n7,g7g,iC⟩:=g0.aiD hid ho5 (by simp;omega) (λi hi1 hi2=>by
   have:=g0.b1;rw[au,amU (by omega),um i (by omega)]) 16 (eD _ _ _ _ rfl) rfl rfl (by omega) (by omega)
  refine fR k1 (by simp only[np]at n7 ⊢; omega) ?_;simp(disch:=first|go_size|fail)[Sp];rw[<-hfs]at g7;refine⟨mj,m,by omega,.mk (xf x) lv' (acc++[Hl x]) (LN x hx) (by simp;omega) (by rw[<-hA];simp[itV]) (by rw[<-hE];rfl) ?_ ?_⟩
  ·rw[hfv];simpa[chC]using g7
  ·rw[ay (g7g h.nx (by omega)),ak _ _ _ _ (by have:=g0.b2;omega),aiW,hSS]
 |zero=>
  have hA':itV Hl xf K xb=acc:=by rw[<-hA];simp[itV]
  have hE':itS xf K xb=x:=hE.symm;simp[Gf];simp[OC,FB];rw[hA',hE'];have gl:=g.l;rw[show acc.length=(chC acc).length by simp[chC]]at gl;exact⟨ap9 (VU acc) (Mm acc) gl (by omega),g.ob⟩
def e20:QE prog:=QE.obj 20 (λ_ _=>True) srC (fun(_:Unit)=>[]) (fun(x:Sr)(y:Unit)=>match y with|_=>x.Ok) (fun(x:Sr)(y:Unit)=>match y with|_=>.psl (chC (chV x))) (fun(x:Sr)(y:Unit)=>match y with|_=>chS x) (λh id x y hj hc hid hx=>match y,hx with|_,hx=>OW h id x hc hid hx)
theorem aeX{tl h}{id:Nat}{x:Sr}{Q:QT}(hc:h.ab id=some (srC x))(hid:id<h.nx)(hx:x.Ok)(hq:Q (.psl (chC (chV x))) (h.set id (.cells (srC (chS x))))):tb (e20::tl) 20 (.ptr id 0::[]) h Q:=bF () trivial hc hid hx hq
@[simp ↓] theorem akr:TbT e20 20:=aH e20
def lkL(f:Val->Sr->Val×Sr):List Val->Sr->List Val×Sr
 |[],x=>([],x)
 |v::r,x=>if 0<nV x 3 then((f v (nS x 3)).1::(lkL f r (f v (nS x 3)).2).1,(lkL f r (f v (nS x 3)).2).2)else lkL f r (nS x 3)
def lk:Nat->Val->Sr->Val×Sr
 |0,_,x=>(Val.zero,x)
 |n+1,.mk k _ _ l,x=>if k=1 then(.mk 1 (rgV x (-3) 9) [] [],nS x 13)else if k=2 then(.mk 2 (nV x 2) [] [],nS x 2)else if k=3 then(.mk 3 0 (wdV x 4) [],wdS x 4)else(.mk 4 0 [] (lkL (lk n) l x).1,(lkL (lk n) l x).2)
def dp:Nat->Val->Prop
 |0,_=>False
 |n+1,.mk _ _ _ l=>l.length<=10/\∀v∈l,dp n v
theorem HW{f:Val->Sr->Val×Sr}:∀(l:List Val) (x:Sr),(∀v∈l,∀y:Sr,y.Ok->(f v y).2.Ok)->x.Ok->(lkL f l x).2.Ok
 |[],x,_,h=>h
 |v::r,x,hf,h=>by
  unfold lkL;split
  ·exact HW r _ (λu hu=>hf u (by simp[hu])) (hf v (by simp) _ (bn h _))
  ·exact HW r _ (λu hu=>hf u (by simp[hu])) (bn h _)
theorem Kp:∀(n:Nat) (v:Val) (x:Sr),x.Ok->(lk n v x).2.Ok
 |0,_,x,h=>h
 |n+1,.mk k _ _ l,x,h=>by
  unfold lk
  (repeat' split)
  ·exact bn h _
  ·exact bn h _
  ·exact Um h _
  ·exact HW l x (λv _ y hy=>Kp n v y hy) h
theorem uD{f:Val->Sr->Val×Sr}:∀(l:List Val) (x:Sr),(lkL f l x).1.length<=l.length
 |[],x=>by simp[lkL]
 |v::r,x=>by
  unfold lkL;split
  ·have:=uD (f:=f) r (f v (nS x 3)).2;simp;exact this
  ·have:=uD (f:=f) r (nS x 3);simp;omega
theorem uO{f:Val->Sr->Val×Sr}{p:Val->Prop}:∀(l:List Val) (x:Sr),(∀v∈l,∀y:Sr,p (f v y).1)->∀u∈(lkL f l x).1,p u
 |[],x,_,u,h=>by simp[lkL]at h
 |v::r,x,hf,u,h=>by
  unfold lkL at h;split at h
  ·rcases anT.1 h with rfl|h
   ·exact hf v (by simp) _
   ·exact uO r _ (λw hw=>hf w (by simp[hw])) u h
  ·exact uO r _ (λw hw=>hf w (by simp[hw])) u h
theorem YH:∀(n:Nat) (v:Val) (x:Sr),dp n v->dp n (lk n v x).1
 |0,_,_,h=>h.elim
 |n+1,.mk k _ _ l,x,h=>by
  unfold lk
  (repeat' split)
  ·exact⟨by simp,by simp⟩
  ·exact⟨by simp,by simp⟩
  ·exact⟨by simp,by simp⟩
  ·exact⟨ane (uD l x) h.1,uO l x λv hv y=>YH n v y (h.2 v hv)⟩
def qs(n:Nat):Prop:=∀(h:AH) (id:Nat) (x:Sr) (v:Val),h.ab id=some (srC x)->id<h.nx->x.Ok->dp n v->aK prog 36 [.ptr id 0,.agg (vC v)] h (.agg (vC (lk n v x).1)) (h.set id (.cells (srC (lk n v x).2)))
def eLk(n:Nat)(hv:qs n):QE prog:=
 ⟨36,λargs h Q=>∃id x v,args=[.ptr id 0,.agg (vC v)]/\h.ab id=some (srC x)/\id<h.nx/\x.Ok/\dp n v/\Q (.agg (vC (lk n v x).1)) (h.set id (.cells (srC (lk n v x).2))),λargs h Q ⟨id,x,v,h1,h2,h3,h4,h5,h6⟩=>by
  subst h1;exact⟨_,_,hv h id x v h2 h3 h4 h5,h6⟩⟩
theorem X0{n:Nat}{hv:qs n}{tl h}{id:Nat}{x:Sr}(v:Val){Q:QT}(hc:h.ab id=some (srC x))(hid:id<h.nx)(hx:x.Ok)(hd:dp n v)
  (hq:Q (.agg (vC (lk n v x).1)) (h.set id (.cells (srC (lk n v x).2)))):tb (eLk n hv::tl) 36 [.ptr id 0,.agg (vC v)] h Q:=by
 rw[dJ _ tl 36 _ _ _ rfl];exact⟨id,x,v,rfl,hc,hid,hx,hd,hq⟩
structure LkI(h h':AH)(id:Nat)(x:Sr)(v:Val):Prop where
 ob:Ob h h' id (srC x)
 b:h'.ab h.nx=some (vC v)
 r:h'.ab (h.nx+1)=some z4
 nx:h.nx+2<=h'.nx
theorem LkI.rd{h h':AH}{id:Nat}{x:Sr}{v:Val}(g:LkI h h' id x v)(hid:id<h.nx)(y:Sr):LkI h (h'.set id (.cells (srC y))) id y v:=
 ⟨g.ob.set _,by rw[ak _ _ _ _ (by omega)];exact g.b,by rw[ak _ _ _ _ (by omega)];exact g.r,g.nx⟩
structure LL(h hb h':AH)(id:Nat)(x:Sr)(v:Val)(lv:AV)(acc:List Val):Prop where
 ob:Ob h h' id (srC x)
 b:h'.ab h.nx=some (vC v)
 r:h'.ab (h.nx+1)=some z4
 l5:h'.ab (h.nx+2)=some [I 4,I 0,.str [],lv]
 nx:h.nx+3<=h'.nx
 hbn:hb.nx=h.nx+3
 ol:OL 4 hb h' lv acc.length (cZ acc)
theorem LL.rd{h hb h':AH}{id:Nat}{x:Sr}{v:Val}{lv:AV}{acc:List Val}(g:LL h hb h' id x v lv acc)(hid:id<h.nx)(y:Sr):LL h hb (h'.set id (.cells (srC y))) id y v lv acc:=
 ⟨g.ob.set _,by rw[ak _ _ _ _ (by omega)];exact g.b,by rw[ak _ _ _ _ (by omega)];exact g.r,by rw[ak _ _ _ _ (by omega)];exact g.l5,g.nx,g.hbn,g.ol.set (by have:=g.hbn;omega) _⟩
theorem LL.bump{h hb h':AH}{id:Nat}{x:Sr}{v:Val}{lv:AV}{acc:List Val}(g:LL h hb h' id x v lv acc){k:Nat}(hk:h'.nx<=k):LL h hb ⟨h'.H,k⟩ id x v lv acc:=
 ⟨g.ob.bump _ hk,g.b,g.r,g.l5,ane g.nx hk,g.hbn,g.ol.bump hk⟩
inductive LK1(h hb:AH)(id:Nat)(v:Val)(f:Val->Sr->Val×Sr)(l:List Val)(ALL:List Val)(END:Sr):Nat->List AV->AH->Prop
 |mk {m:Nat} {h':AH} (i:Nat) (x:Sr) (lv:AV) (acc:List Val):x.Ok->i+m=l.length->acc.length<=i->acc++(lkL f (l.drop i) x).1=ALL->(lkL f (l.drop i) x).2=END->LL h hb h' id x v lv acc->LK1 h hb id v f l ALL END m [.ptr id 0,.ptr h.nx 0,.ptr (h.nx+1) 0,.ptr (h.nx+2) 0,I i] h'
inductive LKm(h hb:AH)(id:Nat)(v:Val)(f:Val->Sr->Val×Sr)(l:List Val)(ALL:List Val)(END:Sr)(i:Nat):List AV->AH->Prop
 |mk {h':AH} (x:Sr) (lv:AV) (acc:List Val):x.Ok->acc.length<=i+1->acc++(lkL f (l.drop (i+1)) x).1=ALL->(lkL f (l.drop (i+1)) x).2=END->LL h hb h' id x v lv acc->LKm h hb id v f l ALL END i [.ptr id 0,.ptr h.nx 0,.ptr (h.nx+1) 0,.ptr (h.nx+2) 0,I i] h'
theorem nD{l:List Val}{i:Nat}(hi:i<l.length):(vCs l)[i]?=some (vC l[i]):=by
 rw[ql];simp[hi]
theorem afz:qs 0:=λ_ _ _ _ _ _ _ hd=>hd.elim
theorem Nx{n:Nat}(hn:qs n):qs (n+1):=by
 intro h id x ⟨k,nn,s,l⟩ hc hid hx hd;refine bm (R:=λv h'=>Frz (fresh h' h.nx) false v (.agg (vC (lk (n+1) (.mk k nn s l) x).1))/\Ob h h' id (srC (lk (n+1) (.mk k nn s l) x).2)) hid (dR _) (C36 (aW [e8,e19,e35,eLk n hn]) ?_) λv' h' h1=>h1
 have hg:LkI h ((h.add (.cells (vC (.mk k nn s l)))).add (.cells z4)) id x (.mk k nn s l):=by
  refine⟨(Ob.start hc).new hid (by simp;omega) λi hi=>?_,?_,?_,by simp⟩
  ·rw[az,amU (by simp;omega),az,amU (by omega)]
  ·rw[aC _ _ _ (by simp)];exact bd _ _ _ rfl
  ·exact bd _ _ _ (by simp)
 have hn1:((h.add (.cells (vC (.mk k nn s l)))).add (.cells z4)).nx=h.nx+2:=by simp
 have hbx:fh h (.agg (vC (.mk k nn s l)))=some (.ptr h.nx 0,h.add (.cells (vC (.mk k nn s l)))):=rfl;have hvC:vC (.mk k nn s l)=[I k,I nn,.str s,.psl (vCs l)]:=by simp[vC]
 simp[g36,hbx];have fJ:(h.add (.cells (vC (.mk k nn s l)))).add (.cells [I 0,I 0,.str [],.aa])=(h.add (.cells (vC (.mk k nn s l)))).add (.cells z4):=rfl;rw[fJ];generalize(h.add (.cells (vC (.mk k nn s l)))).add (.cells z4)=h1 at*;have hb:=hg.b;rw[hvC]at hb;have hv0:(vC (.mk k nn s l))[0]?=some (I k):=by rw[hvC];rfl
 by_cases k1:k=1
 ·subst k1;simp[hv0];refine u4 (-3) 9 hg.ob.c (hg.ob.lt hid) ⟨hx,by omega,by omega,by omega⟩ ?_;have hg:=hg.rd hid (nS x 13);rw[show(9:Int) - -3+1=13 by omega];generalize h1.set id (.cells (srC (nS x 13)))=h2 at*;have hr:h2.ab (h.nx+1)=some [I 0,I 0,.str [],.aa]:=hg.r;simp[hr];simp only[lk,anH];exact⟨gZ dn,hg.ob.app hid (by simp) λi hi=>by rw[au,amU (by omega)]⟩
 ·by_cases k2:k=2
  ·subst k2;simp[hv0];refine gD 2 hg.ob.c (hg.ob.lt hid) ⟨hx,by omega⟩ ?_;have hg:=hg.rd hid (nS x 2);generalize h1.set id (.cells (srC (nS x 2)))=h2 at*;have hr:h2.ab (h.nx+1)=some [I 0,I 0,.str [],.aa]:=hg.r;simp[SC,hr];simp only[lk,amU k1,anH];exact⟨gZ dn,hg.ob.app hid (by simp) λi hi=>by rw[au,amU (by omega)]⟩
  ·by_cases k3:k=3
   ·subst k3;simp[hv0];refine XM 4 hg.ob.c (hg.ob.lt hid) ⟨hx,by omega⟩ ?_;have hg:=hg.rd hid (wdS x 4);generalize h1.set id (.cells (srC (wdS x 4)))=h2 at*;have hr:h2.ab (h.nx+1)=some [I 0,I 0,.str [],.aa]:=hg.r;generalize hwd:wdV x 4=wd at*;simp[T9,hr];simp only[lk,amU k1,amU k2,anH];rw[hwd];exact⟨gZ dn,hg.ob.app hid (by simp) λi hi=>by rw[au,amU (by omega)]⟩
   ·simp[hv0,k1,k2,k3];have hlk:lk (n+1) (.mk k nn s l) x=(.mk 4 0 [] (lkL (lk n) l x).1,(lkL (lk n) l x).2):=by simp only[lk,amU k1,amU k2,amU k3]
    rw[hlk];simp[TI];have hll:LL h (h1.add (.cells z4)) ((h1.add (.cells z4)).set (h.nx+2) (.cells [I 4,I 0,.str [],.aa])) id x (.mk k nn s l) .aa []:=by
     refine⟨hg.ob.app hid (by simp) λi hi=>by rw[au,amU (by omega),az,amU (by omega)],?_,?_,eD _ _ _ _ rfl,by simp;omega,by simp;omega,OL.start _ _ _⟩
     ·rw[ak _ _ _ _ (by omega),aC _ _ _ (by omega)];exact hg.b
     ·rw[ak _ _ _ _ (by omega),aC _ _ _ (by omega)];exact hg.r
    have nW:(h1.add (.cells [I 0,I 0,.str [],.aa])).set h1.nx (.cells [I 4,I 0,.str [],.aa])=(h1.add (.cells z4)).set (h.nx+2) (.cells [I 4,I 0,.str [],.aa]):=by rw[hn1];rfl
    rw[nW,hn1];obtain⟨hb0,ER⟩:∃hb0,hb0=h1.add (.cells z4):=⟨_,rfl⟩;rw[<-ER]at hll ⊢;generalize hb0.set (h.nx+2) (.cells [I 4,I 0,.str [],.aa])=h2 at*;have hlen:l.length<=10:=hd.1;have hdl:=hd.2;clear hlk ER nW fJ hg hb;refine⟨LK1 h hb0 id (.mk k nn s l) (lk n) l (lkL (lk n) l x).1 (lkL (lk n) l x).2,l.length,.mk 0 x .aa [] hx (by omega) (by simp) rfl rfl hll,?_⟩;generalize alu:(lkL (lk n) l x).1=ALL at*;generalize alx:(lkL (lk n) l x).2=END at*;rintro m vs h3 ⟨i,y,lv,acc,hy,him,hai,hA,hE,g⟩;have hb:=g.b;rw[hvC]at hb;have hlp:bh h3 (.psl (vCs l))=some (I l.length,h3):=by simp[dr]
    have hv3:(vC (.mk k nn s l))[3]?=some (.psl (vCs l)):=by rw[hvC];rfl
    cases m with
    |zero=>
     have hlt:¬(i:Int)<l.length:=by omega
     have hdn:l.drop i=[]:=anf (by omega);rw[hdn]at hA hE;have hA':acc=ALL:=by rw[<-hA];simp[lkL]
     have hE':y=END:=hE;subst hA';subst hE';have hr:=g.r;have h5:=g.l5;have hr0:h3.ab (h.nx+1)=some [I 0,I 0,.str [],.aa]:=hr;have iC:=jy g.ol;simp[IU,hb,hlp,hlt];simp[Q8,FP,h5,hr0,iC];have hbn:=g.hbn;have ol5:OL 4 hb0 (h3.set (h.nx+1) (.cells [I 4,I 0,.str [],lv])) lv acc.length (cZ acc):=g.ol.du (amY _) λi hi _=>by rw[au,amU (by omega)]
     exact⟨gZ (qx ol5 (by omega)),g.ob.app hid (amY _) λi hi=>by rw[au,amU (by omega)]⟩
    |succ m=>
     have hi:i<l.length:=by omega
     have hlt:(i:Int)<l.length:=by omega
     simp[IU,hb,hlp,hlt];rw[ang hi]at hA hE;refine⟨LKm h hb0 id (.mk k nn s l) (lk n) l ALL END i,?_,?_⟩
     ·simp[Ud];refine gD 3 g.ob.c (g.ob.lt hid) ⟨hy,by omega⟩ ?_;have g:=g.rd hid (nS y 3);have hy3:=bn hy 3;generalize h3.set id (.cells (srC (nS y 3)))=h4 at*;by_cases hc3:0<nV y 3
      ·rw[lkL,am1 hc3]at hA hE;have hb4:=g.b;rw[hvC]at hb4;have h54:=g.l5;have hix:aF ⟨h4.H,h4.nx+13⟩ 4 (.psl (vCs l)) (I i)=some (.lz (vC l[i]),⟨h4.H,h4.nx+13⟩):=da (nD hi) (cH _);have fk:cut (vC l[i]) 0 4=some (vC l[i]):=by
        have:=aM (α:=vC l[i]) (b:=[]) (n:=4) (cH _);rwa [am5]at this
       simp[hc3,h54];simp[Tq,hb4,hix,fk];have g0:=g;have g:=g.bump (k:=h4.nx+13) (by omega);refine X0 l[i] g.ob.c (g.ob.lt hid) hy3 (hdl _ (anL hi)) ?_;refine⟨by simp,?_⟩;have hy4:=Kp n l[i] (nS y 3) hy3;have g:=g.rd hid (lk n l[i] (nS y 3)).2;have hr1:aU (.read (h.nx+2)) (.eff ⟨h4.H,h4.nx+13⟩ ((AH.mk h4.H (h4.nx+13)).set id (.cells (srC (lk n l[i] (nS y 3)).2))))=true:=cP _ _ _ _ (by omega);have hgt:∀q,q≠id->((AH.mk h4.H (h4.nx+13)).set id (.cells (srC (lk n (l[i]'hi) (nS y 3)).2))).H.get q=h4.H.get q:=λq hq=>by rw[au,amU hq]
       have hn5:((AH.mk h4.H (h4.nx+13)).set id (.cells (srC (lk n (l[i]'hi) (nS y 3)).2))).nx=h4.nx+13:=rfl;generalize(AH.mk h4.H (h4.nx+13)).set id (.cells (srC (lk n (l[i]'hi) (nS y 3)).2))=h5 at*;generalize lk n (l[i]'hi) (nS y 3)=R at*;obtain⟨w,y'⟩:=R;simp only at*;have haf:bW [I 0,I 0,.str [],.aa] [(0,4,.agg (vC w))]=some (vC w):=by cases w;simp only[vC];rfl
       have hnx:=g0.nx;have hbn:=g0.hbn;have l6:OL 4 hb0 (h5.set (h4.nx+9) (.cells (vC w))) lv acc.length (cZ acc):=g0.ol.du (by simp;omega) λq hq1 hq2=>by rw[au,amU (by omega),hgt q (by omega)]
       obtain⟨lv',h7,k7,ol7,hn7,hg7⟩:=mw (bytes:=56) l6 (by simp;omega) (eD _ _ _ _ rfl) (cH w) (iH w) (by omega) (by omega);have iC:=jy ol7;have e7:∀q,q<h4.nx->q<hb0.nx->h7.H.get q=h5.H.get q:=λq hq1 hq2=>by rw[hg7 q hq2,au,amU (by omega)]
       have h75:h7.ab (h.nx+2)=some [I 4,I 0,.str [],lv]:=by rw[ay (e7 _ (by omega) (by omega))];exact g.l5
       have hst:kSt h7 1 (.ptr (h.nx+2) 3) lv'=some (.undef,h7.set (h.nx+2) (.cells [I 4,I 0,.str [],lv'])):=ap1 iC h75 rfl;rw[haf];simp(disch:=first|go_size|fail)[];refine fR k7 (by simp only[np]at hn7 ⊢; omega) ?_;refine fR hst (by simp) ?_;refine⟨hr1,by omega,?_⟩;simp only[np]at hn7;refine .mk y' lv' (acc++[w]) hy4 (by simp;omega) (by rw[<-hA];simp) hE ⟨?_,?_,?_,eD _ _ _ _ rfl,by simp;omega,hbn,?_⟩
       ·exact g.ob.app hid (by simp;omega) λq hq=>by rw[au,amU (by omega),e7 q (by omega) (by omega)]
       ·rw[ak _ _ _ _ (by omega),ay (e7 _ (by omega) (by omega))];exact g.b
       ·rw[ak _ _ _ _ (by omega),ay (e7 _ (by omega) (by omega))];exact g.r
       ·rw[jL,amX];exact ol7.du (by simp) λq hq _=>by rw[au,amU (by omega)]
      ·rw[lkL,amU hc3]at hA hE;simp(disch:=first|go_size|fail)[hc3];exact .mk _ _ _ hy3 (by omega) hA hE g
     ·rintro vs h4 ⟨y,lv,acc,hy,hai,hA,hE,g⟩;simp(disch:=first|go_size|fail)[P4];exact⟨m,by omega,.mk (i+1) y lv acc hy (by omega) hai hA hE g⟩
def jG:List Int:=[0,1,2,3, -1,7,10,1099511627776, -1099511627776,1099511627775]
def vaN(x:Sr):Val×Sr:=(.mk 1 (jG.getD (nV x 10).toNat 0) [] [],nS x 10)
def vaB(x:Sr):Val×Sr:=(.mk 2 (nV x 2) [] [],nS x 2)
def vaT(x:Sr):Val×Sr:=(.mk 3 0 (wdV x 4) [],wdS x 4)
def lkV(d:Nat)(v:Val)(y:Sr):Val:=(lk d v y).1
def lkS(d:Nat)(v:Val)(y:Sr):Sr:=(lk d v y).2
def vaL(f:Sr->Val×Sr)(d:Nat)(x:Sr):Val×Sr:=
 if 0<nV x 4 then(.mk 4 0 [] ((f (nS x 4)).1::itV (lkV d (f (nS x 4)).1) (lkS d (f (nS x 4)).1) ((nV x 4).toNat-1) (f (nS x 4)).2),itS (lkS d (f (nS x 4)).1) ((nV x 4).toNat-1) (f (nS x 4)).2)else(.mk 4 0 [] [],nS x 4)
def vaW(L:Sr->Val×Sr)(x:Sr):Val×Sr:=if nV x 5=0 then vaB (nS x 5)else if nV x 5=1\/nV x 5=2 then vaT (nS x 5)else if nV x 5=3 then L (nS x 5)else vaN (nS x 5)
def va:Nat->Sr->Val×Sr
 |0,x=>vaW vaN x
 |d+1,x=>vaW (vaL (va d) (d+1)) x
theorem aaC(d:Nat)(v:Val):∀x:Sr,x.Ok->(lkS d v x).Ok:=λx hx=>Kp d v x hx
theorem aax{f:Sr->Val×Sr}(hf:∀x:Sr,x.Ok->(f x).2.Ok)(d:Nat){x:Sr}(hx:x.Ok):(vaL f d x).2.Ok:=by
 unfold vaL;split
 ·exact pc (aaC d _) _ _ (hf _ (bn hx _))
 ·exact bn hx _
theorem Sm{L:Sr->Val×Sr}(hL:∀x:Sr,x.Ok->(L x).2.Ok){x:Sr}(hx:x.Ok):(vaW L x).2.Ok:=by
 unfold vaW
 (repeat' split)
 ·exact bn (bn hx _) _
 ·exact Um (bn hx _) _
 ·exact hL _ (bn hx _)
 ·exact bn (bn hx _) _
theorem Kw:∀(d:Nat) (x:Sr),x.Ok->(va d x).2.Ok
 |0,x,h=>Sm (λx hx=>bn hx _) h
 |d+1,x,h=>Sm (λx hx=>aax (Kw d) _ hx) h
theorem qT{α:Type}{V:Sr->α}{S:Sr->Sr}{p:α->Prop}(h:∀x,p (V x)):∀n x,∀u∈itV V S n x,p u
 |0,_,u,hu=>by simp[itV]at hu
 |n+1,x,u,hu=>by
  rcases anT.1 hu with rfl|hu
  ·exact h _
  ·exact qT h n _ u hu
theorem Z3{f:Sr->Val×Sr}{d:Nat}(hf:∀x,dp d (f x).1)(x:Sr):dp (d+1) (vaL f d x).1:=by
 have h2:=eu x (show(1:Int)<=4 by omega);unfold vaL;split
 ·refine⟨by rw[am6,mr];omega,λv hv=>?_⟩;rcases anT.1 hv with rfl|hv
  ·exact hf _
  ·exact qT (p:=dp d) (λy=>YH d _ y (hf _)) _ _ v hv
 ·exact⟨by simp,by simp⟩
theorem Sz{L:Sr->Val×Sr}{d:Nat}(hL:∀x,dp (d+1) (L x).1)(x:Sr):dp (d+1) (vaW L x).1:=by
 unfold vaW
 (repeat' split)
 ·exact⟨by simp,by simp⟩
 ·exact⟨by simp,by simp⟩
 ·exact hL _
 ·exact⟨by simp,by simp⟩
theorem YI:∀(d:Nat) (x:Sr),dp (d+1) (va d x).1
 |0,x=>Sz (L:=vaN) (d:=0) (λ_=>⟨by simp,by simp⟩) x
 |d+1,x=>Sz (d:=d+1) (λy=>Z3 (YI d) y) x
def Eh(d:Nat):Prop:=∀(h:AH) (id:Nat) (x:Sr),h.ab id=some (srC x)->id<h.nx->x.Ok->aK prog 22 [.ptr id 0,I d] h (.agg (vC (va d x).1)) (h.set id (.cells (srC (va d x).2)))
def eVa(d:Nat)(hv:Eh d):QE prog:=
 ⟨22,λargs h Q=>∃id x,args=[.ptr id 0,I d]/\h.ab id=some (srC x)/\id<h.nx/\x.Ok/\Q (.agg (vC (va d x).1)) (h.set id (.cells (srC (va d x).2))),λargs h Q ⟨id,x,h1,h2,h3,h4,h6⟩=>by
  subst h1;exact⟨_,_,hv h id x h2 h3 h4,h6⟩⟩
theorem aey{d:Nat}{hv:Eh d}{tl h}{id:Nat}{x:Sr}{Q:QT}(hc:h.ab id=some (srC x))(hid:id<h.nx)(hx:x.Ok)
  (hq:Q (.agg (vC (va d x).1)) (h.set id (.cells (srC (va d x).2)))):tb (eVa d hv::tl) 22 [.ptr id 0,I d] h Q:=by
 rw[dJ _ tl 22 _ _ _ rfl];exact⟨id,x,rfl,hc,hid,hx,hq⟩
@[simp ↓] theorem akJ(d:Nat)(hv:Eh d)(l:List (QE prog))(f:Nat)(args:LA)(h:AH)(Q:QT)(hf:22≠f):tb (eVa d hv::l) f args h Q=tb l f args h Q:=aH _ l f args h Q hf
inductive VJ(h:AH)(id:Nat)(x1:Sr)(R:Val×Sr):AX->List AV->AH->Prop
 |ret {h':AH} (a c1 c2 c3 c4:AV):h'.ab h.nx=some [c1,c2,c3,c4]->ea (fresh h' h.nx) false [c1,c2,c3,c4] (vC R.1)->Ob h h' id (srC R.2)->VJ h id x1 R .ret [a,.ptr h.nx 0] h'
 |nrm {h':AH}:R=vaN x1->Ob h h' id (srC x1)->h'.ab h.nx=some z4->h.nx+1<=h'.nx->VJ h id x1 R .nrm [.ptr id 0,.ptr h.nx 0] h'
theorem afl{tl:List (QE prog)}{h h':AH}{id:Nat}{x1:Sr}{R:Val×Sr}{x:AX}{vs:LA}(hid:id<h.nx)(hx1:x1.Ok)(j:VJ h id x1 R x vs h'):
  BI (tb (e8::tl)) x (ai vs 0) (ai vs 1) h' λv h2=>Frz (fresh h2 h.nx) false v (.agg (vC R.1))/\Ob h h2 id (srC R.2):=by
 cases j with
 |ret a c1 c2 c3 c4 hc hf ho=>
  simp[BI,hc];exact⟨hf,ho⟩
 |nrm hR ho hz hn=>
  subst hR;have haf:bW [I 0,I 0,I 0,I 0,I 0,I 0,I 0,I 0,I 0,I 0] [(0,1,(I 0)),(1,1,(I 1)),(2,1,(I 2)),(3,1,(I 3)),(4,1,(I (-1))),(5,1,(I 7)),(6,1,(I 10)),(7,1,(I 1099511627776)),(8,1,(I (-1099511627776))),(9,1,(I 1099511627775))]=some (jG.map λn=>I n):=rfl;unfold BI;simp[haf];have ho:=ho.new hid (h2:=h'.add (.cells (jG.map λn=>I n))) (by simp) λi hi=>by rw[az,amU (by omega)]
  have hcs:(h'.add (.cells (jG.map λn=>I n))).ab h'.nx=some (jG.map λn=>I n):=bd _ _ _ rfl;have hz:(h'.add (.cells (jG.map λn=>I n))).ab h.nx=some z4:=by rw[aC _ _ _ (by omega)];exact hz
  have hne:h'.nx≠id:=by omega
  have alQ:h'.nx≠h.nx:=by omega
  generalize h'.add (.cells (jG.map λn=>I n))=h3 at*;generalize h'.nx=ks at*;refine gD 10 ho.c (ho.lt hid) ⟨hx1,by omega⟩ ?_;have ho:=ho.set (srC (nS x1 10));have hcs:(h3.set id (.cells (srC (nS x1 10)))).ab ks=some (jG.map λn=>I n):=by rw[ak _ _ _ _ hne];exact hcs
  have hz:(h3.set id (.cells (srC (nS x1 10)))).ab h.nx=some [I 0,I 0,.str [],.aa]:=by rw[ak _ _ _ _ (by omega)];exact hz
  have n1:=eG x1 10;have n2:=eu x1 (show(1:Int)<=10 by omega);obtain⟨q,hq⟩:=anu n1;have hgr:=Rx (L:=jG) (a:=q) (by show q<10;omega);have hR:vaN x1=(.mk 1 (jG.getD q 0) [] [],nS x1 10):=by unfold vaN;rw[hq];rfl
  rw[hR,hq];generalize jG.getD q 0=y at*;generalize h3.set id (.cells (srC (nS x1 10)))=h4 at*;have hix:=qz h4 ks 10 q (by omega);obtain⟨SS,hSS⟩:∃SS,SS=jG.map (λn=>I n):=⟨_,rfl⟩;rw[<-hSS]at hgr hcs;simp[RH,hix,hcs,hgr,hz];exact⟨gZ dn,ho.app hid (by simp) λi hi=>by rw[au,amU (by omega)]⟩
structure V1(h h':AH)(id:Nat)(x:Sr):Prop where
 ob:Ob h h' id (srC x)
 r:h'.ab h.nx=some z4
 nx:h'.nx=h.nx+1
theorem V1.rd{h h':AH}{id:Nat}{x:Sr}(g:V1 h h' id x)(hid:id<h.nx)(y:Sr):V1 h (h'.set id (.cells (srC y))) id y:=
 ⟨g.ob.set _,by rw[ak _ _ _ _ (by omega)];exact g.r,g.nx⟩
def Pw(cl:CL)(d:Nat)(L:Sr->Val×Sr):Prop:=∀(h h1:AH) (id:Nat) (x1:Sr) (K:AX->NT),id<h.nx->x1.Ok->V1 h h1 id x1->(∀x vs h',VJ h id x1 (L x1) x vs h'->K x vs h')->qF cl (.ptr id 0) (I d) (.ptr h.nx 0) (I 3) (.bool false) h1 K
theorem Ai{d:Nat}{L:Sr->Val×Sr}(tl:List (QE prog))(hL:Pw (tb (e8::e35::tl)) d L)(hva:∀x,va d x=vaW L x):Eh d:=by
 intro h id x hc hid hx;refine bm (R:=λv h'=>Frz (fresh h' h.nx) false v (.agg (vC (va d x).1))/\Ob h h' id (srC (va d x).2)) hid (dR _) (C22 (aW (e8::e35::tl)) ?_) λv' h' h1=>h1
 rw[hva];simp[g22];have hg:V1 h (h.add (.cells z4)) id x:=⟨(Ob.start hc).new hid (by simp) λi hi=>by rw[az,amU (by omega)],bd _ _ _ rfl,by simp⟩;have fJ:h.add (.cells [I 0,I 0,.str [],.aa])=h.add (.cells z4):=rfl;rw[fJ];generalize h.add (.cells z4)=h1 at*;refine gD 5 hg.ob.c (hg.ob.lt hid) ⟨hx,by omega⟩ ?_;have hg:=hg.rd hid (nS x 5);have hx1:=bn hx 5;have n1:=eG x 5;have n2:=eu x (show(1:Int)<=5 by omega);have hW:vaW L x=if nV x 5=0 then vaB (nS x 5)else if nV x 5=1\/nV x 5=2 then vaT (nS x 5)else if nV x 5=3 then L (nS x 5)else vaN (nS x 5):=rfl
 generalize h1.set id (.cells (srC (nS x 5)))=h2 at*;generalize vaW L x=R at*;generalize nV x 5=c at*;generalize nS x 5=x1 at*;refine⟨VJ h id x1 R,?_,λy vs h' j=>afl hid hx1 j⟩;by_cases c0:c=0
 ·subst c0;rw[am1 rfl]at hW;simp[Bv];refine gD 2 hg.ob.c (hg.ob.lt hid) ⟨hx1,by omega⟩ ?_;have hg:=hg.rd hid (nS x1 2);generalize h2.set id (.cells (srC (nS x1 2)))=h3 at*;have hr:h3.ab h.nx=some [I 0,I 0,.str [],.aa]:=hg.r;simp[hr];subst hW;exact .ret _ _ _ _ _ (eD _ _ _ _ rfl) (gZ dn) (hg.ob.app hid (by simp) λi hi=>by rw[au,amU (by omega)])
 ·rw[amU c0]at hW;have hT:∀(b:Bool) ,(c=1\/c=2->R=vaT x1)->True:=λ_ _=>trivial
  by_cases c1:c=1\/c=2
  ·rw[am1 c1]at hW;have key:qF (tb (e8::e35::tl)) (.ptr id 0) (I d) (.ptr h.nx 0) (I c) (.bool true) h2 (VJ h id x1 R):=by
    simp[qF];refine XM 4 hg.ob.c (hg.ob.lt hid) ⟨hx1,by omega⟩ ?_;have hg:=hg.rd hid (wdS x1 4);generalize h2.set id (.cells (srC (wdS x1 4)))=h3 at*;have hr:h3.ab h.nx=some [I 0,I 0,.str [],.aa]:=hg.r;subst hW;unfold vaT;generalize wdV x1 4=wd at*;simp[hr];exact .ret _ _ _ _ _ (eD _ _ _ _ rfl) (gZ dn) (hg.ob.app hid (by simp) λi hi=>by rw[au,amU (by omega)])
   simp[Bv,c0];refine⟨λvs h'=>vs=[.ptr id 0,I d,.ptr h.nx 0,I c,.bool true]/\h'=h2,?_,?_⟩
   ·rcases c1 with rfl|rfl
    ·simp[Ay]
    ·simp[Ay]
   ·rintro vs h' ⟨rfl,rfl⟩;exact key
  ·rw[amU c1]at hW;have c1a:¬c=1:=λe=>c1 (.inl e)
   have c1b:¬c=2:=λe=>c1 (.inr e)
   simp[Bv,c0];refine⟨λvs h'=>vs=[.ptr id 0,I d,.ptr h.nx 0,I c,.bool false]/\h'=h2,?_,?_⟩
   ·simp[Ay,c1a,c1b]
   ·rintro vs h' ⟨rfl,rfl⟩;by_cases c3:c=3
    ·rw[am1 c3]at hW;subst c3;subst hW;exact hL h h' id x1 _ hid hx1 hg λ_ _ _ j=>j
    ·rw[amU c3]at hW;simp[qF,c3];exact .nrm hW hg.ob hg.r (by have:=hg.nx;omega)
theorem ahs(cl:CL):Pw cl 0 vaN:=by
 intro h h1 id x1 K hid hx1 hg hK;simp[qF];exact hK _ _ _ (.nrm rfl hg.ob hg.r (by have:=hg.nx;omega))
theorem va0:Eh 0:=Ai (d:=0) [] (ahs _) λx=>rfl
structure V2(h hb h':AH)(id:Nat)(x:Sr)(lv:AV)(acc:List Val):Prop where
 ob:Ob h h' id (srC x)
 r:h'.ab h.nx=some z4
 l5:h'.ab (h.nx+1)=some [I 4,I 0,.str [],lv]
 nx:h.nx+2<=h'.nx
 hbn:h.nx+2<=hb.nx
 xF:hb.nx<=h'.nx
 ol:OL 4 hb h' lv acc.length (cZ acc)
theorem V2.rd{h hb h':AH}{id:Nat}{x:Sr}{lv:AV}{acc:List Val}(g:V2 h hb h' id x lv acc)(hid:id<h.nx)(y:Sr):V2 h hb (h'.set id (.cells (srC y))) id y lv acc:=
 ⟨g.ob.set _,by rw[ak _ _ _ _ (by omega)];exact g.r,by rw[ak _ _ _ _ (by omega)];exact g.l5,g.nx,g.hbn,g.xF,g.ol.set (by have:=g.hbn;omega) _⟩
theorem V2.bump{h hb h':AH}{id:Nat}{x:Sr}{lv:AV}{acc:List Val}(g:V2 h hb h' id x lv acc){k:Nat}(hk:h'.nx<=k):V2 h hb ⟨h'.H,k⟩ id x lv acc:=
 ⟨g.ob.bump _ hk,g.r,g.l5,ane g.nx hk,g.hbn,ane g.xF hk,g.ol.bump hk⟩
inductive VLm(h:AH)(id:Nat)(R:Val×Sr):List AV->AH->Prop
 |mk {h':AH} (hb:AH) (x:Sr) (lv:AV) (acc:List Val):V2 h hb h' id x lv acc->R=(.mk 4 0 [] acc,x)->VLm h id R [.ptr h.nx 0,.ptr (h.nx+1) 0] h'
inductive VL1(h hb:AH)(id k7:Nat)(n:Int)(w:Val)(d:Nat)(R:Val×Sr):Nat->List AV->AH->Prop
 |mk {m:Nat} {h':AH} (i:Nat) (x:Sr) (lv:AV) (acc:List Val):x.Ok->(i:Int)+m=n->acc.length<=i->R=(.mk 4 0 [] (acc++itV (lkV d w) (lkS d w) m x),itS (lkS d w) m x)->V2 h hb h' id x lv acc->h'.ab k7=some (vC w)->VL1 h hb id k7 n w d R m [.ptr id 0,.ptr h.nx 0,.ptr (h.nx+1) 0,I n,.ptr k7 0,I i] h'
theorem Eg{d:Nat}(hd:d<=10)(hv:Eh d)(hk:qs (d+1)):Pw (tb (e8::e35::[eVa d hv,eLk (d+1) hk])) (d+1) (vaL (va d) (d+1)):=by
 intro h h1 id x1 K hid hx1 hg hK;have hd0:(0:Int)<((d+1:Nat):Int):=by omega
 have hn1:=hg.nx;simp[qF,hd0];have h2g:V2 h (h1.add (.cells z4)) ((h1.add (.cells z4)).set (h.nx+1) (.cells [I 4,I 0,.str [],.aa])) id x1 .aa []:=by
  refine⟨hg.ob.app hid (by simp) λi hi=>by rw[au,amU (by omega),az,amU (by omega)],?_,eD _ _ _ _ rfl,by simp;omega,by simp;omega,by simp,OL.start _ _ _⟩;rw[ak _ _ _ _ (by omega),aC _ _ _ (by omega)];exact hg.r
 have hnb:((h1.add (.cells z4)).set (h.nx+1) (.cells [I 4,I 0,.str [],.aa])).nx=h.nx+2:=by simp;omega
 have nW:(h1.add (.cells [I 0,I 0,.str [],.aa])).set h1.nx (.cells [I 4,I 0,.str [],.aa])=(h1.add (.cells z4)).set (h.nx+1) (.cells [I 4,I 0,.str [],.aa]):=by rw[hn1];rfl
 rw[nW,hn1];obtain⟨hb0,ER⟩:∃hb0,hb0=h1.add (.cells z4):=⟨_,rfl⟩;rw[<-ER]at h2g hnb ⊢;generalize hb0.set (h.nx+1) (.cells [I 4,I 0,.str [],.aa])=h2 at*;clear nW ER hg;refine gD 4 h2g.ob.c (h2g.ob.lt hid) ⟨hx1,by omega⟩ ?_;have hg:=h2g.rd hid (nS x1 4);have hx2:=bn hx1 4;have n1:=eG x1 4;have n2:=eu x1 (show(1:Int)<=4 by omega);have hR:vaL (va d) (d+1) x1=if 0<nV x1 4 then(.mk 4 0 [] ((va d (nS x1 4)).1::itV (lkV (d+1) (va d (nS x1 4)).1) (lkS (d+1) (va d (nS x1 4)).1) ((nV x1 4).toNat-1) (va d (nS x1 4)).2),itS (lkS (d+1) (va d (nS x1 4)).1) ((nV x1 4).toNat-1) (va d (nS x1 4)).2)else(.mk 4 0 [] [],nS x1 4):=rfl
 have hnb:(h2.set id (.cells (srC (nS x1 4)))).nx=h.nx+2:=hnb;generalize h2.set id (.cells (srC (nS x1 4)))=h3 at*;generalize vaL (va d) (d+1) x1=R at*;generalize nV x1 4=n at*;generalize nS x1 4=x2 at*;clear h2g;have hj:∀vs h',VLm h id R vs h'->FQ (tb (e8::e35::[eVa d hv,eLk (d+1) hk])) (ai vs 0) (ai vs 1) h' K:=by
  rintro vs h' ⟨hb,y,lv,acc,g,hRe⟩;have h5:=g.l5;have hr0:h'.ab h.nx=some [I 0,I 0,.str [],.aa]:=g.r;have iC:=jy g.ol;simp[FQ,h5,hr0,iC];refine hK _ _ _ ?_;have hbn:=g.hbn;have ol5:OL 4 hb (h'.set h.nx (.cells [I 4,I 0,.str [],lv])) lv acc.length (cZ acc):=g.ol.du (amY _) λi hi _=>by rw[au,amU (by omega)]
  refine .ret _ _ _ _ _ (eD _ _ _ _ rfl) ?_ ?_
  ·rw[hRe];exact gZ (qx ol5 (by omega))
  ·rw[hRe];exact g.ob.app hid (amY _) λi hi=>by rw[au,amU (by omega)]
 by_cases hn:0<n
 ·rw[am1 hn]at hR;simp[hn];refine⟨VLm h id R,?_,hj⟩;have EM:∀h:AH,ae h .sub (I ((d:Int)+1)) (I 1)=some (I d,h):=λh=>by rw[F9 _ _ _ (by omega) (by omega),show(d:Int)+1-1=d by omega]
  simp[GO,EM];refine aey hg.ob.c (hg.ob.lt hid) hx2 ?_;have hg:=hg.rd hid (va d x2).2;have hx3:=Kw d x2 hx2;have hdp:=YI d x2;have hnb:(h3.set id (.cells (srC (va d x2).2))).nx=h.nx+2:=hnb;generalize h3.set id (.cells (srC (va d x2).2))=h4 at*;generalize va d x2=F at*;obtain⟨w,x3⟩:=F;simp only at*;have hw:bW [I 0,I 0,.str [],.aa] [(0,4,.agg (vC w))]=some (vC w):=by cases w;simp only[vC];rfl
  have fk:cut (vC w) 0 4=some (vC w):=by
   have:=aM (α:=vC w) (b:=[]) (n:=4) (cH _);rwa [am5]at this
  have hst:=J7 (n:=4) (off:=0) (cH w) (iH w) (bd h4 z4 h4.nx rfl) (dG (by rw[cH];rfl));have hst:kSt (h4.add (.cells [I 0,I 0,.str [],.aa])) 4 (.ptr h4.nx 0) (.agg (vC w))=some (.undef,(h4.add (.cells z4)).set h4.nx (.cells (vC w))):=hst;rw[hst];have h5n:((h4.add (.cells z4)).set h4.nx (.cells (vC w))).nx=h.nx+3:=by simp;omega
  have hg5:∀i,i<h.nx+2->((h4.add (.cells z4)).set h4.nx (.cells (vC w))).H.get i=h4.H.get i:=λi hi=>by rw[au,amU (by omega),az,amU (by omega)]
  have h5w:((h4.add (.cells z4)).set h4.nx (.cells (vC w))).ab (h.nx+2)=some (vC w):=by rw[<-hnb];exact eD _ _ _ _ rfl
  rw[hnb]at hg5 h5w h5n ⊢;generalize(h4.add (.cells z4)).set (h.nx+2) (.cells (vC w))=h5 at*;have h55:h5.ab (h.nx+1)=some [I 4,I 0,.str [],.aa]:=by rw[ay (hg5 _ (by omega))];exact hg.l5
  have ho5:Ob h h5 id (srC x3):=hg.ob.app hid (by omega) λi hi=>hg5 i (by omega)
  have hr5:h5.ab h.nx=some z4:=by rw[ay (hg5 _ (by omega))];exact hg.r
  simp[h55,h5w,fk,hw];obtain⟨lv',h7,k7,ol7,hn7,hg7⟩:=mI (OL.start 4 h5 h5) (amY _) (tc:=vC w) (cH w) (iH w) (by omega) (bytes:=56) (by omega);have iC:=jy ol7;have h75:h7.ab (h.nx+1)=some [I 4,I 0,.str [],.aa]:=by rw[ay (hg7 _ (by omega))];exact h55
  have agh:kSt h7 1 (.ptr (h.nx+1) 3) lv'=some (.undef,h7.set (h.nx+1) (.cells [I 4,I 0,.str [],lv'])):=ap1 iC h75 rfl;simp[OE,k7];rw[agh];simp[];have g8:V2 h h5 (h7.set (h.nx+1) (.cells [I 4,I 0,.str [],lv'])) id x3 lv' [w]:=by
   refine⟨ho5.app hid (by simp;omega) λi hi=>by rw[au,amU (by omega),hg7 i (by omega)],?_,eD _ _ _ _ rfl,by simp;omega,by omega,by simp;omega,?_⟩
   ·rw[ak _ _ _ _ (by omega),ay (hg7 _ (by omega))];exact hr5
   ·have:cZ [w]=[]++vC w:=by simp[cZ,vCs]
    rw[this];exact ol7.du (by simp) λi hi _=>by rw[au,amU (by omega)]
  have hw8:(h7.set (h.nx+1) (.cells [I 4,I 0,.str [],lv'])).ab (h.nx+2)=some (vC w):=by rw[ak _ _ _ _ (by omega),ay (hg7 _ (by omega))];exact h5w
  generalize h7.set (h.nx+1) (.cells [I 4,I 0,.str [],lv'])=h8 at*;have hmn:∃m:Nat,(1:Int)+m=n:=⟨n.toNat-1,by omega⟩;obtain⟨m0,hm0⟩:=hmn;rw[show n.toNat-1=m0 by omega]at hR;refine⟨VL1 h h5 id (h.nx+2) n w (d+1) R,m0,.mk 1 x3 lv' [w] hx3 hm0 (by simp) hR g8 hw8,?_⟩;clear g8 hw8 iC h75 agh k7 ol7 hn7 hg7 hR hst hm0 hx3 hr5 ho5 h55 hg5 h5w;rintro m vs h9 ⟨i,x,lv,acc,hx,him,hai,hR,g,hw9⟩;cases m with
  |zero=>
   have hlt:¬(i:Int)<n:=by omega
   simp[E0,hlt];simp[O0,Ir];exact .mk h5 x lv acc g (by rw[hR];simp[itV,itS])
  |succ m=>
   have hlt:(i:Int)<n:=by omega
   have h59:=g.l5;simp[E0,hlt,h59,hw9,fk];have g0:=g;have g:=g.bump (k:=h9.nx+9) (by omega);refine X0 w g.ob.c (g.ob.lt hid) hx hdp ?_;refine⟨by simp,?_⟩;have hy4:=Kp (d+1) w x hx;have g:=g.rd hid (lk (d+1) w x).2;have hr1:aU (.read (h.nx+1)) (.eff ⟨h9.H,h9.nx+9⟩ ((AH.mk h9.H (h9.nx+9)).set id (.cells (srC (lk (d+1) w x).2))))=true:=cP _ _ _ _ (by omega);have hgt:∀q,q≠id->((AH.mk h9.H (h9.nx+9)).set id (.cells (srC (lk (d+1) w x).2))).H.get q=h9.H.get q:=λq hq=>by rw[au,amU hq]
   have N5:((AH.mk h9.H (h9.nx+9)).set id (.cells (srC (lk (d+1) w x).2))).nx=h9.nx+9:=rfl;have e1:lkV (d+1) w x=(lk (d+1) w x).1:=rfl;have e2:lkS (d+1) w x=(lk (d+1) w x).2:=rfl;simp only[itV,itS,e1,e2]at hR;generalize(AH.mk h9.H (h9.nx+9)).set id (.cells (srC (lk (d+1) w x).2))=h10 at*;generalize lk (d+1) w x=RR at*;obtain⟨u,y'⟩:=RR;simp only at*;have haf:bW [I 0,I 0,.str [],.aa] [(0,4,.agg (vC u))]=some (vC u):=by cases u;simp only[vC];rfl
   have hnx:=g0.nx;have hbn:=g0.hbn;have xF:=g0.xF;have l6:OL 4 h5 (h10.set (h9.nx+5) (.cells (vC u))) lv acc.length (cZ acc):=g0.ol.du (by simp;omega) λq hq1 hq2=>by rw[au,amU (by omega),hgt q (by omega)]
   obtain⟨lv',h7,k7,ol7,hn7,hg7⟩:=mw (bytes:=56) l6 (by simp;omega) (eD _ _ _ _ rfl) (cH u) (iH u) (by omega) (by omega);have iC:=jy ol7;have e7:∀q,q<h9.nx->q<h5.nx->h7.H.get q=h10.H.get q:=λq hq1 hq2=>by rw[hg7 q hq2,au,amU (by omega)]
   have h75:h7.ab (h.nx+1)=some [I 4,I 0,.str [],lv]:=by rw[ay (e7 _ (by omega) (by omega))];exact g.l5
   have hst:kSt h7 1 (.ptr (h.nx+1) 3) lv'=some (.undef,h7.set (h.nx+1) (.cells [I 4,I 0,.str [],lv'])):=ap1 iC h75 rfl;rw[haf];simp(disch:=first|go_size|fail)[];refine fR k7 (by simp only[np]at hn7 ⊢; omega) ?_;simp(disch:=first|go_size|fail)[TG];refine fR hst (by simp) ?_;simp only[np]at hn7;refine⟨hr1,by omega,m,by omega,?_⟩;refine .mk (i+1) y' lv' (acc++[u]) hy4 (by omega) (by simp;omega) (by rw[hR];simp) ⟨?_,?_,eD _ _ _ _ rfl,by simp;omega,hbn,by simp;omega,?_⟩ ?_
   ·exact g.ob.app hid (by simp;omega) λq hq=>by rw[au,amU (by omega),e7 q (by omega) (by omega)]
   ·rw[ak _ _ _ _ (by omega),ay (e7 _ (by omega) (by omega))];exact g.r
   ·rw[jL,amX];exact ol7.du (by simp) λq hq _=>by rw[au,amU (by omega)]
   ·rw[ak _ _ _ _ (by omega),ay (e7 _ (by omega) (by omega)),ay (hgt _ (by omega))];exact hw9
 ·rw[amU hn]at hR;simp[hn];refine⟨VLm h id R,?_,hj⟩;simp[GO];exact .mk hb0 x2 .aa [] hg hR
theorem OV:∀n,qs n
 |0=>afz
 |n+1=>Nx (OV n)
theorem va1:Eh 1:=Ai (d:=1) _ (Eg (by omega) va0 (OV 1)) λx=>rfl
theorem va2:Eh 2:=Ai (d:=2) _ (Eg (by omega) va1 (OV 2)) λx=>rfl
theorem Q1(h:AH)(id:Nat)(x:Sr)(hc:h.ab id=some (srC x))(hid:id<h.nx)(hx:x.Ok):aK prog 22 [.ptr id 0,I 2] h (.agg (vC (va 2 x).1)) (h.set id (.cells (srC (va 2 x).2))):=va2 h id x hc hid hx
def e22:QE prog:=QE.obj 22 (λ_ _=>True) srC (fun(_:Unit)=>[I 2]) (fun(x:Sr)(y:Unit)=>match y with|_=>x.Ok) (fun(x:Sr)(y:Unit)=>match y with|_=>.agg (vC (va 2 x).1)) (fun(x:Sr)(y:Unit)=>match y with|_=>(va 2 x).2) (λh id x y hj hc hid hx=>match y,hx with|_,hx=>Q1 h id x hc hid hx)
theorem ad1{tl h}{id:Nat}{x:Sr}{Q:QT}(hc:h.ab id=some (srC x))(hid:id<h.nx)(hx:x.Ok)(hq:Q (.agg (vC (va 2 x).1)) (h.set id (.cells (srC ((va 2 x).2))))):tb (e22::tl) 22 (.ptr id 0::[I 2]) h Q:=bF () trivial hc hid hx hq
@[simp ↓] theorem aj8:TbT e22 22:=aH e22
structure Inp where
 kind:Int
 pk:Int
 pid:Int
 px:Int
 py:Int
 pt:Int
 pw:Int
 key:Int
 mM:Int
 time:Int
 sw:Int
 sh:Int
 nP:Bool
 high:Bool
 scale:Int
 args:List Val
 ver:Int
 node:Int
 act:Int
 frm:Int
 too:Int
 rt:Str
 tk:Int
 t:List Int
 ct:List Int
 cr:List (Int×Int)
 unit:Int
 dir:Int
 ext:Bool
 n:Int
 a:Int
 b:Int
 x:Int
 y:Int
 oa:Int
 cls:List (Int×Bool)
 tt:Int
def Inp.z:Inp:=⟨0,0,0,0,0,0,0,0,0,0,0,0,false,false,0,[],0,0,0,0,0,[],0,[],[],[],0,0,false,0,0,0,0,0,0,[],0⟩
def inG(i:Inp)(A T CT CR C:AV):LA:=
 [I i.kind,I i.pk,I i.pid,I i.px,I i.py,I i.pt,I i.pw,I i.key,I i.mM,I i.time,I i.sw,I i.sh,.bool i.nP,.bool i.high,I i.scale,A,I i.ver,I i.node,I i.act,I i.frm,I i.too,.str i.rt,I i.tk,T,CT,CR,I i.unit,I i.dir,.bool i.ext,I i.n,I i.a,I i.b,I i.x,I i.y,I i.oa,C,I i.tt]
def cbC(l:List (Int×Bool)):List (LA):=l.map λp=>[I p.1,.bool p.2]
theorem Wd(l:List (Int×Bool)):∀y∈cbC l,y.length=2:=by
 intro y hy;obtain⟨p,_,rfl⟩:=an0.1 hy;rfl
theorem KD(l:List (Int×Bool)):∀y∈cbC l,∀(H:AH) (j:Nat) (c:AV),y[j]?=some c->Frz H false c c:=by
 intro y hy H j c hc;obtain⟨p,_,rfl⟩:=an0.1 hy;match j with
 |0=>simp at hc;subst hc;exact .int _ _
 |1=>simp at hc;subst hc;exact .bool _
 |j+2=>simp at hc
def inC(i:Inp):LA:=inG i (.psl (vCs i.args)) (.psl (rnC i.t)) (.psl (rnC i.ct)) (.psl (chC i.cr)) (.psl (cbC i.cls))
def Sl(ys:List (LA))(A:AV):Prop:=A =.psl ys\/(A =.aa/\ys=[])
def InC(i:Inp)(cs:LA):Prop:=∃A T CT CR C,cs=inG i A T CT CR C/\Sl (vCs i.args) A/\Sl (rnC i.t) T/\Sl (rnC i.ct) CT/\Sl (chC i.cr) CR/\Sl (cbC i.cls) C
theorem Zx(i:Inp):InC i (inC i):=⟨_,_,_,_,_,rfl,.inl rfl,.inl rfl,.inl rfl,.inl rfl,.inl rfl⟩
theorem zg{ys:List (LA)}(hy:∀y∈ys,∀(H:AH) (j:Nat) (c:AV),y[j]?=some c->Frz H false c c)(H:AH):Frz H false (.psl ys) (.psl ys):=
 .psl rfl _ _ rfl (λi x y hx hy=>by rw[hx]at hy;cases hy;rfl) λi x y j c d hx hy2 hc hd=>by
  rw[hx]at hy2;cases hy2;rw[hc]at hd;cases hd;exact hy x (am9 hx) H j c hc
theorem uz{H:AH}{i:Inp}{A T CT CR C A' T' CT' CR' C':AV}(h1:Frz H false A A')(h2:Frz H false T T')(h3:Frz H false CT CT')(h4:Frz H false CR CR')(h5:Frz H false C C'):ea H false (inG i A T CT CR C) (inG i A' T' CT' CR' C'):=by
 unfold inG;repeat' (first|assumption|exact trivial|refine And.intro ?_ ?_|exact .int _ _|exact .bool _|exact .str _)
theorem Wo(i:Inp):Cel (inC i):=⟨rfl,rfl,λH=>uz (rz _ H) (BQ _ H) (BQ _ H) (zg (Mm _) H) (zg (KD _) H)⟩
theorem CQ{ys:List (LA)}{A:AV}(h:Sl ys A):A.one=true:=by
 rcases h with rfl|⟨rfl,_⟩<;>rfl
theorem ma{H:AH}{ys:List (LA)}(h:ys=[]):Frz H false .aa (.psl ys):=by subst h;exact .aa
structure P9(h h':AH)(id:Nat)(x:Sr):Prop where
 ob:Ob h h' id (srC x)
 r:h'.ab h.nx=some zIn
 nx:h.nx+1<=h'.nx
theorem P9.rd{h h':AH}{id:Nat}{x:Sr}(g:P9 h h' id x)(hid:id<h.nx)(y:Sr):P9 h (h'.set id (.cells (srC y))) id y:=
 ⟨g.ob.set _,by rw[ak _ _ _ _ (by omega)];exact g.r,g.nx⟩
theorem P9.bump{h h':AH}{id:Nat}{x:Sr}(g:P9 h h' id x){k:Nat}(hk:h'.nx<=k):P9 h ⟨h'.H,k⟩ id x:=⟨g.ob.bump _ hk,g.r,ane g.nx hk⟩
theorem YJ{h h':AH}{id:Nat}{x:Sr}{cs:LA}(g:P9 h h' id x)(hl:cs.length=37)(ho:dj cs=true):kSt h' 37 (.ptr h.nx 0) (.agg cs)=some (.undef,h'.set h.nx (.cells cs)):=
 J7 hl ho g.r (dG (by rw[hl];rfl))
theorem vF{h h':AH}{id:Nat}{x:Sr}{i:Inp}{cs:LA}(hid:id<h.nx)(g:P9 h h' id x)(hl:cs.length=37)(ho:dj cs=true)(hf:ea (fresh (h'.set h.nx (.cells cs)) h.nx) false cs (inC i)):
  wk (kSt h' 37 (.ptr h.nx 0) (.agg cs)) λ_ h2=>bP (na h2 [.cell (.ptr h.nx 0) (some 37)]) h2 (λv h2=>Frz (fresh h2 h.nx) false v (.agg (inC i))/\Ob h h2 id (srC x)):=by
 rw[YJ g hl ho];have hc:(h'.set h.nx (.cells cs)).ab h.nx=some cs:=eD _ _ _ _ rfl;have fk:cut cs 0 37=some cs:=by
  have:=aM (α:=cs) (b:=[]) (n:=37) hl;rwa [am5]at this
 have ho2:Ob h (h'.set h.nx (.cells cs)) id (srC x):=g.ob.app hid (by simp) λi hi=>by rw[au,amU (by omega)]
 generalize h'.set h.nx (.cells cs)=h2 at*;simp[hc,fk];exact⟨hf,ho2⟩
def pl0(n:Int)(x:Sr):Inp×Sr:=
 ({Inp.z with kind:=1,pk:=rgV x 1 6,pid:=nV (nS x 6) 9,px:=n,py:= -n,pt:=nV (nS (nS x 6) 9) 99,pw:=rgV (nS (nS (nS x 6) 9) 99) (-9) 9},nS (nS (nS (nS x 6) 9) 99) 19)
def pl1(x:Sr):Inp×Sr:=
 ({Inp.z with kind:=2,key:=((chV x).headD (0,0)).1,mM:=((chV x).headD (0,0)).2,time:=nV (chS x) 99},nS (chS x) 99)
def pl2(n:Int)(x:Sr):Inp×Sr:=({Inp.z with kind:=3,time:=n},x)
def pl3(n:Int)(x:Sr):Inp×Sr:=({Inp.z with kind:=4,sw:=n,sh:=nV x 99},nS x 99)
def pl4(x:Sr):Inp×Sr:=
 ({Inp.z with kind:=5,nP:=nV x 2==1,high:=nV (nS x 2) 2==1,scale:=kA.getD (nV (nS (nS x 2) 2) 5).toNat 0},mdS x)
def GY(x:Sr):Val:=(va 2 x).1
def yg(x:Sr):Sr:=(va 2 x).2
def z5A(l:List Val):Inp:=⟨6,0,0,0,0,0,0,0,0,0,0,0,false,false,0,l,0,0,0,0,0,[],0,[],[],[],0,0,false,0,0,0,0,0,0,[],0⟩
def pl5(x:Sr):Inp×Sr:=
 (z5A (itV GY yg (nV x 3).toNat (nS x 3)),itS yg (nV x 3).toNat (nS x 3))
def pl6(n:Int)(x:Sr):Inp×Sr:=
 ({Inp.z with kind:=7,ver:=nV x 9,node:=n,act:=2^(nV (nS x 9) 9).toNat,frm:=nV (nS (nS x 9) 9) 9,too:=nV (nS (nS (nS x 9) 9) 9) 9,rt:=cC (vdV (nS (nS (nS (nS x 9) 9) 9) 9) 4)},txS (nS (nS (nS (nS x 9) 9) 9) 9) 4)
def H9(x:Sr):Int×Bool:=(rgV x 1 3,nV (nS x 3) 2==1)
def qW(x:Sr):Sr:=nS (nS x 3) 2
def plT(k:Int)(x:Sr):List Int:=if k=15\/k=16 then vdV x 5 else []
def mU(k:Int)(x:Sr):Sr:=if k=15\/k=16 then txS x 5 else x
def pl7(x:Sr):Inp×Sr:=
 if rgV x 14 17=15 then
  ({Inp.z with kind:=8,tk:=rgV x 14 17,t:=plT (rgV x 14 17) (nS x 4),oa:=nV (mU (rgV x 14 17) (nS x 4)) 6,cls:=itV H9 qW (nV (nS (mU (rgV x 14 17) (nS x 4)) 6) 3).toNat (nS (nS (mU (rgV x 14 17) (nS x 4)) 6) 3)},itS qW (nV (nS (mU (rgV x 14 17) (nS x 4)) 6) 3).toNat (nS (nS (mU (rgV x 14 17) (nS x 4)) 6) 3))
 else({Inp.z with kind:=8,tk:=rgV x 14 17,t:=plT (rgV x 14 17) (nS x 4)},mU (rgV x 14 17) (nS x 4))
def plC(c n:Int)(x:Sr):Inp×Sr:=
 if c=0 then pl0 n x else if c=1 then pl1 x else if c=2 then pl2 n x else if c=3 then pl3 n x else if c=4 then pl4 x else if c=5 then pl5 x else if c=6 then pl6 n x else pl7 x
def plI(x:Sr):Inp:=(plC (nV (nS x 1003) 8) (rgV x (-3) 999) (nS (nS x 1003) 8)).1
def plS(x:Sr):Sr:=(plC (nV (nS x 1003) 8) (rgV x (-3) 999) (nS (nS x 1003) 8)).2
def PLQ(h:AH)(id:Nat)(R:Inp×Sr):QT:=λv h2=>Frz (fresh h2 h.nx) false v (.agg (inC R.1))/\Ob h h2 id (srC R.2)
def pE:List (QE prog):=[e8,e19,e20,e21,e22,e23]
theorem pD{H:AH}{i:Inp}(h1:i.args=[])(h2:i.t=[])(h3:i.ct=[])(h4:i.cr=[])(h5:i.cls=[]):ea H false (inG i .aa .aa .aa .aa .aa) (inC i):=
 uz (by rw[h1];exact dn) (ma (by rw[h2];rfl)) (ma (by rw[h3];rfl)) (ma (by rw[h4];rfl)) (ma (by rw[h5];rfl))
theorem p_0{h h1:AH}{id:Nat}{x:Sr}{n:Int}(hid:id<h.nx)(hn : -1000<=n/\n<=1000)(hx:x.Ok)(g:P9 h h1 id x){k:Int}(hk:k=rgV x 1 6):Qk (tb pE) (.ptr id 0) (.ptr h.nx 0) (I n) (I k) (h1.set id (.cells (srC (nS x 6)))) (PLQ h id (pl0 n x)):=by
 have hx:=bn hx 6;have g:=g.rd hid (nS x 6);unfold pl0;rw[<-hk];clear hk;generalize h1.set id (.cells (srC (nS x 6)))=h2 at*;generalize nS x 6=x at*;unfold pE;simp[Qk];refine gD 9 g.ob.c (g.ob.lt hid) ⟨hx,by omega⟩ ?_;have hx:=bn hx 9;have g:=g.rd hid (nS x 9);generalize h2.set id (.cells (srC (nS x 9)))=h3 at*;generalize nV x 9=a at*;generalize nS x 9=x at*;simp(disch:=first|go_size|fail)[XQ];refine gD 99 g.ob.c (g.ob.lt hid) ⟨hx,by omega⟩ ?_;have hx:=bn hx 99;have g:=g.rd hid (nS x 99);generalize h3.set id (.cells (srC (nS x 99)))=h4 at*;generalize nV x 99=b at*;generalize nS x 99=x at*;simp[XS];refine u4 (-9) 9 g.ob.c (g.ob.lt hid) ⟨hx,by omega⟩ ?_;rw[show(9:Int) - -9+1=19 by omega];have hx:=bn hx 19;have g:=g.rd hid (nS x 19);generalize h4.set id (.cells (srC (nS x 19)))=h5 at*;generalize rgV x (-9) 9=c at*;generalize nS x 19=x at*;unfold YF;simp[];exact vF hid g rfl rfl (pD (i:={Inp.z with kind:=1,pk:=k,pid:=a,px:=n,py:= -n,pt:=b,pw:=c}) rfl rfl rfl rfl rfl)
theorem Ro(h:AH){q:Nat}(hq:q<9):ae h .shl (I 1) (.int .u64 q)=some (I (2^q),h):=by
 match q,hq with
 |0,_=>rfl
 |1,_=>rfl
 |2,_=>rfl
 |3,_=>rfl
 |4,_=>rfl
 |5,_=>rfl
 |6,_=>rfl
 |7,_=>rfl
 |8,_=>rfl
theorem wU(h:AH)(L:List Int):kX h .r2s [.psl (rnC L)]=some (.str (cC L),h):=Fk (zn h L) (m:=(rnC L).length) rfl
theorem p_6{h h1:AH}{id:Nat}{x:Sr}{n:Int}(hid:id<h.nx)(hx:x.Ok)(g:P9 h h1 id x){k:Int}(hk:k=nV x 9):Gg (tb pE) (.ptr id 0) (.ptr h.nx 0) (I n) (I k) (h1.set id (.cells (srC (nS x 9)))) (PLQ h id (pl6 n x)):=by
 have hx:=bn hx 9;have g:=g.rd hid (nS x 9);unfold pl6;rw[<-hk];clear hk;generalize h1.set id (.cells (srC (nS x 9)))=h2 at*;generalize nS x 9=x at*;unfold pE;simp[Gg];refine gD 9 g.ob.c (g.ob.lt hid) ⟨hx,by omega⟩ ?_;have hx':=bn hx 9;have g:=g.rd hid (nS x 9);have n1:=eG x 9;have n2:=eu x (show(1:Int)<=9 by omega);obtain⟨q,hq⟩:=anu n1;have hq9:q<9:=by omega
 rw[hq];generalize h2.set id (.cells (srC (nS x 9)))=h3 at*;generalize nS x 9=x at*;have hw:IntKind.u64.wrap (q:Int)=q:=by simp only[IntKind.wrap,IntKind.bits,IntKind.signed];simp;omega
 have hsh:=Ro h3 hq9;simp[TJ,hw,hsh];have hx:=hx';refine gD 9 g.ob.c (g.ob.lt hid) ⟨hx,by omega⟩ ?_;have hx:=bn hx 9;have g:=g.rd hid (nS x 9);generalize h3.set id (.cells (srC (nS x 9)))=h4 at*;generalize nV x 9=b at*;generalize nS x 9=x at*;simp[RY];refine gD 9 g.ob.c (g.ob.lt hid) ⟨hx,by omega⟩ ?_;have hx:=bn hx 9;have g:=g.rd hid (nS x 9);generalize h4.set id (.cells (srC (nS x 9)))=h5 at*;generalize nV x 9=c at*;generalize nS x 9=x at*;simp[Sw];refine Ye 4 g.ob.c (g.ob.lt hid) ⟨hx,by omega,by omega⟩ ?_;have g:=g.rd hid (txS x 4);generalize h5.set id (.cells (srC (txS x 4)))=h6 at*;have hxx:=wU h6 (vdV x 4);generalize vdV x 4=L at*;generalize cC L=S at*;generalize txS x 4=x at*;unfold Tr;simp[hxx];exact vF hid g rfl rfl (pD (i:={Inp.z with kind:=7,ver:=k,node:=n,act:=2^q,frm:=b,too:=c,rt:=S}) rfl rfl rfl rfl rfl)
def z6:Inp:=z5A []
def in6(lv:AV):LA:=inG z6 lv .aa .aa .aa .aa
structure P5(h hb h':AH)(id:Nat)(x:Sr)(lv:AV)(acc:List Val):Prop where
 ob:Ob h h' id (srC x)
 r:h'.ab h.nx=some zIn
 l5:h'.ab (h.nx+1)=some (in6 lv)
 nx:h.nx+2<=h'.nx
 hbn:h.nx+2<=hb.nx
 xF:hb.nx<=h'.nx
 ol:OL 4 hb h' lv acc.length (cZ acc)
theorem P5.rd{h hb h':AH}{id:Nat}{x:Sr}{lv:AV}{acc:List Val}(g:P5 h hb h' id x lv acc)(hid:id<h.nx)(y:Sr):P5 h hb (h'.set id (.cells (srC y))) id y lv acc:=
 ⟨g.ob.set _,by rw[ak _ _ _ _ (by omega)];exact g.r,by rw[ak _ _ _ _ (by omega)];exact g.l5,g.nx,g.hbn,g.xF,g.ol.set (by have:=g.hbn;omega) _⟩
theorem P5.bump{h hb h':AH}{id:Nat}{x:Sr}{lv:AV}{acc:List Val}(g:P5 h hb h' id x lv acc){k:Nat}(hk:h'.nx<=k):P5 h hb ⟨h'.H,k⟩ id x lv acc:=
 ⟨g.ob.bump _ hk,g.r,g.l5,ane g.nx hk,g.hbn,ane g.xF hk,g.ol.bump hk⟩
inductive PL5(h hb:AH)(id:Nat)(R:Inp×Sr):Nat->List AV->AH->Prop
 |mk {m:Nat} {h':AH} (x:Sr) (lv:AV) (acc:List Val):x.Ok->acc.length+m<=3->R=(z5A (acc++itV GY yg m x),itS yg m x)->P5 h hb h' id x lv acc->PL5 h hb id R m [.ptr id 0,.ptr h.nx 0,.ptr (h.nx+1) 0,I m] h'
theorem p_5{h h1:AH}{id:Nat}{x:Sr}{n:Int}(hid:id<h.nx)(hx:x.Ok)(g:P9 h h1 id x)(hn1:h1.nx=h.nx+1):sg (tb pE) (.ptr id 0) (.ptr h.nx 0) (I n) (I 5) (.bool false) h1 (PLQ h id (pl5 x)):=by
 have hz:=g.r;have hfz:[I 0,I 0,I 0,I 0,I 0,I 0,I 0,I 0,I 0,I 0,I 0,I 0,.bool false,.bool false,I 0,.aa,I 0,I 0,I 0,I 0,I 0,.str [],I 0,.aa,.aa,.aa,I 0,I 0,.bool false,I 0,I 0,I 0,I 0,I 0,I 0,.aa,I 0]=zIn:=rfl;unfold sg;rw[hfz];have haf:bW zIn [(0,1,I 6)]=some (in6 .aa):=rfl;have hl6:(in6 .aa).length=37:=rfl;have ho6:dj (in6 .aa)=true:=rfl;have hs6:fi zIn 0 (in6 .aa)=some (in6 .aa):=dG rfl;simp[haf,hl6,ho6,hs6];rw[hn1];have g2:P5 h (h1.add (.cells zIn)) ((h1.add (.cells zIn)).set (h.nx+1) (.cells (in6 .aa))) id x .aa []:=by
  refine⟨g.ob.app hid (by simp) λi hi=>by rw[au,amU (by omega),az,amU (by omega)],?_,eD _ _ _ _ rfl,by simp;omega,by simp;omega,by simp,OL.start _ _ _⟩;rw[ak _ _ _ _ (by omega),aC _ _ _ (by omega)];exact g.r
 obtain⟨hb0,ER⟩:∃hb0,hb0=h1.add (.cells zIn):=⟨_,rfl⟩;rw[<-ER]at g2 ⊢;generalize hb0.set (h.nx+1) (.cells (in6 .aa))=h2 at*;clear ER hz haf g;unfold pE;refine gD 3 g2.ob.c (g2.ob.lt hid) ⟨hx,by omega⟩ ?_;have hx:=bn hx 3;have g:=g2.rd hid (nS x 3);have n1:=eG x 3;have n2:=eu x (show(1:Int)<=3 by omega);have hR:pl5 x=(z5A (itV GY yg (nV x 3).toNat (nS x 3)),itS yg (nV x 3).toNat (nS x 3)):=rfl;obtain⟨m0,hm0⟩:=anu n1;generalize pl5 x=R at*;rw[hm0]at hR n2 ⊢;generalize h2.set id (.cells (srC (nS x 3)))=h3 at*;generalize nS x 3=x at*;clear g2 n1 hm0;refine⟨PL5 h hb0 id R,m0,.mk x .aa [] hx (by simp;omega) (by rw[hR];rfl) g,?_⟩;clear hx hR g;rintro m vs h4 ⟨x,lv,acc,hx,hm,hR,g⟩;cases m with
 |zero=>
  have h5:=g.l5;have hR':R=(z5A acc,x):=by rw[hR];simp[itV,itS]
  subst hR';have fk:cut (in6 lv) 0 37=some (in6 lv):=by
   have:=aM (α:=in6 lv) (b:=[]) (n:=37) rfl;rwa [am5]at this
  have ho:dj (in6 lv)=true:=by
   have o:=g.ol;rcases o with⟨rfl,_⟩|⟨k,rfl,_⟩<;>rfl
  have hr:=g.r;have EW:(in6 lv).length=37:=rfl;have hsp:fi zIn 0 (in6 lv)=some (in6 lv):=dG rfl;simp[Oj];unfold Pg;simp[R9,h5,fk,EW,ho,hr,hsp];have hbn:=g.hbn;refine⟨?_,g.ob.app hid (by simp) λi hi=>by rw[au,amU (by omega)]⟩;first
  |exact re (uz (i:=z6) (qx (hb:=hb0) (g.ol.du (by simp) λi hi _=>by rw[au,amU (by omega)]) (by omega)) (ma rfl) (ma rfl) (ma rfl) (ma rfl))
 |succ m=>
  have hlt:(0:Int)<((m+1:Nat):Int):=by omega
  have h59:=g.l5;have acB:(in6 lv)[15]?=some lv:=rfl;simp[Oj,hlt,h59,acB];have g0:=g;have g:=g.bump (k:=h4.nx+8) (by omega);refine ad1 g.ob.c (g.ob.lt hid) hx ?_;refine⟨by simp,?_⟩;have hy4:=Kw 2 x hx;have g:=g.rd hid (va 2 x).2;have hr1:aU (.read (h.nx+1)) (.eff ⟨h4.H,h4.nx+8⟩ ((AH.mk h4.H (h4.nx+8)).set id (.cells (srC (va 2 x).2))))=true:=cP _ _ _ _ (by omega);have hgt:∀q,q≠id->((AH.mk h4.H (h4.nx+8)).set id (.cells (srC (va 2 x).2))).H.get q=h4.H.get q:=λq hq=>by rw[au,amU hq]
  have N5:((AH.mk h4.H (h4.nx+8)).set id (.cells (srC (va 2 x).2))).nx=h4.nx+8:=rfl;have e1:GY x=(va 2 x).1:=rfl;have e2:yg x=(va 2 x).2:=rfl;simp only[itV,itS,e1,e2]at hR;generalize(AH.mk h4.H (h4.nx+8)).set id (.cells (srC (va 2 x).2))=h10 at*;generalize va 2 x=RR at*;obtain⟨u,y'⟩:=RR;simp only at*;have haf:bW [I 0,I 0,.str [],.aa] [(0,4,.agg (vC u))]=some (vC u):=by cases u;simp only[vC];rfl
  have hnx:=g0.nx;have hbn:=g0.hbn;have xF:=g0.xF;have l6:OL 4 hb0 (h10.set (h4.nx+4) (.cells (vC u))) lv acc.length (cZ acc):=g0.ol.du (by simp;omega) λq hq1 hq2=>by rw[au,amU (by omega),hgt q (by omega)]
  obtain⟨lv',h7,k7,ol7,hn7,hg7⟩:=mw (bytes:=56) l6 (by simp;omega) (eD _ _ _ _ rfl) (cH u) (iH u) (by omega) (by omega);have iC:=jy ol7;have e7:∀q,q<h4.nx->q<hb0.nx->h7.H.get q=h10.H.get q:=λq hq1 hq2=>by rw[hg7 q hq2,au,amU (by omega)]
  have h75:h7.ab (h.nx+1)=some (in6 lv):=by rw[ay (e7 _ (by omega) (by omega))];exact g.l5
  have hst:kSt h7 1 (.ptr (h.nx+1) 15) lv'=some (.undef,h7.set (h.nx+1) (.cells (in6 lv'))):=ap1 iC h75 rfl;rw[haf];simp[];refine fR k7 (by simp only[np]at hn7 ⊢; omega) ?_;simp(disch:=first|go_size|fail)[YK];refine fR hst (by simp) ?_;simp only[np]at hn7;refine⟨hr1,by omega,m,by omega,?_⟩;refine .mk y' lv' (acc++[u]) hy4 (by simp;omega) (by rw[hR];simp) ⟨?_,?_,eD _ _ _ _ rfl,by simp;omega,hbn,by simp;omega,?_⟩
  ·exact g.ob.app hid (by simp;omega) λq hq=>by rw[au,amU (by omega),e7 q (by omega) (by omega)]
  ·rw[ak _ _ _ _ (by omega),ay (e7 _ (by omega) (by omega))];exact g.r
  ·rw[jL,amX];exact ol7.du (by simp) λq hq _=>by rw[au,amU (by omega)]
def z7A(k:Int)(t:List Int)(n:Int)(c:List (Int×Bool)):Inp:=⟨8,0,0,0,0,0,0,0,0,0,0,0,false,false,0,[],0,0,0,0,0,[],k,t,[],[],0,0,false,0,0,0,0,0,n,c,0⟩
theorem W8(k n:Int)(t:List Int)(c:List (Int×Bool))(T C:AV):dm k T n C=inG (z7A k t n c) .aa T .aa .aa C:=rfl
structure P7(h h':AH)(id:Nat)(x:Sr)(k:Int)(T:AV)(n:Int)(C:AV):Prop where
 ob:Ob h h' id (srC x)
 r:h'.ab h.nx=some zIn
 l6:h'.ab (h.nx+1)=some (dm k T n C)
 nx:h.nx+2<=h'.nx
theorem P7.rd{h h':AH}{id:Nat}{x:Sr}{k n:Int}{T C:AV}(g:P7 h h' id x k T n C)(hid:id<h.nx)(y:Sr):P7 h (h'.set id (.cells (srC y))) id y k T n C:=
 ⟨g.ob.set _,by rw[ak _ _ _ _ (by omega)];exact g.r,by rw[ak _ _ _ _ (by omega)];exact g.l6,g.nx⟩
theorem P7.st{h h':AH}{id:Nat}{x:Sr}{k n:Int}{T C:AV}(g:P7 h h' id x k T n C)(hid:id<h.nx)(T':AV)(n':Int)(C':AV):P7 h (h'.set (h.nx+1) (.cells (dm k T' n' C'))) id x k T' n' C':=
 ⟨g.ob.app hid (by simp) λi hi=>by rw[au,amU (by omega)],by rw[ak _ _ _ _ (by omega)];exact g.r,eD _ _ _ _ rfl,g.nx⟩
theorem P7.bump{h h':AH}{id:Nat}{x:Sr}{k n:Int}{T C:AV}(g:P7 h h' id x k T n C){m:Nat}(hk:h'.nx<=m):P7 h ⟨h'.H,m⟩ id x k T n C:=⟨g.ob.bump _ hk,g.r,g.l6,ane g.nx hk⟩
theorem Zb{cl:CL}{h h':AH}{id:Nat}{x:Sr}{k n:Int}{T C:AV}{t:List Int}{c:List (Int×Bool)}(hid:id<h.nx)(g:P7 h h' id x k T n C)(hT:T.one=true)(hC:C.one=true)
  (hf:∀h2:AH,h2=h'.set h.nx (.cells (dm k T n C))->Frz (fresh h2 h.nx) false T (.psl (rnC t))/\Frz (fresh h2 h.nx) false C (.psl (cbC c))):
  Al cl (.ptr h.nx 0) (.ptr (h.nx+1) 0) h' (PLQ h id (z7A k t n c,x)):=by
 have EW:(dm k T n C).length=37:=rfl;have hr:=g.r;have h5:=g.l6;have fk:cut (dm k T n C) 0 37=some (dm k T n C):=by
  have:=aM (α:=dm k T n C) (b:=[]) (n:=37) rfl;rwa [am5]at this
 have ho:dj (dm k T n C)=true:=by
  simp only[dm,dj,aoE,hT,hC];rfl
 have hsp:fi zIn 0 (dm k T n C)=some (dm k T n C):=dG rfl;simp[Al,h5,fk,EW,ho,hr,hsp];obtain⟨f1,f2⟩:=hf _ rfl;refine⟨?_,g.ob.app hid (by simp) λi hi=>by rw[au,amU (by omega)]⟩;rw[W8 k n t c]at*;exact re (uz dn f1 (ma rfl) (ma rfl) f2)
inductive PM7(h:AH)(id:Nat)(x:Sr)(k n:Int)(t:List Int)(c:List (Int×Bool)):List AV->AH->Prop
 |mk {h':AH} (hb:AH) (T C:AV):P7 h h' id x k T n C->T.one=true->(∀H,Frz H false T (.psl (rnC t)))->h.nx+2<=hb.nx->OL 2 hb h' C c.length (cbC c).flatten->PM7 h id x k n t c [.ptr h.nx 0,.ptr (h.nx+1) 0] h'
theorem L5{cl:CL}{h h':AH}{id:Nat}{x:Sr}{k n:Int}{t:List Int}{c:List (Int×Bool)}{vs:LA}(hid:id<h.nx)(m:PM7 h id x k n t c vs h'):Al cl (ai vs 0) (ai vs 1) h' (PLQ h id (z7A k t n c,x)):=by
 obtain⟨hb,T,C,g,hT,hf,hbn,ol⟩:=m;refine Zb hid g hT (jy ol) λh2 e=>⟨hf _,?_⟩
 have ol2:OL 2 hb h2 C c.length (cbC c).flatten:=by rw[e];exact ol.du (by simp) λi hi _=>by rw[au,amU (by omega)]
 rw[show c.length=(cbC c).length by simp[cbC]]at ol2;exact ap9 (Wd c) (KD c) ol2 (by omega)
inductive PL7(h hb:AH)(id:Nat)(k n:Int)(T:AV)(ALL:List (Int×Bool))(END:Sr):Nat->List AV->AH->Prop
 |mk {m:Nat} {h':AH} (x:Sr) (lv:AV) (acc:List (Int×Bool)):x.Ok->acc.length+m<=3->acc++itV H9 qW m x=ALL->itS qW m x=END->P7 h h' id x k T n lv->OL 2 hb h' lv acc.length (cbC acc).flatten->hb.nx<=h'.nx->PL7 h hb id k n T ALL END m [.ptr id 0,.ptr h.nx 0,.ptr (h.nx+1) 0,I m] h'
theorem WU(x:Sr)(h:x.Ok):(qW x).Ok:=bn (bn h _) _
theorem Ws{h h1:AH}{id:Nat}{x:Sr}{k:Int}{T:AV}{n:Int}(hid:id<h.nx)(hx:x.Ok)(g:P7 h h1 id x k T n .aa)(hT:T.one=true){t:List Int}(hf:∀H,Frz H false T (.psl (rnC t))){m0:Nat}(hm0:m0<=3){Q:NT}
  (hq:∀vs h2,PM7 h id (itS qW m0 x) k n t (itV H9 qW m0 x) vs h2->Q vs h2):
  b9 (λvs h k=>B8 (tb pE) (ai vs 0) (ai vs 1) (ai vs 2) (ai vs 3) h k) [.ptr id 0,.ptr h.nx 0,.ptr (h.nx+1) 0,I m0] h1 λx vs h=>IK (tb pE) x (ai vs 0) (ai vs 1) h Q:=by
 refine⟨PL7 h h1 id k n T (itV H9 qW m0 x) (itS qW m0 x),m0,.mk x .aa [] hx (by simp;omega) rfl rfl g (OL.start _ _ _) (amY _),?_⟩;generalize itV H9 qW m0 x=ALL at*;generalize itS qW m0 x=END at*;have ajR:=g.nx;clear hx g;rintro m vs h4 ⟨x,lv,acc,hx,hm,hA,hE,g,ol,hbn⟩;cases m with
 |zero=>
  have hA':ALL=acc:=by rw[<-hA];simp[itV]
  have hE':END=x:=hE.symm;subst hA';subst hE';simp[B8];simp[IK,H7];exact hq _ _ (.mk h1 T lv g hT hf ajR ol)
 |succ m=>
  have hlt:(0:Int)<((m+1:Nat):Int):=by omega
  have h59:=g.l6;have acB:(dm k T n lv)[35]?=some lv:=rfl;simp[B8,hlt,h59,acB];unfold pE;simp[];have g0:=g;have g:=g.bump (m:=h4.nx+14) (by omega);refine u4 1 3 g.ob.c (g.ob.lt hid) ⟨hx,by omega⟩ ?_;refine⟨by simp,?_⟩;rw[show(3:Int)-1+1=3 by omega];have hx1:=bn hx 3;have g:=g.rd hid (nS x 3);have hr1:aU (.read (h.nx+1)) (.eff ⟨h4.H,h4.nx+14⟩ ((AH.mk h4.H (h4.nx+14)).set id (.cells (srC (nS x 3)))))=true:=cP _ _ _ _ (by omega);have hgt:∀q,q≠id->((AH.mk h4.H (h4.nx+14)).set id (.cells (srC (nS x 3)))).H.get q=h4.H.get q:=λq hq=>by rw[au,amU hq]
  have N5:((AH.mk h4.H (h4.nx+14)).set id (.cells (srC (nS x 3)))).nx=h4.nx+14:=rfl;have e1:H9 x=(rgV x 1 3,nV (nS x 3) 2==1):=rfl;have e2:qW x=nS (nS x 3) 2:=rfl;simp only[itV,itS,e1,e2]at hA hE;generalize(AH.mk h4.H (h4.nx+14)).set id (.cells (srC (nS x 3)))=h5 at*;generalize rgV x 1 3=ll at*;generalize nS x 3=x1 at*;refine gD 2 g.ob.c (g.ob.lt hid) ⟨hx1,by omega⟩ ?_;refine⟨by simp,?_⟩;have hx2:=bn hx1 2;have g:=g.rd hid (nS x1 2);have hr2:aU (.read (h.nx+1)) (.eff h5 (h5.set id (.cells (srC (nS x1 2)))))=true:=cP _ _ _ _ (by omega);have hgt:∀q,q≠id->(h5.set id (.cells (srC (nS x1 2)))).H.get q=h4.H.get q:=λq hq=>by rw[au,amU hq];exact hgt q hq
  have N5:(h5.set id (.cells (srC (nS x1 2)))).nx=h4.nx+14:=N5;generalize h5.set id (.cells (srC (nS x1 2)))=h10 at*;generalize nV x1 2=bb at*;generalize nS x1 2=y' at*;have ES:bW [I 0,.bool false] [(0,1,I ll),(1,1,.bool (bb==1))]=some [I ll,.bool (bb==1)]:=rfl;have haf:bW [I 0,.bool false] [(0,2,.agg [I ll,.bool (bb==1)])]=some [I ll,.bool (bb==1)]:=rfl;have hnx:=g0.nx;have l6:OL 2 h1 (h10.set (h4.nx+9) (.cells [I ll,.bool (bb==1)])) lv acc.length (cbC acc).flatten:=ol.du (by simp;omega) λq hq1 hq2=>by rw[au,amU (by omega),hgt q (by omega)]
  obtain⟨lv',h7,k7,ol7,hn7,hg7⟩:=mw (bytes:=16) l6 (by simp;omega) (eD _ _ _ _ rfl) rfl rfl (by omega) (by omega);have iC:=jy ol7;have e7:∀q,q<h4.nx->q<h1.nx->h7.H.get q=h10.H.get q:=λq hq1 hq2=>by rw[hg7 q hq2,au,amU (by omega)]
  have h75:h7.ab (h.nx+1)=some (dm k T n lv):=by rw[ay (e7 _ (by omega) (by omega))];exact g.l6
  have hst:kSt h7 1 (.ptr (h.nx+1) 35) lv'=some (.undef,h7.set (h.nx+1) (.cells (dm k T n lv'))):=ap1 iC h75 rfl;simp[Pt,ES,haf];refine fR k7 (by simp only[np]at hn7 ⊢; omega) ?_;refine fR hst (by simp) ?_;simp only[np]at hn7;simp(disch:=first|go_size|fail)[QA];refine⟨hr1,hr2,by omega,m,by omega,?_⟩;refine .mk y' lv' (acc++[(ll,bb==1)]) hx2 (by simp;omega) (by rw[<-hA];simp) (by rw[<-hE]) ⟨?_,?_,eD _ _ _ _ rfl,by simp;omega⟩ ?_ (by simp;omega)
  ·exact g.ob.app hid (by simp;omega) λq hq=>by rw[au,amU (by omega),e7 q (by omega) (by omega)]
  ·rw[ak _ _ _ _ (by omega),ay (e7 _ (by omega) (by omega))];exact g.r
  ·have e9:(cbC (acc++[(ll,bb==1)])).flatten=(cbC acc).flatten++[I ll,.bool (bb==1)]:=by simp[cbC]
   rw[e9,amX];exact ol7.du (by simp) λq hq _=>by rw[au,amU (by omega)]
theorem TZ(x:Sr):pl7 x=if rgV x 14 17=15 then(z7A (rgV x 14 17) (plT (rgV x 14 17) (nS x 4)) (nV (mU (rgV x 14 17) (nS x 4)) 6) (itV H9 qW (nV (nS (mU (rgV x 14 17) (nS x 4)) 6) 3).toNat (nS (nS (mU (rgV x 14 17) (nS x 4)) 6) 3)),itS qW (nV (nS (mU (rgV x 14 17) (nS x 4)) 6) 3).toNat (nS (nS (mU (rgV x 14 17) (nS x 4)) 6) 3))
 else(z7A (rgV x 14 17) (plT (rgV x 14 17) (nS x 4)) 0 [],mU (rgV x 14 17) (nS x 4)):=rfl
inductive PA7(h:AH)(id:Nat)(x:Sr)(k:Int)(t:List Int):List AV->AH->Prop
 |mk {h':AH} (T:AV):P7 h h' id x k T 0 .aa->x.Ok->T.one=true->(∀H,Frz H false T (.psl (rnC t)))->PA7 h id x k t [.ptr id 0,.ptr h.nx 0,.ptr (h.nx+1) 0] h'
theorem p_7{h h1:AH}{id:Nat}{x:Sr}(hid:id<h.nx)(hx:x.Ok)(g:P9 h h1 id x)(hn1:h1.nx=h.nx+1):GA (tb pE) (.ptr id 0) (.ptr h.nx 0) (I (rgV x 14 17)) (h1.set id (.cells (srC (nS x 4)))) (PLQ h id (pl7 x)):=by
 rw[TZ];have hx:=bn hx 4;have g:=g.rd hid (nS x 4);have hn1:(h1.set id (.cells (srC (nS x 4)))).nx=h.nx+1:=hn1;generalize h1.set id (.cells (srC (nS x 4)))=h2 at*;generalize nS x 4=x1 at*;generalize rgV x 14 17=k at*;have hfz:[I 0,I 0,I 0,I 0,I 0,I 0,I 0,I 0,I 0,I 0,I 0,I 0,.bool false,.bool false,I 0,.aa,I 0,I 0,I 0,I 0,I 0,.str [],I 0,.aa,.aa,.aa,I 0,I 0,.bool false,I 0,I 0,I 0,I 0,I 0,I 0,.aa,I 0]=zIn:=rfl;unfold GA;rw[hfz];have ES:bW [I 0,.aa,.aa,.aa,I 0,I 0,.bool false,I 0,I 0,I 0,I 0,I 0,I 0,.aa,I 0] [(0,1,I k)]=some (edC k .aa 0 .aa):=rfl;have EL:bW zIn [(0,1,I 8),(22,15,.agg (edC k .aa 0 .aa))]=some (dm k .aa 0 .aa):=rfl;have hl6:(dm k .aa 0 .aa).length=37:=rfl;have ho6:dj (dm k .aa 0 .aa)=true:=rfl;have hs6:fi zIn 0 (dm k .aa 0 .aa)=some (dm k .aa 0 .aa):=dG rfl;simp[ES,EL,hl6,ho6,hs6];rw[hn1];have g2:P7 h ((h2.add (.cells zIn)).set (h.nx+1) (.cells (dm k .aa 0 .aa))) id x1 k .aa 0 .aa:=by
  refine⟨g.ob.app hid (by simp) λi hi=>by rw[au,amU (by omega),az,amU (by omega)],?_,eD _ _ _ _ rfl,by simp;omega⟩;rw[ak _ _ _ _ (by omega),aC _ _ _ (by omega)];exact g.r
 generalize(h2.add (.cells zIn)).set (h.nx+1) (.cells (dm k .aa 0 .aa))=h3 at*;clear EL hs6 ho6 hl6 ES hn1 g;have g:=g2;clear g2;obtain⟨fl,hfl⟩:∃fl,fl=decide (k=15\/k=16):=⟨_,rfl⟩;refine⟨λvs h4=>vs=[.ptr id 0,.ptr h.nx 0,.ptr (h.nx+1) 0,.bool fl]/\h4=h3,?_,?_⟩
 ·have hk:=g.l6;have h22:(dm k .aa 0 .aa)[22]?=some (I k):=rfl;by_cases k15:k=15
  ·subst k15;rw[hfl];simp[AZ,hk,h22];simp[A1]
  ·by_cases k16:k=16
   ·subst k16;rw[hfl];simp[AZ,hk,h22];simp[A1]
   ·rw[hfl];simp[AZ,hk,h22,k15,k16];simp[A1,k15,k16]
 ·rintro vs h4 ⟨rfl,rfl⟩;simp[Pm];refine⟨PA7 h id (mU k x1) k (plT k x1),?_,?_⟩
  ·by_cases hk:k=15\/k=16
   ·have e1:plT k x1=vdV x1 5:=am1 hk;have e2:mU k x1=txS x1 5:=am1 hk;rw[e1,e2,hfl,anA hk];unfold pE;simp[IZ];refine Ye 5 g.ob.c (g.ob.lt hid) ⟨hx,by omega,by omega⟩ ?_;have g:=g.rd hid (txS x1 5);have hx:=GX hx 5;generalize h4.set id (.cells (srC (txS x1 5)))=h5 at*;generalize vdV x1 5=L at*;generalize txS x1 5=x2 at*;have hk6:=g.l6;have hsp:fi (dm k .aa 0 .aa) 23 [.psl (rnC L)]=some (dm k (.psl (rnC L)) 0 .aa):=rfl;simp[Pz,hk6,hsp];exact .mk _ (g.st hid _ _ _) hx rfl λH=>BQ _ H
   ·have e1:plT k x1=[]:=amU hk;have e2:mU k x1=x1:=amU hk;rw[e1,e2,hfl,anw hk];simp[IZ];exact .mk .aa g hx rfl λH=>ma rfl
  ·rintro vs h5 ⟨T,g,hx,hT,hf⟩;generalize mU k x1=x2 at*;generalize plT k x1=t at*;have hk:=g.l6;have h22:(dm k T 0 .aa)[22]?=some (I k):=rfl;by_cases k15:k=15
   ·rw[am1 k15];subst k15;have n1:=eG x2 6;have n2:=eu x2 (show(1:Int)<=6 by omega);have m1:=eG (nS x2 6) 3;have m2:=eu (nS x2 6) (show(1:Int)<=3 by omega);simp[FI,hk,h22];refine⟨PM7 h id _ 15 _ t _,?_,λvs h6 m=>L5 hid m⟩;unfold pE;simp[HL];refine gD 6 g.ob.c (g.ob.lt hid) ⟨hx,by omega⟩ ?_;have g:=g.rd hid (nS x2 6);have hx:=bn hx 6;generalize h5.set id (.cells (srC (nS x2 6)))=h6 at*;generalize nV x2 6=n at*;generalize nS x2 6=x3 at*;have hk6:=g.l6;have hsp:fi (dm 15 T 0 .aa) 34 [I n]=some (dm 15 T n .aa):=rfl;simp[P_,hk6,hsp];have g:=g.st hid T n .aa;generalize h6.set (h.nx+1) (.cells (dm 15 T n .aa))=h7 at*;refine gD 3 g.ob.c (g.ob.lt hid) ⟨hx,by omega⟩ ?_;have g:=g.rd hid (nS x3 3);have hx:=bn hx 3;generalize h7.set id (.cells (srC (nS x3 3)))=h8 at*;obtain⟨m0,hm0⟩:=anu m1;rw[hm0];have e0:((m0:Int)).toNat=m0:=by omega
    rw[e0];generalize nS x3 3=x4 at*;exact Ws hid hx g hT hf (by omega) λvs h9 m=>m
   ·rw[amU k15];simp[FI,hk,h22,k15];refine⟨PM7 h id x2 k 0 t [],?_,λvs h6 m=>L5 hid m⟩;simp[HL,k15];exact .mk h5 T .aa g hT hf g.nx (OL.start _ _ _)
theorem aij(x:Sr):-3<=rgV x (-3) 999/\rgV x (-3) 999<=999:=by
 have h1:=eG x 1003;have h2:=eu x (show(1:Int)<=1003 by omega);unfold rgV;rw[show(999:Int) - -3+1=1003 by omega];omega
theorem Zo{h:AH}{x:Option (AV×AH)}{v:AV}{c:Rec}{k:AV->Rec->AH->Prop}(hx:x=some (v,h))(hk:k v c h):wdp h x c k:=by
 subst hx;exact hk
theorem Wi(h:AH)(id:Nat)(x:Sr)(hc:h.ab id=some (srC x))(hid:id<h.nx)(hx:x.Ok):aK prog 9 [.ptr id 0] h (.agg (inC (plI x))) (h.set id (.cells (srC (plS x)))):=by
 refine bm (R:=PLQ h id (plI x,plS x)) hid (dR _) (C9 (aW pE) ?_) λv' h' h1=>h1
 have hR:(plI x,plS x)=plC (nV (nS x 1003) 8) (rgV x (-3) 999) (nS (nS x 1003) 8):=rfl;rw[hR];have hfz:[I 0,I 0,I 0,I 0,I 0,I 0,I 0,I 0,I 0,I 0,I 0,I 0,.bool false,.bool false,I 0,.aa,I 0,I 0,I 0,I 0,I 0,.str [],I 0,.aa,.aa,.aa,I 0,I 0,.bool false,I 0,I 0,I 0,I 0,I 0,I 0,.aa,I 0]=zIn:=rfl;have hpE:pE=[e8,e19,e20,e21,e22,e23]:=rfl;unfold g9;rw[hfz];clear hfz;simp[];have g:P9 h (h.add (.cells zIn)) id x:=⟨(Ob.start hc).new hid (by simp) λi hi=>by rw[az,amU (by omega)],bd _ _ _ rfl,by simp⟩;have hn1:(h.add (.cells zIn)).nx=h.nx+1:=by simp
 generalize h.add (.cells zIn)=h1 at*;have hnn:=aij x;rw[hpE];simp[];refine u4 (-3) 999 g.ob.c (g.ob.lt hid) ⟨hx,by omega⟩ ?_;rw[show(999:Int) - -3+1=1003 by omega];have g:=g.rd hid (nS x 1003);have hn1:(h1.set id (.cells (srC (nS x 1003)))).nx=h.nx+1:=hn1;have hx1:=bn hx 1003;generalize h1.set id (.cells (srC (nS x 1003)))=h2 at*;generalize rgV x (-3) 999=n at*;generalize nS x 1003=x1 at*;refine gD 8 g.ob.c (g.ob.lt hid) ⟨hx1,by omega⟩ ?_;have g:=g.rd hid (nS x1 8);have hn1:(h2.set id (.cells (srC (nS x1 8)))).nx=h.nx+1:=hn1;have hx2:=bn hx1 8;have m1:=eG x1 8;have m2:=eu x1 (show(1:Int)<=8 by omega);generalize h2.set id (.cells (srC (nS x1 8)))=h3 at*;generalize nV x1 8=c at*;generalize nS x1 8=x2 at*;unfold plC;by_cases c0:c=0
 ·subst c0;rw[am1 rfl];simp[];refine u4 1 6 g.ob.c (g.ob.lt hid) ⟨hx2,by omega⟩ ?_;rw[show(6:Int)-1+1=6 by omega,<-hpE];exact p_0 hid (by omega) hx2 g rfl
 rw[amU c0];by_cases c1:c=1
 ·subst c1;rw[am1 rfl];simp[];have g:=g.bump (k:=h3.nx+8) (by omega);refine aeX g.ob.c (g.ob.lt hid) hx2 ?_;refine⟨by simp,?_⟩;have g:=g.rd hid (chS x2);have hx3:=Q7 hx2;unfold pl1;have hlen:0<(chV x2).length:=by
   have:=eG x2 3;unfold chV;rw[mr];unfold rgV;rw[show(3:Int)-1+1=3 by omega];omega
  have hhd:(chC (chV x2))[0]?=some [I ((chV x2).headD (0,0)).1,I ((chV x2).headD (0,0)).2]:=by
   match hv:chV x2,hlen with
   |p::r,_=>rfl
  generalize(chV x2).headD (0,0)=kk at*;generalize chV x2=L at*;have hh:∃hh:AH,hh=(AH.mk h3.H (h3.nx+8)).set id (.cells (srC (chS x2))):=⟨_,rfl⟩;generalize(AH.mk h3.H (h3.nx+8)).set id (.cells (srC (chS x2)))=h4 at*;generalize chS x2=x3 at*;have hix:aF h4 2 (.psl (chC L)) (I 0)=some (.lz [I kk.1,I kk.2],h4):=da (i:=0) hhd rfl;simp[hix];simp[Ya];refine gD 99 g.ob.c (g.ob.lt hid) ⟨hx3,by omega⟩ ?_;refine⟨by simp,?_⟩;have g:=g.rd hid (nS x3 99);generalize h4.set id (.cells (srC (nS x3 99)))=h5 at*;generalize nV x3 99=tm at*;generalize nS x3 99=x4 at*;obtain⟨I1,hI1⟩:∃I1,I1=({Inp.z with kind:=2,key:=kk.1,mM:=kk.2,time:=tm}:Inp):=⟨_,rfl⟩;have hCS:(inG I1 .aa .aa .aa .aa .aa).length=37:=rfl;have hCo:dj (inG I1 .aa .aa .aa .aa .aa)=true:=rfl;have hst:=YJ g hCS hCo;have hfz:=pD (H:=fresh (h5.set h.nx (.cells (inG I1 .aa .aa .aa .aa .aa))) h.nx) (i:=I1) (by rw[hI1];rfl) (by rw[hI1];rfl) (by rw[hI1];rfl) (by rw[hI1];rfl) (by rw[hI1];rfl);have hce:(h5.set h.nx (.cells (inG I1 .aa .aa .aa .aa .aa))).ab h.nx=some (inG I1 .aa .aa .aa .aa .aa):=eD _ _ _ _ rfl;have fk:cut (inG I1 .aa .aa .aa .aa .aa) 0 37=some (inG I1 .aa .aa .aa .aa .aa):=by
   have:=aM (α:=inG I1 .aa .aa .aa .aa .aa) (b:=[]) (n:=37) rfl;rwa [am5]at this
  have ho9:Ob h (h5.set h.nx (.cells (inG I1 .aa .aa .aa .aa .aa))) id (srC x4):=g.ob.app hid (by simp) λi hi=>by rw[au,amU (by omega)]
  have hn9:h5.nx<=(h5.set h.nx (.cells (inG I1 .aa .aa .aa .aa .aa))).nx:=by simp
  refine Zo (v:=.agg (inG I1 .aa .aa .aa .aa .aa)) (by rw[hI1];rfl) ?_;refine fR hst hn9 ?_;generalize h5.set h.nx (.cells (inG I1 .aa .aa .aa .aa .aa))=h6 at*;rw[<-hI1];generalize inG I1 .aa .aa .aa .aa .aa=CS at*;simp[hce,fk];exact⟨re hfz,ho9⟩
 rw[amU c1];by_cases c2:c=2
 ·subst c2;rw[am1 rfl];simp[];exact vF hid g rfl rfl (pD (i:={Inp.z with kind:=3,time:=n}) rfl rfl rfl rfl rfl)
 rw[amU c2];by_cases c3:c=3
 ·subst c3;rw[am1 rfl];simp[];refine gD 99 g.ob.c (g.ob.lt hid) ⟨hx2,by omega⟩ ?_;have g:=g.rd hid (nS x2 99);generalize h3.set id (.cells (srC (nS x2 99)))=h4 at*;unfold pl3;generalize nV x2 99=a at*;generalize nS x2 99=x3 at*;unfold Yk;simp[];exact vF hid g rfl rfl (pD (i:={Inp.z with kind:=4,sw:=n,sh:=a}) rfl rfl rfl rfl rfl)
 rw[amU c3];by_cases c4:c=4
 ·subst c4;rw[am1 rfl];simp[sg];refine afs g.ob.c (g.ob.lt hid) hx2 ?_;have g:=g.rd hid (mdS x2);generalize h3.set id (.cells (srC (mdS x2)))=h4 at*;unfold pl4 mdV;generalize nV x2 2=a at*;generalize nV (nS x2 2) 2=b at*;generalize kA.getD (nV (nS (nS x2 2) 2) 5).toNat 0=s at*;generalize mdS x2=x3 at*;simp[];exact vF hid g rfl rfl (pD (i:={Inp.z with kind:=5,nP:=a==1,high:=b==1,scale:=s}) rfl rfl rfl rfl rfl)
 rw[amU c4];by_cases c5:c=5
 ·subst c5;rw[am1 rfl];simp[];rw[<-hpE];exact p_5 hid hx2 g hn1
 rw[amU c5];by_cases c6:c=6
 ·subst c6;rw[am1 rfl];simp[sg];refine gD 9 g.ob.c (g.ob.lt hid) ⟨hx2,by omega⟩ ?_;rw[<-hpE];exact p_6 hid hx2 g rfl
 rw[amU c6];simp[c0,c1,c2,c3,c4];simp[sg,c4,c5,c6];refine u4 14 17 g.ob.c (g.ob.lt hid) ⟨hx2,by omega⟩ ?_;rw[show(17:Int)-14+1=4 by omega,<-hpE];exact p_7 hid hx2 g hn1
def e9:QE prog:=QE.obj 9 (λ_ _=>True) srC (fun(_:Unit)=>[]) (fun(x:Sr)(y:Unit)=>match y with|_=>x.Ok) (fun(x:Sr)(y:Unit)=>match y with|_=>.agg (inC (plI x))) (fun(x:Sr)(y:Unit)=>match y with|_=>plS x) (λh id x y hj hc hid hx=>match y,hx with|_,hx=>Wi h id x hc hid hx)
theorem aho{tl h}{id:Nat}{x:Sr}{Q:QT}(hc:h.ab id=some (srC x))(hid:id<h.nx)(hx:x.Ok)(hq:Q (.agg (inC (plI x))) (h.set id (.cells (srC (plS x))))):tb (e9::tl) 9 (.ptr id 0::[]) h Q:=bF () trivial hc hid hx hq
@[simp ↓] theorem ali:TbT e9 9:=aH e9
