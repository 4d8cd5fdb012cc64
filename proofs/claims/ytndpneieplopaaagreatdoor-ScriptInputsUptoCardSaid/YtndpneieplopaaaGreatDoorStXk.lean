/- The program's line of an input, as a function. -/
import Derived.Test.YtndpneieplopaaaGreatDoorStUn
set_option linter.unusedSimpArgs false
set_option linter.unusedVariables false
noncomputable section
namespace Go.Proofs.YtndpneieplopaaaGreatDoor
open Go.Eng Go.St Go.RowKit Tryz
theorem jC(l:List Int)(h:∀n∈l,i64 n):(de l).length<=22*l.length:=by
 have h1:=Ke l h;have h2:=rN (l.map Lib.itoa);exact bf h2 h1
theorem l_3{h h1:AH}(i:Inp)(S:GJ h)(U:Fr h h1)(V:LB i):EK (I i.time) h1 (PRQ h (wl3 i)):=by
 have R:∀m∈[i.time],i64 m:=by simpa using V.tm
 unfold wl3;generalize i.time=n at*;have r:aQ [I 0] [(0,1,I n)]=some [I n]:=rfl;have W:=jC [n] R;have g:=U.add (.cells [I n]);have y:=S.fr g;unfold EK;simp[r];have G:=uB h1 n;generalize h1.add (.cells [I n])=h2 at*;refine sD (qc _ [n] y ⟨G,by simp,R⟩) ?_;have k1:=aU (h:=h2) (a:=[116,105,109,101,32]) (b:=de [n]) (by simp at W ⊢; omega);generalize de [n]=N at*;try simp only[cp,cD]at k1
 simp[k1];exact⟨rfl,g⟩
variable {A T CT CR C:AV}
theorem l_4{h h1:AH}(i:Inp)(U:GJ h)(g:BX h h1 (inG i A T CT CR C))(V:LB i):F8 (.ptr h.nx 0) (.ptr h.nx 10) h1 (PRQ h (wl4 i)):=by
 have S:=V.sz;unfold wl4;have i10:(inG i A T CT CR C)[10]?=some (I i.sw):=rfl;have i11:(inG i A T CT CR C)[11]?=some (I i.sh):=rfl;have W:=g.b;generalize inG i A T CT CR C=X at*;generalize i.sw=n at*;generalize i.sh=m at*;have y:aQ [I 0,I 0] [(0,1,I n),(1,1,I m)]=some [I n,I m]:=rfl;have hl:=jC [n,m] S;have r:=g.fr.add (.cells [I n,I m]);have G:=U.fr r;unfold F8;simp[W,i10,i11,y];have R:=QH h1 n m;generalize h1.add (.cells [I n,I m])=h2 at*;refine sD (qc _ [n,m] G ⟨R,by simp,S⟩) ?_;have k1:=aU (h:=h2) (a:=[115,105,122,101,32]) (b:=de [n,m]) (by simp at hl ⊢; omega);generalize de [n,m]=N at*;try simp only[cp,cD]at k1
 simp[k1,Uy];exact⟨rfl,r⟩
variable {kk:Nat}
theorem l_2{h h1:AH}(i:Inp)(hg:GJ h)(g:BX h h1 (inG i A T CT CR C))(hB:LB i)(hk:h1.E kk=some [I i.key,I i.cH])(y:kk<h1.nx):GM (.ptr h.nx 0) (.rsl kk 0 1 2) h1 (PRQ h (wl2 i)):=by
 have V:∀m∈[i.time],i64 m:=by simpa using hB.tm
 unfold wl2;have i9:(inG i A T CT CR C)[9]?=some (I i.time):=rfl;have hb:=g.b;generalize inG i A T CT CR C=X at*;generalize i.time=n at*;generalize i.key=k at*;generalize i.cH=m at*;have G:aQ [I 0] [(0,1,I n)]=some [I n]:=rfl;unfold GM;simp[];refine sD (B! kk k m ⟨hk,y⟩) ?_;have R:=wR k m;have k0:=aU (h:=h1) (a:=[107,101,121,32]) (b:=(chF k m).1) (by simp;omega);have k2:=aU (h:=h1) (a:=[107,101,121,32]++(chF k m).1) (b:=[32]) (by simp;omega);generalize chF k m=cf at*;obtain⟨W,e⟩:=cf;try simp only[cp,cD]at k0 k2 ⊢
 simp only at R;have r:=g.fr.add (.cells [I n]);have S:=hg.fr r;have hl:=jC [n] V;simp[Wm,k0,k2,hb,i9,G];have U:=uB h1 n;generalize h1.add (.cells [I n])=h2 at*;refine sD (qc _ [n] S ⟨U,by simp,V⟩) ?_;have k1:=aU (h:=h2) (a:=107::101::121::32::(W++[32])) (b:=de [n]) (by simp at hl ⊢; omega);generalize de [n]=N at*;try simp only[cp,cD,gr]at k1
 unfold UQ;simp[k1];exact⟨rfl,r⟩
theorem Mz(l:List Str)(i:Int)(h:∀w∈l,w.length<=100):(ll l i).length<=100:=by
 unfold ll;split
 ·rename_i hi;exact h _ (cQ (ik (by omega)))
 simp
theorem aft(h:AH)(k:Int):aG h .sub (I k) (I 1)=some (I (IntKind.i64.wrap (k-1)),h):=by simp[aG,eG,iq,jf]
theorem afH{k:Int}(h:i64 k):ll fx (IntKind.i64.wrap (k-1))=ll fx (k-1):=by
 unfold i64 at h;by_cases g:k = -9223372036854775808
 ·subst g;rfl
 rw[lW (by omega) (by omega)]
variable {h:AH}
theorem l_1(i:Inp)(hg:GJ h)(hB:LB i)(k1:i.kind=1):g28 (.agg (inG i A T CT CR C)) h (PRQ h (wl1 i)):=by
 have i0:(inG i A T CT CR C)[0]?=some (I 1):=by rw[<-k1];rfl
 have i1:(inG i A T CT CR C)[1]?=some (I i.pk):=rfl;have i2:(inG i A T CT CR C)[2]?=some (I i.pid):=rfl;have i3:(inG i A T CT CR C)[3]?=some (I i.px):=rfl;have i4:(inG i A T CT CR C)[4]?=some (I i.py):=rfl;have i5:(inG i A T CT CR C)[5]?=some (I i.pt):=rfl;have i6:(inG i A T CT CR C)[6]?=some (I i.pw):=rfl;have g:BX h (h.add (.cells (inG i A T CT CR C))) (inG i A T CT CR C):=⟨(Fr.refl h).add _,cas,by simp⟩;have ad:cL h (.agg (inG i A T CT CR C))=some (.ptr h.nx 0,h.add (.cells (inG i A T CT CR C))):=rfl;have hn:=hB.n1;have af:=hB.pk;unfold wl1;unfold g28;simp only[lp,iT];rw[ad];generalize h.add (.cells (inG i A T CT CR C))=h1 at*;generalize inG i A T CT CR C=X at*;generalize i.pk=k at*;generalize i.pid=n1 at*;generalize i.px=r at*;generalize i.py=y at*;generalize i.pt=G at*;generalize i.pw=R at*;have S:=g.b;have ar:=g.nx;simp[S,i0];refine sD (Pb trivial) ?_;have hw:=Mz fx (k-1) (by decide);have U:=λh=>aft h k
 have aj:=afH af;have g2:=g.bump (k:=h1.nx+27) (by omega);have al:aQ [I 0,I 0,I 0,I 0,I 0] [(0,1,I n1),(1,1,I r),(2,1,I y),(3,1,I G),(4,1,I R)]=some [I n1,I r,I y,I G,I R]:=rfl;have hl:=jC _ hn;simp[S,i1];unfold Tp;simp[U];refine sD (Ur fx (IntKind.i64.wrap (k-1)) (by decide)) ?_;rw[aj];generalize ll fx (k-1)=W at*;have ka:∀h:AH,aG h .add (.str [112,111,105,110,116,101,114,32]) (.str W)=some (.str ([112,111,105,110,116,101,114,32]++W),h):=λh=>aU (by simp;omega)
 have kb:∀h:AH,aG h .add (.str ([112,111,105,110,116,101,114,32]++W)) (.str [32])=some (.str (([112,111,105,110,116,101,114,32]++W)++[32]),h):=λh=>aU (by simp;omega)
 have V:∀h:AH,aG h .add (.str (([112,111,105,110,116,101,114,32]++W)++[32])) (.str (de [n1,r,y,G,R]))=some (.str ((([112,111,105,110,116,101,114,32]++W)++[32])++de [n1,r,y,G,R]),h):=λh=>aU (by simp at hl ⊢; omega)
 simp only[cp,cD]at ka kb V ⊢;simp[ka,kb,S,i2,S5,S,i3,i4,i5,Xf,S,i6,al];have g3:=g2.set (k:=h1.nx+23) (by omega) (.cells [I n1,I r,I y,I G,I R]);have an:((AH.mk h1.H (h1.nx+27)).set (h1.nx+23) (.cells [I n1,I r,I y,I G,I R])).E (h1.nx+23)=some [I n1,I r,I y,I G,I R]:=cse;have ao:h1.nx+23<((AH.mk h1.H (h1.nx+27)).set (h1.nx+23) (.cells [I n1,I r,I y,I G,I R])).nx:=by show _<h1.nx+27;omega
 have av:((AH.mk h1.H (h1.nx+27)).set (h1.nx+23) (.cells [I n1,I r,I y,I G,I R])).nx=h1.nx+27:=rfl;generalize(AH.mk h1.H (h1.nx+27)).set (h1.nx+23) (.cells [I n1,I r,I y,I G,I R])=h3 at*;refine sD (qc _ [n1,r,y,G,R] (hg.fr g3.fr) ⟨⟨h1.nx+23,rfl,an,ao⟩,by simp,hn⟩) ?_;generalize de [n1,r,y,G,R]=N at*;try simp only[gr,cp,cD]at V
 simp[V];exact⟨by omega,by omega,rfl,g3.fr⟩
theorem l_5(i:Inp)(hg:GJ h)(hB:LB i)(k1:i.kind=5):g28 (.agg (inG i A T CT CR C)) h (PRQ h (wl5 i)):=by
 have i0:(inG i A T CT CR C)[0]?=some (I 5):=by rw[<-k1];rfl
 have i12:(inG i A T CT CR C)[12]?=some (.bool i.dv):=rfl;have i13:(inG i A T CT CR C)[13]?=some (.bool i.high):=rfl;have i14:(inG i A T CT CR C)[14]?=some (I i.scale):=rfl;have g:BX h (h.add (.cells (inG i A T CT CR C))) (inG i A T CT CR C):=⟨(Fr.refl h).add _,cas,by simp⟩;have G:cL h (.agg (inG i A T CT CR C))=some (.ptr h.nx 0,h.add (.cells (inG i A T CT CR C))):=rfl;have hn:∀m∈[i.scale],i64 m:=by simpa using hB.sc
 unfold wl5;unfold g28;simp only[lp,iT];rw[G];generalize h.add (.cells (inG i A T CT CR C))=h1 at*;generalize inG i A T CT CR C=X at*;generalize i.scale=n at*;generalize i.dv=y at*;generalize i.high=hi at*;have r:=g.b;have ad:=g.nx;simp[r,i0];have g2:=g.bump (k:=h1.nx+19) (by omega);have R:aQ [I 0] [(0,1,I n)]=some [I n]:=rfl;have hl:=jC _ hn;simp[pf,r,i12];have lD:(if y=true then iy else kl).length<=100:=by split<;>decide
 have lH:(if hi=true then gU else jB).length<=100:=by split<;>decide
 refine sD (Nz y kl iy trivial) ?_;generalize(if y=true then iy else kl)=W at*;have ka:∀h:AH,aG h .add (.str [109,111,100,101,32]) (.str W)=some (.str ([109,111,100,101,32]++W),h):=λh=>aU (by simp;omega)
 have kb:∀h:AH,aG h .add (.str ([109,111,100,101,32]++W)) (.str [32])=some (.str (([109,111,100,101,32]++W)++[32]),h):=λh=>aU (by simp;omega)
 simp only[cp,cD]at ka kb ⊢;simp[ka,kb,Qq,r,i13];refine sD (Nz hi jB gU trivial) ?_;generalize(if hi=true then gU else jB)=V at*;have kc:∀h:AH,aG h .add (.str (([109,111,100,101,32]++W)++[32])) (.str V)=some (.str ((([109,111,100,101,32]++W)++[32])++V),h):=λh=>aU (by simp;omega)
 have kd:∀h:AH,aG h .add (.str ((([109,111,100,101,32]++W)++[32])++V)) (.str [32])=some (.str (((([109,111,100,101,32]++W)++[32])++V)++[32]),h):=λh=>aU (by simp;omega)
 have ke:∀h:AH,aG h .add (.str (((([109,111,100,101,32]++W)++[32])++V)++[32])) (.str (de [n]))=some (.str ((((([109,111,100,101,32]++W)++[32])++V)++[32])++de [n]),h):=λh=>aU (by simp at hl ⊢; omega)
 simp only[cp,cD,gr]at kc kd ke ⊢;simp[kc,kd,r,i14,R];have g3:=g2.set (k:=h1.nx+15) (by omega) (.cells [I n]);have S:((AH.mk h1.H (h1.nx+19)).set (h1.nx+15) (.cells [I n])).E (h1.nx+15)=some [I n]:=cse;have U:h1.nx+15<((AH.mk h1.H (h1.nx+19)).set (h1.nx+15) (.cells [I n])).nx:=by show _<h1.nx+19;omega
 have af:((AH.mk h1.H (h1.nx+19)).set (h1.nx+15) (.cells [I n])).nx=h1.nx+19:=rfl;unfold SA;generalize(AH.mk h1.H (h1.nx+19)).set (h1.nx+15) (.cells [I n])=h3 at*;simp[];refine sD (qc _ [n] (hg.fr g3.fr) ⟨⟨h1.nx+15,rfl,S,U⟩,by simp,hn⟩) ?_;generalize de [n]=N at*;simp[ke];exact⟨by omega,rfl,g3.fr⟩
inductive QL6(h h1:AH)(A:AV)(L:List Val):Nat->List AV->AH->Prop
 |mk {m:Nat} {h':AH} (i:Nat) (lv:AV):i+m=L.length->Fr h1 h'->OL 1 h1 h' lv (i+1) ((cK::aR (L.take i)).map λs=>.str s)->QL6 h h1 A L m [lv,A,I L.length,I i] h'
variable {h1:AH}
theorem l_6(i:Inp)(hg:GJ h)(g:BX h h1 (inG i A T CT CR C))(hA:Sl (vCs i.args) A)(hB:LB i):pf (.ptr h.nx 0) (.str []) (I 6) (.bool false) h1 (PRQ h (wl6 i)):=by
 have i15:(inG i A T CT CR C)[15]?=some A:=rfl;have a8:=hB.al;have ad:=hB.aw;have ba:=hB.aj;have R:=g.fr;have hb:=g.b;unfold wl6;generalize inG i A T CT CR C=X at*;generalize i.args=L at*;have l1:∀h:AH,bn h A=some (I L.length,h):=λh=>by rw[fS hA,gP]
 have G:aQ [AV.str []] [(0,1,.str [97,114,103,115])]=some [.str cK]:=rfl;have S:=hg.fr R;have o0:OL 1 h1 (h1.add (.cells [.str cK])) (.rsl h1.nx 0 1 1) 1 [.str cK]:=.inr ⟨h1.nx,rfl,by omega,by omega,by simp,cas,rfl⟩;have af:=(Fr.refl h1).add (.cells [.str cK]);have an:(h1.add (.cells [.str cK])).E h.nx=some X:=by rw[can (by have:=g.nx;omega)];exact hb
 unfold pf;simp[G,an,i15,l1];generalize h1.add (.cells [.str cK])=h2 at*;refine⟨QL6 h h1 A L,L.length,.mk 0 _ (by omega) af o0,?_⟩;rintro m vs N ⟨i,lv,bb,r,o⟩;have bd:=S.fr r;cases m with
 |zero=>
  obtain rfl:i=L.length:=by omega
  rw[oM]at o;have ao:=zd o (by simp[v_]);have a7:=v_ L;simp[Gc,WU];unfold EV;simp[];refine sD (AR lv (cK::aR L) ⟨ao,by omega,by simp;omega⟩) ?_;exact⟨rfl,R.trans r⟩
 |succ m=>
  have hi:i<L.length:=by omega
  have ar:(i:Int)<L.length:=by omega
  have i1:∀h:AH,aC h 4 A (I i)=some (.ai (vC L[i]),h):=λh=>fW hA (mC hi) (ch _)
  have hw:=ad _ (gG hi);have av:aR (L.take (i+1))=aR (L.take i)++[cI L[i]]:=by rw[rp,bF hi,zL,Lb];rfl
  have V:cut (vC L[i]) 0 4=some (vC L[i]):=by
   have:=cS (α:=vC L[i]) (b:=[]) (n:=4) (ch _);rwa [bO]at this
  generalize L[i]=v at*;have U:=ch v;have aS:=jd v;have W:aP [I 0,I 0,.str [],.D] 0 (vC v)=some (vC v):=iH U.symm;simp[Gc,ar,i1,V,U,aS,W];have y:Fr h1 ((N.add (.cells [I 0,I 0,.str [],.D])).set N.nx (.cells (vC v))):=(r.add _).set (by have:=r.nx;omega) _;have o3:OL 1 h1 ((N.add (.cells [I 0,I 0,.str [],.D])).set N.nx (.cells (vC v))) lv (i+1) ((cK::aR (L.take i)).map λs=>.str s):=o.aY (by simp) λj _ hj=>by rw[gsn,gan]
  generalize(N.add (.cells [I 0,I 0,.str [],.D])).set N.nx (.cells (vC v))=h3 at*;have aT:=S.fr y;refine sD (aaj v aT hw) ?_;have G:aQ [AV.str []] [(0,1,.str (cI v))]=some [.str (cI v)]:=rfl;obtain⟨a1,h4,kk,o4,bk,a6⟩:=kt (bytes:=16) (tc:=[.str (cI v)]) o3 y.nx rfl rfl (by omega) (by omega);simp[Pq,G];rw[kk];simp(disch:=first|go_size|fail)[];refine⟨m,by omega,.mk (i+1) a1 (show i+1+m=L.length by omega) ⟨by have:=y.nx;omega,λj hj=>by rw[a6 j hj];exact y.get j hj⟩ ?_⟩;rw[av,<-cp,mr];exact o4
theorem XO(S:Str)(h:S.length<=400000000):(wQ S).length<=900000000:=by
 have:=pa S;have:=n8 S;simp only[wQ,aF,au,bz];omega
theorem aa1(i:Inp)(h:WB8 i):(kG i).length<=2000000000:=by
 have G:=XO (bD i.t) h.t;have g:∀n∈i.dE::i.cls.map dZ,i64 n:=λn g=>by
  rcases cE.1 g with rfl|g
  ·exact h.ct
  obtain⟨p,hp,rfl⟩:=eK.1 g;exact J0 (h.cl p hp)
 have r:=jC _ g;have y:=h.nc;simp only[aF,kK]at r;unfold kG
 (repeat' split)
 ·decide
 ·decide
 ·simp only[au,aF,bz];omega
 simp only[au,aF,bz];omega
theorem l_8{h h1:AH}(i:Inp)(N:GJ h)(g:BX h h1 (inG i A T CT CR C))(R:Sl (rnC i.t) T)(S:Sl (cbC i.cls) C)(y:LB i):pf (.ptr h.nx 0) (.str []) (I 8) (.bool false) h1 (PRQ h (wl8 i)):=by
 have U:cut (inG i A T CT CR C) 22 15=some (txG i T CT CR C):=rfl;have V:=g.b;have r:=N.fr g.fr;have ad:=aa1 i y.b8;generalize inG i A T CT CR C=X at*;unfold pf;simp[V,U];refine sD (q' i r ⟨R,S,y.b8⟩) ?_;unfold wl8;have G:=aU (h:=h1) (a:=[99,111,109,112,111,115,101,32]) (b:=kG i) (by simp;omega);generalize kG i=W at*;simp only[cp,cD]at G ⊢;simp[G];exact⟨rfl,g.fr⟩
def atF(g:Int):Nat->Int
 |0=> -1
 |k+1=>if g=2^k then k else atF g k
theorem N5(g:Int):∀k,k<=9->ll dY (atF g k)=jv g k
 |0,_=>rfl
 |k+1,r=>by
  unfold atF jv;split
  ·exact Ed (l:=dY) (k:=(k:Int)) ⟨by omega,by show _<9;omega⟩
  exact N5 g k (by omega)
variable {q:Nat}
theorem adp(h:AH)(g:q<9):aG h .shl (I 1) (I q)=some (I (2^q),h):=by
 match q,g with
 |0,_=>rfl
 |1,_=>rfl
 |2,_=>rfl
 |3,_=>rfl
 |4,_=>rfl
 |5,_=>rfl
 |6,_=>rfl
 |7,_=>rfl
 |8,_=>rfl
inductive QL7(h:AH)(X Y:List AV)(k:Nat)(act:Int):Nat->List AV->AH->Prop
 |mk {m:Nat} {h':AH} (i:Nat):i+m=9->BR h h' X Y k->QL7 h X Y k act m [.ptr k 0,I (atF act i),I 9,I i] h'
theorem l_7{h h1:AH}(i:Inp)(hg:GJ h)(g:BX h h1 (inG i A T CT CR C))(hB:LB i):pf (.ptr h.nx 0) (.str []) (I 7) (.bool false) h1 (PRQ h (wl7 i)):=by
 have ic:cut (inG i A T CT CR C) 16 6=some [I i.ver,I i.node,I i.act,I i.frm,I i.too,.str i.rt]:=rfl;have aw:=hB.rt;have W:=hB.ac;have ad:=hB.ft;have hb:=g.b;unfold wl7;generalize inG i A T CT CR C=X at*;generalize i.ver=n1 at*;generalize i.node=y at*;generalize i.act=act at*;generalize i.frm=G at*;generalize i.too=N at*;generalize i.rt=rt at*;simp[pf,hb,ic];refine sD (BL trivial) ?_;have hlen:∀h:AH,bn h (cV dY)=some (I 9,h):=λh=>ag rfl rfl
 simp[hlen];have g7:BR h ((h1.add (.cells [I 0,I 0,I 0,I 0,I 0,.str []])).set h1.nx (.cells [I n1,I y,I act,I G,I N,.str rt])) X [I n1,I y,I act,I G,I N,.str rt] h1.nx:=
  ⟨(g.add _).set g.nx _,cse,g.nx,by simp⟩
 generalize(h1.add (.cells [I 0,I 0,I 0,I 0,I 0,.str []])).set h1.nx (.cells [I n1,I y,I act,I G,I N,.str rt])=h2 at*;generalize h1.nx=k at*;unfold SC;refine⟨QL7 h X [I n1,I y,I act,I G,I N,.str rt] k act,9,.mk 0 rfl g7,?_⟩;clear g7 g hb ic;rintro m vs r ⟨i,ba,g⟩;have hc:=g.c;cases m with
 |succ m=>
  have aS:(i:Int)<9:=by omega
  simp[E2,aS];refine⟨λvs V=>vs=[.ptr k 0,I (atF act (i+1)),I 9,I i]/\V=⟨r.H,r.nx+5⟩,?_,?_⟩
  ·have af:=λh=>adp h (q:=i) (by omega)
   have hF:atF act (i+1)=if act=2^i then(i:Int)else atF act i:=rfl
   by_cases he:act=2^i
   ·rw[Z he]at hF;rw[hF];simp[Fm,hc,af,he]
   rw[O he]at hF;rw[hF];simp[Fm,hc,af,he]
  rintro vs V ⟨rfl,rfl⟩;simp(disch:=first|go_size|fail)[S2];exact⟨m,by omega,.mk (i+1) (show i+1+m=9 by omega) (g.bump (by omega))⟩
 |zero=>
  obtain rfl:i=9:=by omega
  simp(disch:=first|go_size|fail)[E2];unfold Vf;have aT:=N5 act 9 (by omega);have bb:=uo act 9;generalize jv act 9=bp at*;generalize atF act 9=at9 at*;have l1:=jC _ W;have l2:=jC _ ad;have lq:=XO rt aw;have al:aQ [I 0,I 0] [(0,1,I n1),(1,1,I y)]=some [I n1,I y]:=rfl;have an:aQ [I 0,I 0] [(0,1,I G),(1,1,I N)]=some [I G,I N]:=rfl;have bd:=g.k1;have bk:=g.k2;obtain⟨R,U⟩:∃R:Str,R=[97,99,99,101,115,115,32]:=⟨_,rfl⟩;have a7:R.length=7:=by rw[U];rfl
  unfold Hf;rw[<-U];have a1:=g.bump (m:=r.nx+26) (by omega);simp[hc,al];have g1:=a1.set (q:=r.nx+4) (by omega) (by omega) (.cells [I n1,I y]);have ao:((AH.mk r.H (r.nx+26)).set (r.nx+4) (.cells [I n1,I y])).E (r.nx+4)=some [I n1,I y]:=cse;have ar:((AH.mk r.H (r.nx+26)).set (r.nx+4) (.cells [I n1,I y])).nx=r.nx+26:=rfl;generalize(AH.mk r.H (r.nx+26)).set (r.nx+4) (.cells [I n1,I y])=V at*;refine sD (qc _ [n1,y] (hg.fr g1.bx.fr) ⟨⟨r.nx+4,rfl,ao,by omega⟩,by simp,W⟩) ?_;generalize de [n1,y]=S at*;simp only[aF,bz]at l1 l2;have ka:=λh=>aU (h:=h) (a:=R) (b:=S) (by omega)
  have kb:=λh=>aU (h:=h) (a:=R++S) (b:=[32]) (by simp;omega)
  have aj:=g1.c;simp[ka,kb];refine⟨by omega,?_⟩;unfold O9;simp[];refine sD (BL trivial) ?_;simp[];refine sD (Ur dY at9 (by decide)) ?_;rw[aT];have kc:=λh=>aU (h:=h) (a:=(R++S)++[32]) (b:=bp) (by simp;omega)
  have kd:=λh=>aU (h:=h) (a:=((R++S)++[32])++bp) (b:=[32]) (by simp;omega)
  simp only[gr,cp,cD]at kc kd;simp[kc,kd,aj,Q4,aj,an];have g2:=g1.set (q:=r.nx+17) (by omega) (by omega) (.cells [I G,I N]);have av:(V.set (r.nx+17) (.cells [I G,I N])).E (r.nx+17)=some [I G,I N]:=cse;have a8:(V.set (r.nx+17) (.cells [I G,I N])).nx=r.nx+26:=ar;generalize V.set (r.nx+17) (.cells [I G,I N])=h5 at*;refine sD (qc _ [G,N] (hg.fr g2.bx.fr) ⟨⟨r.nx+17,rfl,av,by omega⟩,by simp,ad⟩) ?_;generalize de [G,N]=N2 at*;have ke:=λh=>aU (h:=h) (a:=(((R++S)++[32])++bp)++[32]) (b:=N2) (by simp;omega)
  have kf:=λh=>aU (h:=h) (a:=((((R++S)++[32])++bp)++[32])++N2) (b:=[32]) (by simp;omega)
  have kg:=λh=>aU (h:=h) (a:=(((((R++S)++[32])++bp)++[32])++N2)++[32]) (b:=wQ rt) (by simp;omega)
  have a6:=g2.c;simp only[gr,cp,cD]at ke kf kg;simp[ke,kf,a6];refine⟨by omega,?_⟩;refine sD (Az rt (by omega)) ?_;simp[P0,kg];refine⟨by omega,by omega,by omega,by omega,?_⟩;exact⟨by rw[U];rfl,g2.bx.fr⟩
theorem aa9(i:Inp)(cs:LA)(r:GJ h)(hx:InC i cs/\LB i):ab prog 28 [.agg cs] h (.str (bB i)) h:=by
 obtain⟨⟨A,T,CT,CR,C,rfl,hA,hT,aj,al,hC⟩,y⟩:=hx;refine dj (λ_=>.str _) (C28 ?_);show g28 (.agg (inG i A T CT CR C)) h (PRQ h (bB i))
 have i0:(inG i A T CT CR C)[0]?=some (I i.kind):=rfl;have i9:(inG i A T CT CR C)[9]?=some (I i.time):=rfl;have ic:cut (inG i A T CT CR C) 7 2=some [I i.key,I i.cH]:=rfl;have g:BX h (h.add (.cells (inG i A T CT CR C))) (inG i A T CT CR C):=⟨(Fr.refl h).add _,cas,by simp⟩;have ad:cL h (.agg (inG i A T CT CR C))=some (.ptr h.nx 0,h.add (.cells (inG i A T CT CR C))):=rfl;unfold bB;by_cases k1:i.kind=1
 ·rw[Z k1];exact l_1 i r y k1
 rw[O k1];by_cases R:i.kind=5
 ·rw[ifn,ifn,ifn,Z R];exact l_5 i r y R
 unfold g28;simp only[lp,iT];rw[ad];generalize h.add (.cells (inG i A T CT CR C))=h1 at*;have G:=g.b;generalize N:inG i A T CT CR C=X at*;have af:aQ [I 0,I 0] [(0,2,.agg [I i.key,I i.cH])]=some [I i.key,I i.cH]:=rfl;by_cases k2:i.kind=2
 ·rw[Z k2];rw[k2]at i0;simp[G,i0,ic,af];subst N;exact l_2 i r (g.add _) y cas (by simp)
 rw[O k2];by_cases S:i.kind=3
 ·rw[Z S];rw[S]at i0;simp[G,i0,i9];exact l_3 i r g.fr y
 rw[O S];by_cases k4:i.kind=4
 ·rw[Z k4];rw[k4]at i0;simp[G,i0];subst N;exact l_4 i r g y
 rw[O k4,O R];by_cases U:i.kind=6
 ·rw[Z U];rw[U]at i0;simp[G,i0];subst N;exact l_6 i r g hA y
 rw[O U];by_cases V:i.kind=7
 ·rw[Z V];rw[V]at i0;simp[G,i0];subst N;exact l_7 i r g y
 rw[O V];by_cases W:i.kind=8
 ·rw[Z W];rw[W]at i0;simp[G,i0];subst N;exact l_8 i r g hT hC y
 rw[O W];simp[G,i0,k1,k2,S,k4,pf,R,U,V,W];exact⟨rfl,g.fr⟩
inductive Y7(h:AH)(A B:AV)(L M:List Int):Nat->List AV->AH->Prop
 |mk {m:Nat} {h':AH} (i:Nat):i+m=L.length->L.take i=M.take i->Fr h h'->Y7 h A B L M m [A,B,I L.length,I i] h'
theorem agF(A B:AV)(L M:List Int)(V:Sl (rnC L) A/\Sl (rnC M) B/\L.length<=1000000000):ab prog 107 [A,B] h (.bool (dq L M)) h:=by
 obtain⟨N,R,hL⟩:=V;refine dj (λ_=>.bool _) (ah2 ?_);have S:∀h:AH,bn h A=some (I L.length,h):=λh=>by rw[fS N];simp[rnC]
 have U:∀h:AH,bn h B=some (I M.length,h):=λh=>by rw[fS R];simp[rnC]
 by_cases W:L.length=M.length
 ·have g:(L.length:Int)=M.length:=by omega
  simp[I8,S,U,g];rw[<-g];refine⟨Y7 h A B L M,L.length,.mk 0 (by simp) rfl (Fr.refl h),?_⟩;rintro m vs h' ⟨i,ad,G,fr⟩;cases m with
  |zero=>
   have r:¬(i:Int)<L.length:=by omega
   simp[A7,r,Cp,CY];have:L=M:=by
    rw[dH (by omega),dH (by omega)]at G;exact G
   exact⟨fa this,fr⟩
  |succ m=>
   have h1:i<L.length:=by omega
   have h2:i<M.length:=by omega
   have r:(i:Int)<L.length:=by omega
   have i1:∀h:AH,aC h 1 A (I i)=some (.ai [az L[i]],h):=λh=>fW N (by simp[rnC,h1]) rfl
   have i2:∀h:AH,aC h 1 B (I i)=some (.ai [az M[i]],h):=λh=>fW R (by simp[rnC,h2]) rfl
   have y:=fr.bump (k:=h'.nx+9) (by omega);by_cases he:L[i]=M[i]
   ·simp(disch:=first|go_size|fail)[A7,r,i1,DQ,i2,az,he];refine⟨m,by omega,?_⟩;exact .mk (i+1) (show i+1+m=L.length by omega) (nG G h1 h2 he) y
   simp[A7,r,i1,DQ,i2,az,he,Cp];refine⟨dV λe=>he ?_,y⟩;simp only[e]
 have g:¬(L.length:Int)=M.length:=by omega
 simp[I8,S,U,g];exact⟨dV λe=>W (by rw[e]),Fr.refl h⟩
inductive Yy(h:AH)(A B:AV)(L M:List (Int×Bool)):Nat->List AV->AH->Prop
 |mk {m:Nat} {h':AH} (i:Nat):i+m=L.length->L.take i=M.take i->Fr h h'->Yy h A B L M m [A,B,I L.length,I i] h'
theorem agA(A B:AV)(L M:List (Int×Bool))(W:Sl (cbC L) A/\Sl (cbC M) B/\L.length<=2000000000):ab prog 109 [A,B] h (.bool (dq L M)) h:=by
 obtain⟨R,S,hL⟩:=W;refine dj (λ_=>.bool _) (ahM ?_);have U:∀h:AH,bn h A=some (I L.length,h):=λh=>by rw[fS R];simp[cbC]
 have V:∀h:AH,bn h B=some (I M.length,h):=λh=>by rw[fS S];simp[cbC]
 by_cases hl:L.length=M.length
 ·have g:(L.length:Int)=M.length:=by omega
  simp[Jo,U,V,g];rw[<-g];refine⟨Yy h A B L M,L.length,.mk 0 (by simp) rfl (Fr.refl h),?_⟩;rintro m vs h' ⟨i,ad,G,fr⟩;cases m with
  |zero=>
   have r:¬(i:Int)<L.length:=by omega
   simp[A5,r,CH,DB];have:L=M:=by
    rw[dH (by omega),dH (by omega)]at G;exact G
   exact⟨fa this,fr⟩
  |succ m=>
   have h1:i<L.length:=by omega
   have h2:i<M.length:=by omega
   have r:(i:Int)<L.length:=by omega
   have i1:∀h:AH,aC h 2 A (I i)=some (.ai [I L[i].1,.bool L[i].2],h):=λh=>fW R (by simp[cbC,h1]) rfl
   have i2:∀h:AH,aC h 2 B (I i)=some (.ai [I M[i].1,.bool M[i].2],h):=λh=>fW S (by simp[cbC,h2]) rfl
   have y:=fr.bump (k:=h'.nx+9) (by omega);have heq:bo [.int .i64,.bool] [I L[i].1,.bool L[i].2] [I M[i].1,.bool M[i].2]=some (L[i].1==M[i].1&&L[i].2==M[i].2):=by simp[bo,fm]
   by_cases he:L[i]=M[i]
   ·have N:(L[i].1==M[i].1&&L[i].2==M[i].2)=true:=by rw[he];simp
    rw[N]at heq;simp(disch:=first|go_size|fail)[A5,r,i1,Db,i2,heq];refine⟨m,by omega,?_⟩;exact .mk (i+1) (show i+1+m=L.length by omega) (nG G h1 h2 he) y
   have N:(L[i].1==M[i].1&&L[i].2==M[i].2)=false:=by
    rw[vG];intro e;simp only[aI,fR]at e;exact he (Prod.ext e.1 e.2)
   rw[N]at heq;simp[A5,r,i1,Db,i2,heq,CH];refine⟨dV λe=>he ?_,y⟩;simp only[e]
 have g:¬(L.length:Int)=M.length:=by omega
 simp[Jo,U,V,g];exact⟨dV λe=>hl (by rw[e]),Fr.refl h⟩
inductive YW(h:AH)(T A U B:AV)(t u:List Int):Nat->List AV->AH->Prop
 |mk {m:Nat} {h':AH} (i:Nat):i+m=t.length->t.take i=u.take i->Fr h h'->h'.E h.nx=some [T,A]->h'.E (h.nx+1)=some [U,B]->h.nx+2<=h'.nx->YW h T A U B t u m [.ptr h.nx 0,.ptr (h.nx+1) 0,T,I t.length,I i] h'
inductive Yc(h:AH)(A U B:AV)(L N:List (Int×Int)):Nat->List AV->AH->Prop
 |mk {m:Nat} {h':AH} (i:Nat):i+m=L.length->L.take i=N.take i->Fr h h'->h'.E (h.nx+1)=some [U,B]->h.nx+2<=h'.nx->Yc h A U B L N m [.ptr (h.nx+1) 0,A,I L.length,I i] h'
theorem acr(T A U B:AV)(t:List Int)(L:List (Int×Int))(u:List Int)(N:List (Int×Int))(hx:Sl (rnC t) T/\Sl (chC L) A/\Sl (rnC u) U/\Sl (chC N) B/\t.length<=1000000000/\L.length<=1000000000):ab prog 108 [.agg [T,A],.agg [U,B]] h (.bool (dq t u&&dq L N)) h:=by
 obtain⟨hT,hA,hU,hB,ht,hL⟩:=hx;refine dj (λ_=>.bool _) (ah5 ?_);have oT:=dJ hT;have oA:=dJ hA;have oU:=dJ hU;have oB:=dJ hB;have b1:cL h (.agg [T,A])=some (.ptr h.nx 0,h.add (.cells [T,A])):=by simp[cL]
 have b2:∀h:AH,cL h (.agg [U,B])=some (.ptr h.nx 0,h.add (.cells [U,B])):=λh=>by simp[cL]
 simp[YH,b1,b2];have fr:Fr h ((h.add (.cells [T,A])).add (.cells [U,B])):=((Fr.refl h).add _).add _;have c1:((h.add (.cells [T,A])).add (.cells [U,B])).E h.nx=some [T,A]:=by rw[can];exact cas
 have c2:((h.add (.cells [T,A])).add (.cells [U,B])).E (h.nx+1)=some [U,B]:=cas;have R:h.nx+2<=((h.add (.cells [T,A])).add (.cells [U,B])).nx:=by simp
 generalize(h.add (.cells [T,A])).add (.cells [U,B])=h1 at*;have l0:∀h:AH,bn h T=some (I t.length,h):=λh=>by rw[fS hT];simp[rnC]
 have V:∀h:AH,bn h U=some (I u.length,h):=λh=>by rw[fS hU];simp[rnC]
 have l1:∀h:AH,bn h A=some (I L.length,h):=λh=>by rw[fS hA];simp[chC]
 have l2:∀h:AH,bn h B=some (I N.length,h):=λh=>by rw[fS hB];simp[chC]
 refine⟨λvs h2=>vs=[.ptr h.nx 0,.ptr (h.nx+1) 0,.bool (decide (t.length≠u.length)||decide (L.length≠N.length))]/\h2=h1,?_,?_⟩
 ·by_cases ht:t.length=u.length
  ·have G:(t.length:Int)=u.length:=by omega
   by_cases hl:L.length=N.length
   ·have W:(L.length:Int)=N.length:=by omega
    simp[BF,c1,c2,l0,V,G,Bb,c1,c2,l1,l2,ht,hl]
   have W:¬(L.length:Int)=N.length:=by omega
   simp[BF,c1,c2,l0,V,G,Bb,c1,c2,l1,l2,W,ht,hl]
  have G:¬(t.length:Int)=u.length:=by omega
  simp[BF,c1,c2,l0,V,G,Bb,ht]
 rintro vs h2 ⟨rfl,rfl⟩;by_cases S:t.length=u.length/\L.length=N.length
 rotate_left
 ·have:(decide (t.length≠u.length)||decide (L.length≠N.length))=true:=by
   simp only[iY,ck];by_cases h1:t.length=u.length
   ·exact .inr λh2=>S ⟨h1,h2⟩
   exact .inl h1
  rw[this];simp[Dp];refine⟨?_,fr⟩;by_cases h1:t=u
  ·rw[dV (a:=L) λe=>S ⟨by rw[h1],by rw[e]⟩];simp
  rw[dV h1];simp
 obtain⟨af,aj⟩:=S;have:(decide (t.length≠u.length)||decide (L.length≠N.length))=false:=by simp[af,aj]
 rw[this];simp[Dp,c1,l0];refine⟨YW h T A U B t u,t.length,.mk 0 (by simp) rfl fr c1 c2 R,?_⟩;clear this fr c1 c2 R;rintro m vs y ⟨i,al,r,fr,c1,c2,R⟩;cases m with
 |zero=>
  have g:¬(i:Int)<t.length:=by omega
  have an:t=u:=by
   rw[dH (by omega),dH (by omega)]at r;exact r
  simp[Be,g,Co,Ee,c1,l1];refine⟨Yc h A U B L N,L.length,.mk 0 (by simp) rfl fr c2 R,?_⟩;clear fr c1 c2 R;rintro m vs y ⟨i,al,r,fr,c2,R⟩;cases m with
  |zero=>
   have g:¬(i:Int)<L.length:=by omega
   have ao:L=N:=by
    rw[dH (by omega),dH (by omega)]at r;exact r
   simp[B7,g,Dw,DI];exact⟨by rw[fa an,fa ao];simp,fr⟩
  |succ m=>
   have h1:i<L.length:=by omega
   have h2:i<N.length:=by omega
   have g:(i:Int)<L.length:=by omega
   have i1:∀h:AH,aC h 2 A (I i)=some (.ai [I L[i].1,I L[i].2],h):=λh=>fW hA (by simp[chC,h1]) rfl
   have i2:∀h:AH,aC h 2 B (I i)=some (.ai [I N[i].1,I N[i].2],h):=λh=>fW hB (by simp[chC,h2]) rfl
   have heq:bo [.int .i64,.int .i64] [I N[i].1,I N[i].2] [I L[i].1,I L[i].2]=some (N[i].1==L[i].1&&N[i].2==L[i].2):=by simp[bo,fm]
   have ad:=((fr.add (.cells [I 0,I 0])).set fr.nx (.cells [I L[i].1,I L[i].2])).bump (k:=y.nx+1+7) (by simp);have c3:((y.add (.cells [I 0,I 0])).set y.nx (.cells [I L[i].1,I L[i].2])).E y.nx=some [I L[i].1,I L[i].2]:=cse;have c4:((y.add (.cells [I 0,I 0])).set y.nx (.cells [I L[i].1,I L[i].2])).E (h.nx+1)=some [U,B]:=by rw[csn,can];exact c2
   have ar:¬h.nx+1=y.nx:=by omega
   simp[B7,g,i1,ar,c2];generalize(y.add (.cells [I 0,I 0])).set y.nx (.cells [I L[i].1,I L[i].2])=h5 at*;by_cases he:N[i]=L[i]
   ·have S:(N[i].1==L[i].1&&N[i].2==L[i].2)=true:=by rw[he];simp
    rw[S]at heq;simp(disch:=first|go_size|fail)[B4,i2,c3,heq];exact⟨m,by omega,.mk (i+1) (show i+1+m=L.length by omega) (nG r h1 h2 he.symm) ad c4 (by simp;omega)⟩
   have S:(N[i].1==L[i].1&&N[i].2==L[i].2)=false:=by
    rw[vG];intro e;simp only[aI,fR]at e;exact he (Prod.ext e.1 e.2)
   rw[S]at heq;simp(disch:=first|go_size|fail)[B4,i2,c3,heq,Dw];refine⟨?_,ad⟩;rw[dV (a:=L) λe=>he (by simp only[e])];simp
 |succ m=>
  have h1:i<t.length:=by omega
  have h2:i<u.length:=by omega
  have g:(i:Int)<t.length:=by omega
  have i1:∀h:AH,aC h 1 T (I i)=some (.ai [az t[i]],h):=λh=>fW hT (by simp[rnC,h1]) rfl
  have i2:∀h:AH,aC h 1 U (I i)=some (.ai [az u[i]],h):=λh=>fW hU (by simp[rnC,h2]) rfl
  by_cases he:u[i]=t[i]
  ·simp(disch:=first|go_size|fail)[Be,g,i1,c2,i2,az,he,OP];exact⟨m,by omega,.mk (i+1) (show i+1+m=t.length by omega) (nG r h1 h2 he.symm) fr c1 c2 R⟩
  simp(disch:=first|go_size|fail)[Be,g,i1,c2,i2,az,he,RG,Co];refine⟨?_,fr⟩;rw[dV (a:=t) λe=>he (by simp only[e])];simp
def VQ(f:Nat)(p:Val->Bool)(v:Val):Prop:=∀(w:Val) (h:AH),GJ h->ab prog f [.agg (vC v),.agg (vC w)] h (.bool (p v&&dq v w)) h
variable {f:Nat}{p:Val->Bool}{Q:QT}
theorem agd{l:List Val}(g:∀v∈l,VQ f p v)(v w:Val)(r:v∈l)(y:GJ h)(G:Q (.bool (p v&&dq v w)) h):tU prog f [.agg (vC v),.agg (vC w)] h Q:=sD (g v r w h y) G
inductive Q73(h:AH)(f:Nat)(p:Val->Bool)(A B:AV)(L M:List Val):Nat->List AV->AH->Prop
 |mk {m:Nat} {h':AH} (i:Nat):i+m=L.length->L.take i=M.take i->(L.take i).all p=true->Fr h h'->Q73 h f p A B L M m [B,.func (.func f) [] [],A,I L.length,I i] h'
theorem tF(v:Val):cut (vC v) 0 4=some (vC v):=by
 have:=cS (α:=vC v) (b:=[]) (n:=4) (ch _);rwa [bO]at this
theorem agx(f:Nat)(p:Val->Bool)(L M:List Val)(hv:∀v∈L,VQ f p v)(A B:AV)(h:AH)(hg:GJ h)(V:Sl (vCs L) A)(W:Sl (vCs M) B)(hL:L.length<=2000000000):ab prog 73 [A,B,.func (.func f) [] []] h (.bool (L.all p&&dq L M)) h:=by
 refine dj (λ_=>.bool _) (C73 ?_);have l1:∀h:AH,bn h A=some (I L.length,h):=λh=>by rw[fS V,gP]
 have l2:∀h:AH,bn h B=some (I M.length,h):=λh=>by rw[fS W,gP]
 obtain⟨R,S⟩:∃R,R=(L.all p&&dq L M):=⟨_,rfl⟩;rw[<-S];by_cases hl:L.length=M.length
 ·have g:(L.length:Int)=M.length:=by omega
  simp[g73,l1,l2,g];rw[<-g];refine⟨Q73 h f p A B L M,L.length,.mk 0 (by simp) rfl rfl (Fr.refl h),?_⟩;rintro m vs G ⟨i,ad,U,hp,fr⟩;cases m with
  |zero=>
   have r:¬(i:Int)<L.length:=by omega
   simp[FI,r,HO,G9];have:L=M:=by
    rw[dH (by omega),dH (by omega)]at U;exact U
   rw[dH (by omega)]at hp;exact⟨by rw[S,fa this,hp];rfl,fr⟩
  |succ m=>
   have h1:i<L.length:=by omega
   have h2:i<M.length:=by omega
   have r:(i:Int)<L.length:=by omega
   have i1:∀h:AH,aC h 4 A (I i)=some (.ai (vC L[i]),h):=λh=>fW V (mC h1) (ch _)
   have i2:∀h:AH,aC h 4 B (I i)=some (.ai (vC M[i]),h):=λh=>fW W (mC h2) (ch _)
   have k1:=tF L[i];have k2:=tF M[i];have a1:=ch L[i];have a2:=ch M[i];have b1:=jd L[i];have b2:=jd M[i];have s1:aP [I 0,I 0,.str [],.D] 0 (vC L[i])=some (vC L[i]):=iH a1.symm;have s2:aP [I 0,I 0,.str [],.D] 0 (vC M[i])=some (vC M[i]):=iH a2.symm;simp[FI,r,i1,i2,k1,k2,a1,b1,s1,VX,k1,k2,a2,b2,s2];have y:Fr h ((((G.add (.cells [I 0,I 0,.str [],.D])).set G.nx (.cells (vC L[i]))).add (.cells [I 0,I 0,.str [],.D])).set (G.nx+1) (.cells (vC M[i]))):=(((fr.add _).set fr.nx _).add _).set (by have:=fr.nx;omega) _;generalize(((G.add (.cells [I 0,I 0,.str [],.D])).set G.nx (.cells (vC L[i]))).add (.cells [I 0,I 0,.str [],.D])).set (G.nx+1) (.cells (vC M[i]))=h5 at*;refine agd hv _ _ (gG h1) (hg.fr y) ?_;by_cases he:p L[i]=true/\L[i]=M[i]
   ·rw[he.1,fa he.2];simp(disch:=first|go_size|fail)[];refine⟨m,by omega,.mk (i+1) (show i+1+m=L.length by omega) (nG U h1 h2 he.2) ?_ y⟩;rw[vD h1,List.all_append,hp];simp[he.1]
   have hb:(p L[i]&&dq L[i] M[i])=false:=by
    cases hp:p L[i]
    ·rfl
    rw[dV λe=>he ⟨hp,e⟩];rfl
   rw[hb];simp[HO];refine⟨?_,y⟩;rw[S];by_cases N:L=M
   ·subst N;have:p L[i]=false:=by
     cases hp:p L[i]
     ·rfl
     exact absurd ⟨hp,rfl⟩ he
    have:L.all p=false:=by
     rw[List.all_eq_false];exact⟨L[i],gG h1,by simp[this]⟩
    rw[this];rfl
   rw[dV N];simp
 have g:¬(L.length:Int)=M.length:=by omega
 simp[g73,l1,l2,g];exact⟨by rw[S,dV λe=>hl (by rw[e])];simp,Fr.refl h⟩
variable {P:Val->Prop}
theorem X7(g:∀v,P v->VQ f p v){B:AV}(L M:List Val)(r:GJ h)(y:Sl (vCs L) A)(G:Sl (vCs M) B)(N:∀v∈L,P v)(R:L.length<=2000000000)(S:Q (.bool (L.all p&&dq L M)) h):tU prog 73 [A,B,.func (.func f) [] []] h Q:=sD (agx f p L M (λv hm=>g v (N v hm)) A B h r y G R) S
theorem B?(k n:Int)(s:Str)(l:List Val)(hl:l.length<=2000000000)(U:∀v∈l,VQ 140 (λ_=>true) v):VQ 140 (λ_=>true) (.mk k n s l):=by
 rintro⟨r,y,G,g⟩ h hg;refine dj (λ_=>.bool _) (ahy ?_);have V:vC (.mk k n s l)=[I k,I n,.str s,.psl (vCs l)]:=by simp[vC]
 have W:vC (.mk r y G g)=[I r,I y,.str G,.psl (vCs g)]:=by simp[vC]
 obtain⟨R,N⟩:∃R,R=(true&&dq (Val.mk k n s l) (.mk r y G g)):=⟨_,rfl⟩;simp only[<-N];have ad:cL h (.agg (vC (.mk k n s l)))=some (.ptr h.nx 0,h.add (.cells (vC (.mk k n s l)))):=by simp[cL]
 have af:cL (h.add (.cells (vC (.mk k n s l)))) (.agg (vC (.mk r y G g)))=some (.ptr (h.nx+1) 0,(h.add (.cells (vC (.mk k n s l)))).add (.cells (vC (.mk r y G g)))):=by simp[cL]
 simp only[Ym,ad,af,qi,lp,iT];have fr:Fr h ((h.add (.cells (vC (.mk k n s l)))).add (.cells (vC (.mk r y G g)))):=((Fr.refl h).add _).add _;have d1:((h.add (.cells (vC (.mk k n s l)))).add (.cells (vC (.mk r y G g)))).E h.nx=some [I k,I n,.str s,.psl (vCs l)]:=by rw[can,<-V];exact cas
 have d2:((h.add (.cells (vC (.mk k n s l)))).add (.cells (vC (.mk r y G g)))).E (h.nx+1)=some [I r,I y,.str G,.psl (vCs g)]:=by rw[<-W];exact cas
 generalize(h.add (.cells (vC (.mk k n s l)))).add (.cells (vC (.mk r y G g)))=h1 at*;by_cases q1:k=r
 rotate_left
 ·simp[d1,d2,q1,w_,wY,wN];exact⟨by rw[N,dV λe=>q1 (by cases e;rfl)];rfl,fr⟩
 by_cases q2:n=y
 rotate_left
 ·simp[d1,d2,q1,w_,d1,d2,q2,wY,wN];exact⟨by rw[N,dV λe=>q2 (by cases e;rfl)];rfl,fr⟩
 by_cases q3:s=G
 rotate_left
 ·simp[d1,d2,q1,w_,d1,d2,q2,wY,d1,d2,q3,wN];exact⟨by rw[N,dV λe=>q3 (by cases e;rfl)];rfl,fr⟩
 simp[d1,d2,q1,w_,d1,d2,q2,wY,d1,d2,q3];refine X7 U l g (hg.fr fr) (.inl rfl) (.inl rfl) (λv U=>U) hl ?_;have aj:R=dq l g:=by
  rw[N];by_cases e:l=g
  ·rw[fa e,fa (by rw[q1,q2,q3,e])];rfl
  rw[dV e,dV λe2=>e (by cases e2;rfl)];rfl
 have S:l.all (λ_=>true)=true:=by simp
 rw[S,<-aj];unfold wN;cases R
 ·simp[];exact fr
 simp[];exact fr
theorem agK:∀ {v:Val},WB v->VQ 140 (λ_=>true) v:=λg=>by
 induction g with
 |mk k n s l r _ y=>exact B? k n s l r y
theorem aby(v w:Val)(g:GJ h)(r:WB v):ab prog 140 [.agg (vC v),.agg (vC w)] h (.bool (true&&dq v w)) h:=agK r w h g
def okE(v:Val):Bool:=decide (gE v=0)
theorem adH(v w:Val)(N:GJ h)(S:WB v):ab prog 106 [.agg (vC v),.agg (vC w)] h (.bool (okE v&&dq v w)) h:=by
 refine dj (λ_=>.bool _) (ais ?_);obtain⟨R,r⟩:∃R,R=(okE v&&dq v w):=⟨_,rfl⟩;rw[<-r];have y:cL h (.agg (vC v))=some (.ptr h.nx 0,h.add (.cells (vC v))):=by simp[cL]
 have G:cL (h.add (.cells (vC v))) (.agg (vC w))=some (.ptr (h.nx+1) 0,(h.add (.cells (vC v))).add (.cells (vC w))):=by simp[cL]
 simp only[Ys,y,G,qi,lp,iT];have fr:Fr h ((h.add (.cells (vC v))).add (.cells (vC w))):=((Fr.refl h).add _).add _;have d1:((h.add (.cells (vC v))).add (.cells (vC w))).E h.nx=some (vC v):=by rw[can];exact cas
 have d2:((h.add (.cells (vC v))).add (.cells (vC w))).E (h.nx+1)=some (vC w):=cas;generalize(h.add (.cells (vC v))).add (.cells (vC w))=h1 at*;have k1:=tF v;have k2:=tF w;have g:=N.fr fr;simp[d1,k1];refine sD (A_ v g trivial) ?_;by_cases q1:gE v=0
 rotate_left
 ·simp[Ef,q1,A4];exact⟨by rw[r];simp[okE,q1],fr⟩
 simp[Ef,q1,d2,k2];refine sD (A_ w g trivial) ?_;by_cases q2:gE w=0
 rotate_left
 ·simp[q2,A4];exact⟨by rw[r,dV λe=>q2 (by rw[<-e];exact q1)];simp,fr⟩
 simp[q2,d1,d2,k1,k2];refine sD (aby v w g S) ?_;have:R=dq v w:=by rw[r];simp[okE,q1]
 rw[p5,<-this];unfold A4;cases R
 ·simp[];exact fr
 simp[];exact fr
theorem afx(v:Val)(N:WB v):VQ 74 okE v:=by
 intro w h S;refine dj (λ_=>.bool _) (C74 ?_);obtain⟨R,r⟩:∃R,R=(okE v&&dq v w):=⟨_,rfl⟩;rw[<-r];have y:cL h (.agg (vC v))=some (.ptr h.nx 0,h.add (.cells (vC v))):=by simp[cL]
 have G:cL (h.add (.cells (vC v))) (.agg (vC w))=some (.ptr (h.nx+1) 0,(h.add (.cells (vC v))).add (.cells (vC w))):=by simp[cL]
 simp only[g74,y,G,qi,lp,iT];have fr:Fr h ((h.add (.cells (vC v))).add (.cells (vC w))):=((Fr.refl h).add _).add _;have d1:((h.add (.cells (vC v))).add (.cells (vC w))).E h.nx=some (vC v):=by rw[can];exact cas
 have d2:((h.add (.cells (vC v))).add (.cells (vC w))).E (h.nx+1)=some (vC w):=cas;generalize(h.add (.cells (vC v))).add (.cells (vC w))=h1 at*;have k1:=tF v;have k2:=tF w;have g:=S.fr fr;simp[d1,k1];refine sD (A_ v g trivial) ?_;by_cases q1:gE v=0
 rotate_left
 ·simp[EH,q1];exact⟨by rw[r];simp[okE,q1],fr⟩
 simp[EH,q1,d1,d2,k1,k2];refine sD (adH v w g N) ?_;rw[<-r];cases R
 ·simp[];exact fr
 simp[];exact fr
variable {α:Type}
theorem sG{a b:α}(h:dq a b=true):a=b:=by
 apply Classical.byContradiction;intro n;rw[dV n]at h;cases h
def te1(i j:Inp):Prop:=i.tk=j.tk/\i.unit=j.unit/\i.dir=j.dir/\i.ext=j.ext/\i.n=j.n
def te2(i j:Inp):Prop:=i.a=j.a/\i.b=j.b/\(i.x=j.x/\i.y=j.y)/\i.dE=j.dE/\i.tt=j.tt
variable {i j:Inp}{T' CT' CR' C':AV}{k:NT}
theorem aiq(r:h1.E h.nx=some (txG i T CT CR C))(y:h1.E (h.nx+1)=some (txG j T' CT' CR' C'))(g:k [.ptr h.nx 0,.ptr (h.nx+1) 0,.bool (pd (te1 i j))] h1):qA (.ptr h.nx 0) (.ptr (h.nx+1) 0) h1 k:=by
 have i0:(txG i T CT CR C)[0]?=some (I i.tk):=rfl;have i4:(txG i T CT CR C)[4]?=some (I i.unit):=rfl;have i5:(txG i T CT CR C)[5]?=some (I i.dir):=rfl;have i6:(txG i T CT CR C)[6]?=some (.bool i.ext):=rfl;have i7:(txG i T CT CR C)[7]?=some (I i.n):=rfl;have G:(txG j T' CT' CR' C')[0]?=some (I j.tk):=rfl;have N:(txG j T' CT' CR' C')[4]?=some (I j.unit):=rfl;have R:(txG j T' CT' CR' C')[5]?=some (I j.dir):=rfl;have S:(txG j T' CT' CR' C')[6]?=some (.bool j.ext):=rfl;have U:(txG j T' CT' CR' C')[7]?=some (I j.n):=rfl;generalize txG i T CT CR C=X at*;generalize txG j T' CT' CR' C'=Y at*;by_cases q1:i.tk=j.tk
 rotate_left
 ·rw[bI (by simp only[te1,q1,dm,cB])]at g;simp[qA,sg,r7,r8,r,y,i0,i4,i5,i6,i7,G,N,R,S,U,q1];exact g
 by_cases q2:i.unit=j.unit
 rotate_left
 ·rw[bI (by simp only[te1,q2,dm,du,cB])]at g;simp[qA,sg,r7,r8,r,y,i0,i4,i5,i6,i7,G,N,R,S,U,q1,q2];exact g
 by_cases q3:i.dir=j.dir
 rotate_left
 ·rw[bI (by simp only[te1,q3,dm,du,cB])]at g;simp[qA,sg,r7,r8,r,y,i0,i4,i5,i6,i7,G,N,R,S,U,q1,q2,q3];exact g
 by_cases V:i.ext=j.ext
 rotate_left
 ·rw[bI (by simp only[te1,V,dm,du,cB])]at g;simp[qA,sg,r7,r8,r,y,i0,i4,i5,i6,i7,G,N,R,S,U,q1,q2,q3,V];exact g
 by_cases W:i.n=j.n
 rotate_left
 ·rw[bI (by simp only[te1,W,du,cB])]at g;simp[qA,sg,r7,r8,r,y,i0,i4,i5,i6,i7,G,N,R,S,U,q1,q2,q3,V];rw[show(i.n==j.n)=false by simpa using W];exact g
 rw[km ⟨q1,q2,q3,V,W⟩]at g;simp[qA,sg,r7,r8,r,y,i0,i4,i5,i6,i7,G,N,R,S,U,q1,q2,q3,V,W];exact g
theorem ahw{k:QT}(N:h1.E h.nx=some (txG i T CT CR C))(R:h1.E (h.nx+1)=some (txG j T' CT' CR' C'))(g:k (.bool (pd (te2 i j))) h1):nZ (.ptr h.nx 0) (.ptr (h.nx+1) 0) (.bool true) h1 k:=by
 have heq:bo [.int .i64,.int .i64] [I i.x,I i.y] [I j.x,I j.y]=some (decide (i.x=j.x/\i.y=j.y)):=by simp[bo,fm,lC]
 have i8:(txG i T CT CR C)[8]?=some (I i.a):=rfl;have i9:(txG i T CT CR C)[9]?=some (I i.b):=rfl;have i12:(txG i T CT CR C)[12]?=some (I i.dE):=rfl;have i14:(txG i T CT CR C)[14]?=some (I i.tt):=rfl;have S:(txG j T' CT' CR' C')[8]?=some (I j.a):=rfl;have U:(txG j T' CT' CR' C')[9]?=some (I j.b):=rfl;have r:(txG j T' CT' CR' C')[12]?=some (I j.dE):=rfl;have G:(txG j T' CT' CR' C')[14]?=some (I j.tt):=rfl;have V:cut (txG i T CT CR C) 10 2=some [I i.x,I i.y]:=rfl;have W:cut (txG j T' CT' CR' C') 10 2=some [I j.x,I j.y]:=rfl;generalize txG i T CT CR C=X at*;generalize txG j T' CT' CR' C'=Y at*;by_cases q1:i.a=j.a
 rotate_left
 ·rw[bI (by simp only[te2,q1,dm,cB])]at g;simp[nZ,qE,qx,ql,N,R,i8,i9,S,U,V,W,q1];exact g
 by_cases q2:i.b=j.b
 rotate_left
 ·rw[bI (by simp only[te2,q2,dm,du,cB])]at g;simp[nZ,qE,qx,ql,N,R,i8,i9,S,U,V,W,q1,q2];exact g
 by_cases q3:i.x=j.x/\i.y=j.y
 rotate_left
 ·rw[bI (by simp only[te2,q3,dm,du,cB])]at g;rw[dx q3]at heq;simp[nZ,qE,qx,ql,N,R,i8,i9,S,U,V,W,q1,q2,heq];exact g
 rw[eD q3]at heq;by_cases q4:i.dE=j.dE
 rotate_left
 ·rw[bI (by simp only[te2,q4,dm,du,cB])]at g;simp[nZ,qE,qx,ql,N,R,i8,i9,i12,i14,S,U,r,G,V,W,q1,q2,heq,q4];exact g
 by_cases q5:i.tt=j.tt
 rotate_left
 ·rw[bI (by simp only[te2,q5,du,cB])]at g;simp[nZ,qE,qx,ql,N,R,i8,i9,i12,i14,S,U,r,G,V,W,q1,q2,heq,q4];rw[show(i.tt==j.tt)=false by simpa using q5];exact g
 rw[km ⟨q1,q2,q3,q4,q5⟩]at g;simp[nZ,qE,qx,ql,N,R,i8,i9,i12,i14,S,U,r,G,V,W,q1,q2,heq,q4,q5];exact g
theorem ahu{g r:AV}{k:QT}(y:k (.bool false) h1):nZ g r (.bool false) h1 k:=by
 simp[nZ,qE,qx,ql];exact y
theorem O'(i j:Inp)(T CT CR C T' CT' CR' C':AV)(hx:(Sl (rnC i.t) T/\Sl (rnC i.ct) CT/\Sl (chC i.cr) CR/\Sl (cbC i.cls) C)/\(Sl (rnC j.t) T'/\Sl (rnC j.ct) CT'/\Sl (chC j.cr) CR'/\Sl (cbC j.cls) C')/\i.t.length<=1000000000/\i.ct.length<=1000000000/\i.cr.length<=1000000000/\i.cls.length<=2000000000):ab prog 75 [.agg (txG i T CT CR C),.agg (txG j T' CT' CR' C')] h (.bool (pd (teE i j))) h:=by
 obtain⟨⟨hT,N,R,hC⟩,⟨S,r,y,U⟩,b1,b2,b3,b4⟩:=hx;refine dj (λ_=>.bool _) (C75 ?_);have o1:aM (txG i T CT CR C)=true:=by
  have a1:=dJ hT;have a2:=dJ N;have a3:=dJ R;have a4:=dJ hC;simp only[txG,aM,nE,a1,a2,a3,a4];rfl
 have o2:aM (txG j T' CT' CR' C')=true:=by
  have a1:=dJ S;have a2:=dJ r;have a3:=dJ y;have a4:=dJ U;simp only[txG,aM,nE,a1,a2,a3,a4];rfl
 have ad:(txG i T CT CR C)[13]?=some C:=rfl;have x1:(txG i T CT CR C)[1]?=some T:=rfl;have xc:cut (txG i T CT CR C) 2 2=some [CT,CR]:=rfl;have af:(txG j T' CT' CR' C')[13]?=some C':=rfl;have y1:(txG j T' CT' CR' C')[1]?=some T':=rfl;have yc:cut (txG j T' CT' CR' C') 2 2=some [CT',CR']:=rfl;have aj:cL h (.agg (txG i T CT CR C))=some (.ptr h.nx 0,h.add (.cells (txG i T CT CR C))):=by simp[cL]
 have al:cL (h.add (.cells (txG i T CT CR C))) (.agg (txG j T' CT' CR' C'))=some (.ptr (h.nx+1) 0,(h.add (.cells (txG i T CT CR C))).add (.cells (txG j T' CT' CR' C'))):=by simp[cL]
 simp only[g75,aj,al,qi,lp,iT];have fr:Fr h ((h.add (.cells (txG i T CT CR C))).add (.cells (txG j T' CT' CR' C'))):=((Fr.refl h).add _).add _;have c1:((h.add (.cells (txG i T CT CR C))).add (.cells (txG j T' CT' CR' C'))).E h.nx=some (txG i T CT CR C):=by rw[can];exact cas
 have c2:((h.add (.cells (txG i T CT CR C))).add (.cells (txG j T' CT' CR' C'))).E (h.nx+1)=some (txG j T' CT' CR' C'):=cas;generalize(h.add (.cells (txG i T CT CR C))).add (.cells (txG j T' CT' CR' C'))=h1 at*;obtain⟨fl,g⟩:∃fl,fl=(!(dq i.t j.t)||(!(dq i.ct j.ct&&dq i.cr j.cr) || !(dq i.cls j.cls))):=⟨_,rfl⟩;refine⟨λG h2=>G=[.ptr h.nx 0,.ptr (h.nx+1) 0,.bool fl]/\h2=h1,?_,?_⟩
 ·simp[Tg,c1,c2,x1,y1];refine sD (agF T T' i.t j.t ⟨hT,S,b1⟩) ?_;cases hq:dq i.t j.t
  ·rw[hq]at g;simp[FP,ym,g]
  rw[hq]at g;simp[FP,c1,c2,xc,yc];refine sD (acr CT CR CT' CR' i.ct i.cr j.ct j.cr ⟨N,R,r,y,b2,b3⟩) ?_;cases V:(dq i.ct j.ct&&dq i.cr j.cr)
  ·rw[V]at g;simp[ym,g]
  rw[V]at g;simp[ym,c1,c2,ad,af];refine sD (agA C C' i.cls j.cls ⟨hC,U,b4⟩) ?_;cases W:dq i.cls j.cls
  ·rw[W]at g;simp[g]
  rw[W]at g;simp[g]
 rintro G h2 ⟨rfl,rfl⟩;cases hf:fl
 ·rw[hf]at g;have g:=g.symm;simp only[kh,vO,aI]at g;have e1:=sG g.1;have e2:=sG g.2.1.1;have e3:=sG g.2.1.2;have e4:=sG g.2.2;simp[FU];refine⟨λG h3=>G=[.ptr h.nx 0,.ptr (h.nx+1) 0,.bool (pd (te1 i j))]/\h3=h2,aiq c1 c2 ⟨rfl,rfl⟩,?_⟩;rintro G h3 ⟨rfl,rfl⟩;simp[];by_cases q1:te1 i j
  rotate_left
  ·rw[bI q1];refine ahu ⟨?_,fr⟩;rw[bI];rintro⟨_,f1,f2,f3,f4,f5,f6,f7,f8,f9,f10⟩;exact q1 ⟨f1,f2,f3,f4,f5⟩
  rw[km q1];refine ahw c1 c2 ⟨?_,fr⟩;have:teE i j↔te2 i j:=⟨fun⟨_,f1,f2,f3,f4,f5,f6,f7,f8,f9,f10⟩=>⟨f6,f7,f8,f9,f10⟩,fun⟨f6,f7,f8,f9,f10⟩=>⟨⟨e4,e1,e2,e3⟩,q1.1,q1.2.1,q1.2.2.1,q1.2.2.2.1,q1.2.2.2.2,f6,f7,f8,f9,f10⟩⟩;rw[show teE i j=te2 i j from propext this]
 rw[hf]at g;simp[FU];refine⟨bI ?_,fr⟩;rintro⟨⟨e1,e2,e3,e4⟩,_⟩;rw[fa e1,fa e2,fa e3,fa e4]at g;simp at g
def si1(i j:Inp):Prop:=i.kind=j.kind/\(i.pk=j.pk/\i.pid=j.pid/\i.px=j.px/\i.py=j.py/\i.pt=j.pt/\i.pw=j.pw)/\(i.key=j.key/\i.cH=j.cH)/\i.time=j.time/\(i.sw=j.sw/\i.sh=j.sh)/\(i.dv=j.dv/\i.high=j.high/\i.scale=j.scale)
def si2(i j:Inp):Prop:=i.ver=j.ver/\i.node=j.node/\i.act=j.act/\i.frm=j.frm/\i.too=j.too/\i.rt=j.rt
instance (i j:Inp):Decidable (si2 i j):=by unfold si2;infer_instance
theorem acZ(i j:Inp):eqI i j↔si1 i j/\si2 i j/\i.args=j.args/\teE i j:=by
 constructor
 ·rintro⟨h1,h2,g,r,y,G,N,R,S⟩;exact⟨⟨h1,h2,g,r,y,G⟩,R,N,S⟩
 rintro⟨⟨h1,h2,g,r,y,G⟩,R,N,S⟩;exact⟨h1,h2,g,r,y,G,N,R,S⟩
theorem ahP{r:AV}(G:h1.E h.nx=some (inG i A T CT CR C))(N:h1.E (h.nx+1)=some (inG j r T' CT' CR' C'))(g:k [.ptr h.nx 0,.ptr (h.nx+1) 0,.bool (pd (si1 i j))] h1):pz (.ptr h.nx 0) (.ptr (h.nx+1) 0) h1 k:=by
 have i0:(inG i A T CT CR C)[0]?=some (I i.kind):=rfl;have i9:(inG i A T CT CR C)[9]?=some (I i.time):=rfl;have ip:cut (inG i A T CT CR C) 1 6=some [I i.pk,I i.pid,I i.px,I i.py,I i.pt,I i.pw]:=rfl;have V:cut (inG i A T CT CR C) 7 2=some [I i.key,I i.cH]:=rfl;have iz:cut (inG i A T CT CR C) 10 2=some [I i.sw,I i.sh]:=rfl;have im:cut (inG i A T CT CR C) 12 3=some [.bool i.dv,.bool i.high,I i.scale]:=rfl;have R:(inG j r T' CT' CR' C')[0]?=some (I j.kind):=rfl;have j9:(inG j r T' CT' CR' C')[9]?=some (I j.time):=rfl;have jp:cut (inG j r T' CT' CR' C') 1 6=some [I j.pk,I j.pid,I j.px,I j.py,I j.pt,I j.pw]:=rfl;have W:cut (inG j r T' CT' CR' C') 7 2=some [I j.key,I j.cH]:=rfl;have jz:cut (inG j r T' CT' CR' C') 10 2=some [I j.sw,I j.sh]:=rfl;have jm:cut (inG j r T' CT' CR' C') 12 3=some [.bool j.dv,.bool j.high,I j.scale]:=rfl;have y:bo [.int .i64,.int .i64,.int .i64,.int .i64,.int .i64,.int .i64] [I i.pk,I i.pid,I i.px,I i.py,I i.pt,I i.pw] [I j.pk,I j.pid,I j.px,I j.py,I j.pt,I j.pw]=some (decide (i.pk=j.pk/\i.pid=j.pid/\i.px=j.px/\i.py=j.py/\i.pt=j.pt/\i.pw=j.pw)):=by simp[bo,fm,lC]
 have S:bo [.int .i64,.int .i64] [I i.key,I i.cH] [I j.key,I j.cH]=some (decide (i.key=j.key/\i.cH=j.cH)):=by simp[bo,fm,lC]
 have ez:bo [.int .i64,.int .i64] [I i.sw,I i.sh] [I j.sw,I j.sh]=some (decide (i.sw=j.sw/\i.sh=j.sh)):=by simp[bo,fm,lC]
 have em:bo [.bool,.bool,.int .i64] [.bool i.dv,.bool i.high,I i.scale] [.bool j.dv,.bool j.high,I j.scale]=some (decide (i.dv=j.dv/\i.high=j.high/\i.scale=j.scale)):=by simp[bo,fm,lC]
 generalize inG i A T CT CR C=X at*;generalize inG j r T' CT' CR' C'=Y at*;by_cases q1:i.kind=j.kind
 rotate_left
 ·rw[bI (by simp only[si1,q1,dm,cB])]at g;simp[pz,qt,qC,qF,qs,G,N,i0,ip,R,jp,q1];exact g
 by_cases q2:i.pk=j.pk/\i.pid=j.pid/\i.px=j.px/\i.py=j.py/\i.pt=j.pt/\i.pw=j.pw
 rotate_left
 ·rw[bI (by simp only[si1,q2,dm,du,cB])]at g;rw[dx q2]at y;simp[pz,qt,qC,qF,qs,G,N,i0,ip,R,jp,q1,y];exact g
 rw[eD q2]at y;by_cases q3:i.key=j.key/\i.cH=j.cH
 rotate_left
 ·rw[bI (by simp only[si1,q3,dm,du,cB])]at g;rw[dx q3]at S;simp[pz,qt,qC,qF,qs,G,N,i0,ip,V,R,jp,W,q1,y,S];exact g
 rw[eD q3]at S;by_cases U:i.time=j.time
 rotate_left
 ·rw[bI (by simp only[si1,U,dm,du,cB])]at g;simp[pz,qt,qC,qF,qs,G,N,i0,i9,ip,V,iz,R,j9,jp,W,jz,q1,y,S,U];exact g
 by_cases q5:i.sw=j.sw/\i.sh=j.sh
 rotate_left
 ·rw[bI (by simp only[si1,q5,dm,du,cB])]at g;rw[dx q5]at ez;simp[pz,qt,qC,qF,qs,G,N,i0,i9,ip,V,iz,R,j9,jp,W,jz,q1,y,S,U,ez];exact g
 rw[eD q5]at ez;by_cases q6:i.dv=j.dv/\i.high=j.high/\i.scale=j.scale
 rotate_left
 ·rw[bI (by simp only[si1,q6,du,cB])]at g;rw[dx q6]at em;simp[pz,qt,qC,qF,qs,G,N,i0,i9,ip,V,iz,im,R,j9,jp,W,jz,jm,q1,y,S,U,ez,em];exact g
 rw[eD q6]at em;rw[km ⟨q1,q2,q3,U,q5,q6⟩]at g;simp[pz,qt,qC,qF,qs,G,N,i0,i9,ip,V,iz,im,R,j9,jp,W,jz,jm,q1,y,S,U,ez,em];exact g
def mS(i j:Inp):Bool:=i.args.all okE&&dq i j
theorem aaZ(i j:Inp)(cs ds:LA)(hg:GJ h)(hx:InC i cs/\InC j ds/\InB i):ab prog 30 [.agg cs,.agg ds] h (.bool (mS i j)) h:=by
 obtain⟨⟨A,T,CT,CR,C,rfl,hA,hT,V,W,hC⟩,⟨g,T',CT',CR',C',rfl,ad,af,N,S,aj⟩,y⟩:=hx;have e0:dq i j=pd (si1 i j/\si2 i j/\i.args=j.args/\teE i j):=by
  rw[<-show eqI i j=(si1 i j/\si2 i j/\i.args=j.args/\teE i j)from propext (acZ i j)];by_cases he:i=j
  ·rw[fa he,km ((Bh i j).2 he)]
  rw[dV he,bI λe=>he ((Bh i j).1 e)]
 refine dj (λ_=>.bool _) (C30 ?_);obtain⟨R,r⟩:∃R,R=mS i j:=⟨_,rfl⟩;rw[<-r];unfold mS at r;rw[e0]at r;have al:(Sl (rnC i.t) T/\Sl (rnC i.ct) CT/\Sl (chC i.cr) CR/\Sl (cbC i.cls) C)/\(Sl (rnC j.t) T'/\Sl (rnC j.ct) CT'/\Sl (chC j.cr) CR'/\Sl (cbC j.cls) C')/\i.t.length<=1000000000/\i.ct.length<=1000000000/\i.cr.length<=1000000000/\i.cls.length<=2000000000:=⟨⟨hT,V,W,hC⟩,⟨af,N,S,aj⟩,y.t,y.ct,y.cr,y.cls⟩;have an:cL h (.agg (inG i A T CT CR C))=some (.ptr h.nx 0,h.add (.cells (inG i A T CT CR C))):=rfl;have ao:cL (h.add (.cells (inG i A T CT CR C))) (.agg (inG j g T' CT' CR' C'))=some (.ptr (h.nx+1) 0,(h.add (.cells (inG i A T CT CR C))).add (.cells (inG j g T' CT' CR' C'))):=rfl;simp only[g30,an,ao,qi,lp,iT];have fr:Fr h ((h.add (.cells (inG i A T CT CR C))).add (.cells (inG j g T' CT' CR' C'))):=((Fr.refl h).add _).add _;have c1:((h.add (.cells (inG i A T CT CR C))).add (.cells (inG j g T' CT' CR' C'))).E h.nx=some (inG i A T CT CR C):=by rw[can];exact cas
 have c2:((h.add (.cells (inG i A T CT CR C))).add (.cells (inG j g T' CT' CR' C'))).E (h.nx+1)=some (inG j g T' CT' CR' C'):=cas;generalize(h.add (.cells (inG i A T CT CR C))).add (.cells (inG j g T' CT' CR' C'))=h1 at*;have ar:=hg.fr fr;refine⟨λvs h2=>vs=[.ptr h.nx 0,.ptr (h.nx+1) 0,.bool (pd (si1 i j))]/\h2=h1,ahP c1 c2 ⟨rfl,rfl⟩,?_⟩;rintro vs h2 ⟨rfl,rfl⟩;simp[];have i15:(inG i A T CT CR C)[15]?=some A:=rfl;have av:(inG j g T' CT' CR' C')[15]?=some g:=rfl;have ir:cut (inG i A T CT CR C) 16 6=some [I i.ver,I i.node,I i.act,I i.frm,I i.too,.str i.rt]:=rfl;have jr:cut (inG j g T' CT' CR' C') 16 6=some [I j.ver,I j.node,I j.act,I j.frm,I j.too,.str j.rt]:=rfl;have it:cut (inG i A T CT CR C) 22 15=some (txG i T CT CR C):=rfl;have jt:cut (inG j g T' CT' CR' C') 22 15=some (txG j T' CT' CR' C'):=rfl;have U:bo [.int .i64,.int .i64,.int .i64,.int .i64,.int .i64,.str] [I i.ver,I i.node,I i.act,I i.frm,I i.too,.str i.rt] [I j.ver,I j.node,I j.act,I j.frm,I j.too,.str j.rt]=some (decide (si2 i j)):=by
  rw[show decide (si2 i j)=decide (i.ver=j.ver/\i.node=j.node/\i.act=j.act/\i.frm=j.frm/\i.too=j.too/\i.rt=j.rt)from pY.2 Iff.rfl];simp[bo,fm,lC]
 generalize inG i A T CT CR C=X at*;generalize inG j g T' CT' CR' C'=Y at*;by_cases q1:si1 i j
 rotate_left
 ·rw[bI q1];simp[x_,yQ,xG];exact⟨by rw[r,bI λe=>q1 e.1];simp,fr⟩
 rw[km q1];by_cases q2:si2 i j
 rotate_left
 ·rw[dx q2]at U;simp[x_,c1,c2,ir,jr,U,yQ,xG];exact⟨by rw[r,bI λe=>q2 e.2.1];simp,fr⟩
 rw[eD q2]at U;simp[x_,c1,c2,ir,jr,U,i15,yQ,c2,av];refine X7 afx i.args j.args ar hA ad y.wb y.args ?_;cases G:(i.args.all okE&&dq i.args j.args)
 ·simp[xG];refine⟨?_,fr⟩;rw[r];cases ha:i.args.all okE
  ·rfl
  rw[ha]at G;rw[bI λe=>by rw[fa e.2.2.1]at G;cases G];rfl
 simp[c1,c2,it,jt,xG];refine sD (O' i j T CT CR C T' CT' CR' C' al) ?_;rw[aI]at G;have aw:R=pd (teE i j):=by
  rw[r,G.1,p5];have e3:=sG G.2;congr 1
  exact propext ⟨λe=>e.2.2.2,λe=>⟨q1,q2,e3,e⟩⟩
 rw[<-aw];cases R
 ·simp[];exact fr
 simp[];exact fr
variable {id:Nat}
theorem aas{p:AV}(U:h.H.get id=some (.typ (2*85+1) [p,.D])):ab prog 32 [.ptr id 0] h (.str []) h:=by
 refine ab.lib Go.Proofs.Yi λown β w R hs V=>?_
 obtain⟨c0,rfl,v0⟩:=rR V;cases v0 with
 |ptr _ _ b base hβ=>
 obtain⟨b',S,hβ',ad,G⟩:=hs.obj id _ U;rw[hβ]at hβ';cases hβ';obtain⟨rfl,cur,q1,q2,q3⟩:=G;rw[wA]at q1;have N:cur.size=2:=q2.2 (by omega);obtain⟨g,r,rfl⟩:∃g r,cur = #[g,r]:=by
  obtain⟨l⟩:=cur;match l,N with
  |[x,y],_=>exact⟨x,y,rfl⟩
 have r1:=q3 1 _ r rfl rfl;cases r1;refine(Any.Builder_String_nil F' aiB w.heap.size b g w q1).mono ?_;rintro e w' ⟨rfl,W⟩;exact⟨_,rfl,.str [],W⟩
variable {bs:Str}
theorem ae6{r:AH}(b:BD r h id bs)(y:∀h2,Fr r h2->Q (.str bs) h2):tU prog 32 [.ptr id 0] h Q:=by
 by_cases hs:bs=[]
 ·subst hs;obtain⟨p,bv,N,h1,h2,G,R⟩:=b.st;rcases G with⟨rfl,_,_⟩|⟨g,g1,g2,g3,_⟩
  ·exact sD (aas h1) (y h b.fr)
  exact absurd rfl g3
 exact XG b hs y
theorem Nl:∀ {s:Str},bS s->Lib.indexByte s 10 = -1
 |[],_=>rfl
 |c::s,h=>by
  have h1:=h c (by simp);have h2:=Nl (s:=s) λd g=>h d (by simp[g])
  unfold Lib.indexByte;rw[h2];simp[h1]
variable {b:Str}
theorem br{a:Str}(r:bS a)(y:bS b):bS (a++b):=λc g=>by
 rcases nC.1 g with g|g
 ·exact r c g
 exact y c g
theorem p9{c:UInt8}(r:c≠10)(y:bS b):bS (c::b):=λd g=>by
 rcases cE.1 g with rfl|g
 ·exact r
 exact y d g
theorem iK:bS []:=λc h=>by simp at h
instance (s:Str):Decidable (bS s):=inferInstanceAs (Decidable (∀c∈s,c≠10))
theorem Al(n:Int):bS (Lib.itoa n):=by
 have g:∀u,bS (Lib.decDigits u):=λu c r=>by
  have:=rZ u c r;rintro rfl;exact absurd this (by decide)
 unfold Lib.itoa;split
 ·exact p9 (by decide) (g _)
 exact g _
theorem Lq:∀ {l:List Str},(∀w∈l,bS w)->bS (aW l)
 |[],_=>iK
 |w::l,h=>p9 (by decide) (br (h w (by simp)) (Lq λv g=>h v (by simp[g])))
theorem Kk{l:List Str}(h:∀w∈l,bS w):bS (cm l):=by
 cases l with
 |nil=>exact iK
 |cons w l=>exact br (h w (by simp)) (Lq λv g=>h v (by simp[g]))
theorem p8(l:List Int):bS (de l):=Kk λw hw=>by
 obtain⟨n,_,rfl⟩:=eK.1 hw;exact Al n
theorem g!:∀s:Str,bS (bP s)
 |[]=>iK
 |c::s=>br (by
   unfold mX
   (repeat' split)
   ·decide
   ·decide
   ·decide
   rename_i h;exact p9 h iK) (g! s)
theorem qg(s:Str):bS (wQ s):=p9 (by decide) (br (g! s) (by decide))
instance (w:Str):Decidable (Go.St.bw w):=inferInstanceAs (Decidable (w≠[]/\∀c∈w,aH false c=true))
variable {n:Int}
theorem aaT(h:i64 n):(Lib.itoa n).length<=22:=by
 have:=jC [n] (by simpa using h);have e:de [n]=Lib.itoa n++[]:=rfl;rw[e]at this;simpa using this
theorem aeC(n:Int):inR n=true↔nb n:=by
 unfold inR nb bh;simp
theorem ZL:∀l:List Int,me l=aW (l.map Lib.itoa)
 |[]=>rfl
 |n::l=>by simp[me,aW,ZL l]
variable {l:List Int}
theorem po(h:∀n∈l,nb n):cz l=aW (l.map Lib.itoa):=by
 unfold cz;rw[Z,ZL];rw[fi];exact λn g=>(aeC n).2 (h n g)
theorem rF(n:Int)(l:List Int):aW ((n::l).map Lib.itoa)=[32]++de (n::l):=rfl
theorem sF(s:Str):gy s=wQ s:=by
 have:∀s:Str,qtB s=bP s:=λs=>by
  induction s with
  |nil=>rfl
  |cons c s g=>
   simp only[qtB,bP,g];congr 1
   unfold qtE mX;by_cases h1:c=92
   ·subst h1;rfl
   by_cases h2:c=34
   ·subst h2;rfl
   rw[O (by simp[h1,h2]),O h1,O h2]
 unfold gy wQ;rw[this]
mutual
theorem A9:∀(v:Val) (d m:Int),(Go.St.chk d v m).1=0->eU v=cI v
 |.mk k n s l,d,m,h=>by
  rw[Go.St.chk]at h;by_cases c1:k=4/\16<=d
  ·rw[Z c1]at h;simp at h
  rw[O c1]at h;by_cases c2:iJ k n s l=false
  ·rw[Z c2]at h;simp at h
  rw[O c2]at h;by_cases c3:kZ k n=true
  ·rw[Z c3]at h;simp at h
  rw[O c3]at h;by_cases c4:2000<s.length\/100<l.length\/1000<m+1
  ·rw[Z c4]at h;simp at h
  rw[O c4]at h;by_cases c5:Go.Lib.validD s=false
  ·rw[Z c5]at h;simp at h
  rw[O c5]at h;simp only[eU,cI];by_cases k1:k=1
  ·rw[Z k1,Z k1]
  rw[O k1,O k1];by_cases k2:k=2
  ·rw[Z k2,Z k2]
  rw[O k2,O k2];by_cases k3:k=3
  ·rw[Z k3,Z k3,sF]
  rw[O k3,O k3];by_cases k4:k=4
  ·rw[ifn]at h;by_cases c7:(Go.St.ea (d+1) l (m+1) []).1≠0
   ·rw[Z c7]at h;exact absurd h c7
   rw[Z k4];have:=M6 l (d+1) (m+1) [] (by simpa using c7);rw[this.1]
  exfalso;unfold iJ at c2;rw[ifn,O k3,O k4]at c2;exact c2 rfl
theorem M6:∀(l:List Val) (d m:Int) (ts:List Ty),(Go.St.ea d l m ts).1=0->cZ true l=cm (aR l)/\cZ false l=aW (aR l)
 |[],_,_,_,_=>⟨rfl,rfl⟩
 |v::l,d,m,ts,h=>by
  rw[Go.St.ea]at h;by_cases c:(Go.St.chk d v m).1≠0
  ·rw[Z c]at h;exact absurd h c
  rw[O c]at h;have h1:=A9 v d m (by simpa using c);have h2:=M6 l d _ _ h;simp only[cZ,aR,cm,aW,h1,h2.2];exact⟨rfl,rfl⟩
end
theorem UJ:∀(l:List Val) (acc:Str),(∀v∈l,Go.St.gE v=0)->(∀v∈l,(bM 1 v 0).1=0)->prA acc l=acc++aW (aR l)
 |[],acc,_,_=>by simp[prA,aR,aW]
 |v::l,acc,h,h2=>by
  unfold prA;have g:=h2 v (by simp);rw[O (by simpa using g),UJ l _ (λu hu=>h u (by simp[hu])) (λu hu=>h2 u (by simp[hu])),A9 v 0 0 (h v (by simp))];simp[aR,aW]
theorem eq1(h:i.kind=1)(y:1<=i.pk/\i.pk<7)(g:∀n∈[i.pid,i.px,i.py,i.pt,i.pw],nb n):prT i=bB i:=by
 rw[Uk h];unfold prT pr1 wl1;rw[Z h,ifn,po g,rF,Ed (l:=fx) ⟨by omega,by show _<6;omega⟩];obtain⟨k,r⟩:∃k:Nat,i.pk=k+1:=⟨(i.pk-1).toNat,by omega⟩;rw[r,show((k:Int)+1).toNat=k+1 by omega,show((k:Int)+1-1).toNat=k by omega,show gz.getD (k+1) []=fx.getD k []from rfl];simp
theorem eq2(h:i.kind=2)(g:nb i.time):prT i=bB i:=by
 rw[V6 h];unfold prT pr2 wl2;rw[ifn,Z h,po (l:=[i.time]) (by simpa using g),rF];simp
theorem eq3(h:i.kind=3)(g:nb i.time):prT i=bB i:=by
 rw[TZ h];unfold prT pr3 wl3;rw[ifn,ifn,Z h,po (l:=[i.time]) (by simpa using g),rF];simp
theorem eq4(h:i.kind=4)(h1:nb i.sw)(h2:nb i.sh):prT i=bB i:=by
 rw[U8 h];unfold prT pr4 wl4;rw[ifn,ifn,ifn,Z h,po (l:=[i.sw,i.sh]) (by simpa using⟨h1,h2⟩),rF];simp
theorem eq5(h:i.kind=5)(h1:nb i.scale):prT i=bB i:=by
 rw[WH h];unfold prT pr5 wl5;rw[ifn,ifn,ifn,ifn,Z h,po (l:=[i.scale]) (by simpa using h1),rF];simp
theorem eq6(h:i.kind=6)(h1:∀v∈i.args,Go.St.gE v=0):prT i=bB i:=by
 rw[afh h];unfold prT pr6 wl6;rw[ifn,ifn,ifn,ifn,ifn,Z h,UJ _ _ h1 λv g=>(wi v).1 (h1 v g)];rfl
theorem eq7(h:i.kind=7)(h1:nb i.ver)(h2:nb i.node)(g:nb i.frm)(r:nb i.too):prT i=bB i:=by
 rw[Uv h];unfold prT pr7 wl7;rw[ifn,ifn,ifn,ifn,ifn,ifn,Z h,po (l:=[i.ver,i.node]) (by simpa using⟨h1,h2⟩),po (l:=[i.frm,i.too]) (by simpa using⟨g,r⟩),rF,rF,sF];simp
theorem S7:∀(c:List (Int×Bool)) (acc:Str),(∀p∈c,0<=p.1/\nb (dZ p))->prC acc c=acc++aW ((c.map dZ).map Lib.itoa)
 |[],acc,_=>by simp[prC,aW]
 |p::c,acc,h=>by
  obtain⟨h1,h2⟩:=h p (by simp);have e:(if p.2=true then -p.1 else p.1)=dZ p:=by
   unfold dZ ng;split
   ·rw[ifn]
   rfl
  unfold prC;rw[ifn,e,po (l:=[dZ p]) (by simpa using h2),S7 c _ λq g=>h q (by simp[g])];simp[aW]
variable {t:List Int}{c:List (Int×Bool)}
theorem eq8{k:Int}(h1:nb n)(h2:∀p∈c,0<=p.1/\nb (dZ p)):prT (z7A k t n c)=bB (z7A k t n c):=by
 show pr8 (z7A k t n c)=wl8 (z7A k t n c)
 unfold pr8 wl8 kG;by_cases g:(z7A k t n c).tk=14
 ·rw[Z g,Z g];rfl
 rw[O g,O g];by_cases r:(z7A k t n c).tk=17
 ·rw[Z r,Z r];rfl
 rw[O r,O r];by_cases y:(z7A k t n c).tk=16
 ·rw[Z y,Z y,sF];rfl
 rw[O y,O y,S7 (z7A k t n c).cls _ h2,sF,po (l:=[(z7A k t n c).dE]) (λm hm=>by rw[j6.1 hm];exact h1)];have:lM=[99,111,109,112,111,115,101,32]++[117,112,100,97,116,101,32]:=rfl;rw[this];show _=_++(_++(Lib.itoa n++aW ((c.map dZ).map Lib.itoa)))
 show _++aW [Lib.itoa n]++aW ((c.map dZ).map Lib.itoa)=_
 simp[aW]
open Go.Eng Go.St
def XN(s:Str)(cs:LA):Prop:=∃i,InC i cs/\InB i/\bB i=s/\(∀v∈i.args,Go.St.gE v=0)/\LB i/\prT i=bB i
variable {s:Str}{cs:LA}
theorem qe(i:Inp)(g:cs=inG i .D .D .D .D .D)(r:bB i=s)(h1:i.args=[])(h2:i.t=[])(y:i.ct=[])(G:i.cr=[])(N:i.cls=[])(R:LB i)(S:prT i=bB i):XN s cs:=by
 obtain⟨a,b⟩:=agc i h1 h2 y G N;exact⟨i,g▸a,b,r,by rw[h1];simp,R,S⟩
theorem JY(hs:bS s)(hl:s.length<=38000000)(h:gD s=true):XN s (fN s).1:=by
 unfold gD at h;simp only[aI,ck]at h;obtain⟨h,hp⟩:=h;have g:s.drop (fN s).2.pos=[]:=by rw[hp];exact tT
 clear hp;have V:=vT s bC ⟨0,true,true⟩;have ao:(bc s bC ⟨0,true,true⟩).ok=true->0<=bN s bC ⟨0,true,true⟩/\(bN s bC ⟨0,true,true⟩).toNat<8:=λho=>(rC ho).2.2
 have an:(bc s bC ⟨0,true,true⟩).pos<=s.length:=(rB s bC _ (fJ _)).lt;have W:(bc s bC ⟨0,true,true⟩).ok=true->s=bC.getD (bN s bC ⟨0,true,true⟩).toNat []++s.drop (bc s bC ⟨0,true,true⟩).pos:=λho=>(rC ho).2.1
 unfold fN at h g ⊢;simp only at h g ⊢;generalize bc s bC ⟨0,true,true⟩=t at*;generalize bN s bC ⟨0,true,true⟩=k at*;by_cases k0:k=0
 ·subst k0;simp only[bt]at h g ⊢;unfold rh at h g ⊢;simp only at h g ⊢;obtain⟨o7,e7,b7⟩:=jE h;obtain⟨o6,S,b6⟩:=jE o7;obtain⟨o5,e5,b5⟩:=jE o6;obtain⟨o4,N,b4⟩:=jE o5;obtain⟨o3,G,U⟩:=jE o4;obtain⟨o2,r,c1,c2⟩:=rC o3;have aT:fx.length=6:=rfl;have y:=W o2;rw[hG (wh _ _)]at e7 S e5 N;rw[hG (vT _ _ _)]at G;rw[hG V]at r;rw[g]at e7;rw[e7]at S;rw[S]at e5;rw[e5]at N;rw[N]at G;rw[G]at r;rw[r]at y;refine qe {Inp.z with kind:=1,pk:=_,pid:=_,px:=_,py:=_,pt:=_,pw:=_} rfl ?_ rfl rfl rfl rfl rfl (lb0 _ (by simp only;omega) ⟨⟨U,b4,b5,b6,b7⟩,nb0,⟨nb0,nb0⟩,nb0,⟨nb0,nb0⟩,nb0,nb0⟩ rfl (fJ _) rfl rfl rfl) (eq1 rfl (by simp only;omega) (by simp only[lE];exact⟨U,b4,b5,b6,b7,by simp⟩));conv=>rhs;rw[y]
  rw[Uk rfl];unfold wl1;simp only;rw[show ∀x:Int,1+x-1=x by intro x;omega,Ed ⟨c1,c2⟩];simp[de,cm,aW,bC,ja]<;>rfl
 rw[O k0]at h g ⊢;by_cases k1:k=1
 ·subst k1;simp only[bt]at h g ⊢;unfold pN at h g ⊢;simp only at h g ⊢;obtain⟨o3,G,U⟩:=jE h;unfold kF at o3;simp only[aI]at o3;obtain⟨o3,o4⟩:=o3;obtain⟨o2,r,_⟩:=KE o3;have y:=W o2;have ar:(kF s t).first=false:=H? s t
  have av:(kF s t).pos=(bm s t).pos:=rfl;rw[hG ar,g,av]at G;rw[hG V,G]at r;rw[r]at y;have o5:=o4;unfold gY at o5;simp only[aI]at o5;obtain⟨v1,v2⟩:=abE o5.2;unfold nw;rw[Z o4];refine qe {Inp.z with kind:=2,key:=_,cH:=_,time:=_} rfl ?_ rfl rfl rfl rfl rfl (lb0 _ pk0 ⟨⟨nb0,nb0,nb0,nb0,nb0⟩,U,⟨nb0,nb0⟩,nb0,⟨nb0,nb0⟩,nb0,nb0⟩ rfl (fJ _) rfl rfl rfl) (eq2 rfl U);conv=>rhs;rw[y]
  rw[V6 rfl];unfold wl2 chF;simp only;rw[Z v1];simp only;rw[v2];simp[de,cm,aW,bC,gX]<;>rfl
 rw[O k1]at h g ⊢;by_cases k2:k=2
 ·subst k2;simp only[bt]at h g ⊢;unfold sx at h g ⊢;simp only at h g ⊢;obtain⟨o2,r,b2⟩:=jE h;have y:=W o2;rw[hG V,g]at r;rw[r]at y;refine qe {Inp.z with kind:=3,time:=_} rfl ?_ rfl rfl rfl rfl rfl (lb0 _ pk0 ⟨⟨nb0,nb0,nb0,nb0,nb0⟩,b2,⟨nb0,nb0⟩,nb0,⟨nb0,nb0⟩,nb0,nb0⟩ rfl (fJ _) rfl rfl rfl) (eq3 rfl b2);conv=>rhs;rw[y]
  rw[TZ rfl];unfold wl3;simp[de,cm,aW,bC,gI]<;>rfl
 rw[O k2]at h g ⊢;by_cases k3:k=3
 ·subst k3;simp only[bt]at h g ⊢;unfold sJ at h g ⊢;simp only at h g ⊢;obtain⟨o3,G,U⟩:=jE h;obtain⟨o2,r,b2⟩:=jE o3;have y:=W o2;rw[hG (wh _ _),g]at G;rw[hG V,G]at r;rw[r]at y;refine qe {Inp.z with kind:=4,sw:=_,sh:=_} rfl ?_ rfl rfl rfl rfl rfl (lb0 _ pk0 ⟨⟨nb0,nb0,nb0,nb0,nb0⟩,nb0,⟨b2,U⟩,nb0,⟨nb0,nb0⟩,nb0,nb0⟩ rfl (fJ _) rfl rfl rfl) (eq4 rfl b2 U);conv=>rhs;rw[y]
  rw[U8 rfl];unfold wl4;simp[de,cm,aW,bC,jj]<;>rfl
 rw[O k3]at h g ⊢;by_cases k4:k=4
 ·subst k4;simp only[bt]at h g ⊢;unfold sy at h g ⊢;simp only at h g ⊢;obtain⟨o4,N,b4⟩:=jE h;obtain⟨o3,G,c3,c4⟩:=rC o4;obtain⟨o2,r,c1,c2⟩:=rC o3;have y:=W o2;rw[hG (vT _ _ _)]at N G;rw[hG V]at r;rw[g]at N;rw[N]at G;rw[G]at r;rw[r]at y;refine qe {Inp.z with kind:=5,dv:=_,high:=_,scale:=_} rfl ?_ rfl rfl rfl rfl rfl (lb0 _ pk0 ⟨⟨nb0,nb0,nb0,nb0,nb0⟩,nb0,⟨nb0,nb0⟩,b4,⟨nb0,nb0⟩,nb0,nb0⟩ rfl (fJ _) rfl rfl rfl) (eq5 rfl b4);conv=>rhs;rw[y]
  rw[WH rfl];unfold wl5;simp only;have b1:∀x:Int,0<=x->x.toNat<gm.length->gm.getD x.toNat []=if(x==1)=true then iy else kl:=λx x1 x2=>by
   have:gm.length=2:=rfl;have:x=0\/x=1:=by omega
   rcases this with rfl|rfl<;>rfl
  have b2:∀x:Int,0<=x->x.toNat<iW.length->iW.getD x.toNat []=if(x==1)=true then gU else jB:=λx x1 x2=>by
   have:iW.length=2:=rfl;have:x=0\/x=1:=by omega
   rcases this with rfl|rfl<;>rfl
  rw[b1 _ c1 c2,b2 _ c3 c4];simp[de,cm,aW,bC,jh]<;>rfl
 rw[O k4]at h g ⊢;by_cases k5:k=5
 ·subst k5;simp only[bt]at h g ⊢;unfold qK pB at h g ⊢;simp only at h g ⊢;obtain⟨o2,l,G,r,c1⟩:=MV hs _ _ _ V h;have y:=W o2;rw[g,bO]at r;rw[r]at y;rw[G,cD];refine⟨z5A l,⟨_,_,_,_,_,rfl,.inl rfl,.inr ⟨rfl,rfl⟩,.inr ⟨rfl,rfl⟩,.inr ⟨rfl,rfl⟩,.inr ⟨rfl,rfl⟩⟩,⟨?_,λv hv=>adh v (c1 v hv),by simp[z5A],by simp[z5A],by simp[z5A],by simp[z5A]⟩,?_,c1,?_,eq6 rfl c1⟩
  ·have aw:(aW (aR l)).length<=s.length:=by rw[<-r,bW];omega
   have:∀l:List Val,l.length<=(aW (aR l)).length:=λl=>by
    induction l with
    |nil=>simp
    |cons v l ih=>simp only[aR,aW,aF,au];omega
   have:=this l;show l.length<=_
   omega
  ·conv=>rhs;rw[y]
   rfl
  have aw:(aW (aR l)).length<=s.length:=by rw[<-r,bW];omega
  have:∀l:List Val,l.length<=(aW (aR l)).length:=λl=>by
   induction l with
   |nil=>simp
   |cons v l ih=>simp only[aR,aW,aF,au];omega
  have h2:=this l;have hj:(cm (aR l)).length<=(aW (aR l)).length:=by
   cases l with
   |nil=>simp[aR,cm]
   |cons a l=>simp[aR,cm,aW]
  refine lb1 (z5A l) pk0 ⟨⟨nb0,nb0,nb0,nb0,nb0⟩,nb0,⟨nb0,nb0⟩,nb0,⟨nb0,nb0⟩,nb0,nb0⟩ (λv hv=>ac7 v (c1 v hv) ?_) (by show l.length<=_;omega) ?_ (fJ _) ⟨by simp[z5A,bD],by simp[z5A],by simp[z5A],by simp[z5A,i64]⟩
  ·have:=J1 _ _ (Ao (show v∈l from hv));omega
  show(cm (cK::aR l)).length<=_
  simp only[cm,au];have:cK.length=4:=rfl;omega
 rw[O k5]at h g ⊢;by_cases k6:k=6
 ·subst k6;simp only[bt]at h g ⊢;unfold oq at h g ⊢;simp only at h g ⊢;obtain⟨o7,e7,_⟩:=KV hs h;obtain⟨o6,S,b6⟩:=jE o7;obtain⟨o5,e5,b5⟩:=jE o6;obtain⟨o4,N,c1,c2⟩:=rC o5;obtain⟨o3,G,U⟩:=jE o4;obtain⟨o2,r,b2⟩:=jE o3;have ad:=IZ e7;have y:=W o2;rw[hG (wh _ _)]at e7 S N G;rw[hG (vT _ _ _)]at e5;rw[hG V]at r;rw[g]at e7;rw[e7]at S;rw[S]at e5;rw[e5]at N;rw[N]at G;rw[G]at r;rw[r]at y;refine qe {Inp.z with kind:=7,ver:=_,node:=_,act:=_,frm:=_,too:=_,rt:=_} rfl ?_ rfl rfl rfl rfl rfl (lb0 _ pk0 ⟨⟨nb0,nb0,nb0,nb0,nb0⟩,nb0,⟨nb0,nb0⟩,nb0,⟨b2,U⟩,b5,b6⟩ rfl (bf ad (by omega)) rfl rfl rfl) (eq7 rfl b2 U b5 b6);conv=>rhs;rw[y]
  rw[Uv rfl];unfold wl7;simp only;rw[Int.max_eq_left c1,aeY _ c2];simp[de,cm,aW,bC,jc]<;>rfl
 rw[O k6]at h g ⊢;by_cases k7:k=7
 ·subst k7;simp only[bt]at h g ⊢;have hT:∀u:PS,u.pos<=s.length->(ak (iv s u)).length<=1000000000:=λu hu=>by
   have h1:=e! (iv s u);have h2:=Kc s u hu (by omega);omega
  have aj:=rB s cg t an;unfold d_ at h g ⊢;simp only at h g ⊢;have al:=vT s cg t;have af:(bc s cg t).ok=true->t.ok=true/\s.drop t.pos=spW t++(cg.getD (bN s cg t).toNat []++s.drop (bc s cg t).pos)/\0<=bN s cg t/\(bN s cg t).toNat<4:=λho=>rC ho
  generalize bc s cg t=t1 at*;generalize bN s cg t=c at*;have R:∀x:Str,Go.Lib.validD x=true->bD (ak x)=x:=λx hx=>by
   have:=NL x;rw[hx]at this;simpa using this
  by_cases c2:c=2
  ·subst c2;simp only[bt]at h g ⊢;obtain⟨o1,G,hv⟩:=KV hs h;obtain⟨o2,r,_⟩:=af o1;have ad:=IZ G;have y:=W o2;rw[hG al,g]at G;rw[hG V,G]at r;rw[r]at y;refine⟨z7A 16 (ak (iv s t1)) 0 [],⟨_,_,_,_,_,rfl,.inr ⟨rfl,by simp[z7A,vCs]⟩,.inl rfl,.inr ⟨rfl,rfl⟩,.inr ⟨rfl,rfl⟩,.inr ⟨rfl,rfl⟩⟩,⟨by simp[z7A],by simp[z7A],hT t1 aj.lt,by simp[z7A],by simp[z7A],by simp[z7A]⟩,?_,by simp[z7A],lb7 _ _ _ (by rw[R _ hv];omega) (by simp) (by simp) nb0,eq8 nb0 (by simp)⟩;have N:=R _ hv;conv=>rhs;rw[y]
   generalize iv s t1=x at*;show wl8 _=_
   unfold wl8;rw[afP,N];simp[bC,iI,cg,mz]
  rw[O c2]at h g ⊢;by_cases c1:c=1
  ·subst c1;simp only[bt]at h g ⊢;unfold pH at h g ⊢;obtain⟨o4,L,e5,N,hL⟩:=Po _ _ _ (wh _ _) h;obtain⟨o3,G,n1,n2⟩:=jE o4;obtain⟨o1,S,hv⟩:=KV hs o3;have ad:=IZ S;obtain⟨o2,r,_⟩:=af o1;have y:=W o2;rw[g,bO]at N;rw[hG (w? _ _),N]at G;rw[hG al,G]at S;rw[hG V,S]at r;rw[r]at y;rw[e5,cD];have e7:hH L=cbC (L.map λn=>(max n (ng n),decide (n<0))):=by
    simp only[hH,cbC,List.map_map];rfl
   have e8:2*L.length<=s.length:=by
    have:(aW (L.map Lib.itoa)).length<=s.length:=by rw[<-N,bW];omega
    have h2:∀l:List Int,2*l.length<=(aW (l.map Lib.itoa)).length:=λl=>by
     induction l with
     |nil=>simp
     |cons v l ih=>
      have:=j5.2 (Go.St.Aq true v).1;simp only[da,aW,aF,au];omega
    have:=h2 L;omega
   refine⟨z7A 15 (ak (iv s t1)) (dB s (fY s t1)) (L.map λn=>(max n (ng n),decide (n<0))),⟨_,_,_,_,_,rfl,.inr ⟨rfl,by simp[z7A,vCs]⟩,.inl rfl,.inr ⟨rfl,rfl⟩,.inr ⟨rfl,rfl⟩,.inl (by rw[e7];rfl)⟩,⟨by simp[z7A],by simp[z7A],hT t1 aj.lt,by simp[z7A],by simp[z7A],?_⟩,?_,by simp[z7A],lb7 _ _ _ (by rw[R _ hv];omega) (by simp;omega) (λp hp=>by
    obtain⟨n,hn,rfl⟩:=eK.1 hp;have:=hL n hn;unfold bh at this;unfold i64;simp only;have e:ng n = -n:=by unfold ng;rw[ifn]
    rw[e];omega) ⟨n1,n2⟩,eq8 ⟨n1,n2⟩ (λp hp=>by
    obtain⟨n,hn,rfl⟩:=eK.1 hp;have hb:=hL n hn;rw[L7 hb];refine⟨?_,hb⟩;unfold bh at hb;have e:ng n = -n:=by unfold ng;rw[ifn]
    simp only[e];omega)⟩
   ·show(L.map _).length<=_
    rw[kK];omega
   have e9:=R _ hv;have aS:(L.map λn=>(max n (ng n),decide (n<0))).map dZ=L:=by
    rw[List.map_map];conv=>rhs;rw[<-List.map_id L]
    exact List.map_congr_left λn hn=>L7 (hL n hn)
   conv=>rhs;rw[y]
   generalize iv s t1=x at*;generalize dB s (fY s t1)=cn at*;show wl8 _=_
   unfold wl8;rw[aen];rw[e9,aS];simp[bC,iI,cg,mB,de,cm]
  rw[O c1]at h g ⊢;obtain⟨o2,r,q1,q2⟩:=af h;have y:=W o2;simp only at g;rw[hG V,g]at r;rw[r]at y;have hc:c=0\/c=3:=by omega
  rcases hc with rfl|rfl
  ·refine qe (z7A 14 [] 0 []) rfl ?_ rfl rfl rfl rfl rfl (lb7 _ _ _ (by simp[bD]) (by simp) (by simp) nb0) (eq8 nb0 (by simp));conv=>rhs;rw[y]
   rfl
  refine qe (z7A 17 [] 0 []) rfl ?_ rfl rfl rfl rfl rfl (lb7 _ _ _ (by simp[bD]) (by simp) (by simp) nb0) (eq8 nb0 (by simp));conv=>rhs;rw[y]
  rfl
 rw[O k7]at h g;have:=ao h;omega
variable {a:List (LA)}
theorem xw{b:List (LA)}(h1:Sl a A)(h2:Sl b A):a=b:=by
 rcases h1 with rfl|⟨rfl,rfl⟩
 ·rcases h2 with h|⟨h,_⟩
  ·cases h;rfl
  cases h
 rcases h2 with h|⟨_,rfl⟩
 ·cases h
 rfl
variable {β:Type}
theorem BE{f:α->β}(g:∀a b,f a=f b->a=b):∀ {l m:List α},l.map f=m.map f->l=m
 |[],[],_=>rfl
 |a::l,b::m,h=>by
  simp only[da,tW]at h;rw[g a b h.1,BE g h.2]
theorem OT{m:List Int}(h:rnC l=rnC m):l=m:=BE (λa b h=>by simpa[az]using h) h
theorem adD{l m:List (Int×Int)}(h:chC l=chC m):l=m:=BE (λa b h=>by
 simp only[tW,AV.int.injEq,true_and,and_true]at h;exact Prod.ext h.1 h.2) h
variable {m:List (Int×Bool)}
theorem aci{l:List (Int×Bool)}(h:cbC l=cbC m):l=m:=BE (λa b h=>by
 simp only[tW,AV.int.injEq,AV.bool.injEq,true_and,and_true]at h;exact Prod.ext h.1 h.2) h
mutual
theorem aeb:∀(v w:Val),vC v=vC w->v=w
 |.mk k n s l,.mk k' n' s' l',h=>by
  simp only[vC,tW,AV.int.injEq,AV.str.injEq,AV.psl.injEq,true_and,and_true]at h;obtain⟨rfl,rfl,rfl,h⟩:=h;rw[CG l l' h]
theorem CG:∀(l m:List Val),vCs l=vCs m->l=m
 |[],[],_=>rfl
 |[],b::m,h=>by simp[vCs]at h
 |a::l,[],h=>by simp[vCs]at h
 |a::l,b::m,h=>by
  simp only[vCs,tW]at h;rw[aeb a b h.1,CG l m h.2]
end
theorem BS(h1:InC i cs)(h2:InC j cs):i=j:=by
 obtain⟨A,T,CT,CR,C,rfl,hA,hT,y,G,hC⟩:=h1;obtain⟨A',T',CT',CR',C',e,N,R,g,r,S⟩:=h2;simp only[inG,tW,AV.int.injEq,AV.str.injEq,AV.bool.injEq,true_and,and_true]at e;obtain⟨e1,e2,e3,e4,e5,e6,e7,e8,e9,U,V,W,ad,af,aj,rfl,al,an,ao,ar,av,aw,aS,rfl,rfl,rfl,aT,a1,a6,a7,a8,ba,bb,bd,bk,rfl,bp⟩:=e;have f1:=CG _ _ (xw hA N);have f2:=OT (xw hT R);have f3:=OT (xw y g);have f4:=adD (xw G r);have f5:=aci (xw hC S);cases i;cases j;simp only at*;subst e1 e2 e3 e4 e5 e6 e7 e8 e9 U V W ad af aj al an ao ar av aw aS aT a1 a6 a7 a8 ba bb bd bk bp f1 f2 f3 f4 f5;rfl
open Go.Eng Go.St Go.RowKit
theorem wc(l:List Str)(h:∀w∈l,bS w)(k:Nat):bS (l.getD k []):=by
 by_cases g:k<l.length
 ·exact h _ (cQ (ik g))
 rw[gF,j_ (by omega)];exact iK
theorem aau(l:List Str)(h:∀w∈l,bS w)(k:Int):bS (ll l k):=by
 unfold ll;split
 ·exact wc l h _
 exact iK
theorem A8{a:Nat}(h:11<=a)(h2:a<256):UInt8.ofNat a≠10:=λe=>by
 have:=congrArg UInt8.toNat e;rw[UInt8.toNat_ofNat']at this;have g:(10:UInt8).toNat=10:=rfl;omega
theorem aae(r:qL n)(y:32<=n):bS (e_ n):=by
 obtain⟨m,rfl⟩:=kL r.1;have G:=r.2;rw[nR];unfold Lib.encodeRune;by_cases h1:m<128
 ·rw[Lib.encodeRuneZ_one (by omega) (by omega)];intro c g;simp only[da,h_,j6,Nat.toUInt8]at g;subst g;exact A8 (by omega) (by omega)
 by_cases h2:m<2048
 ·rw[Lib.encodeRuneZ_two (by omega) (by omega)];intro c g;simp only[da,h_,cE,jN,lG,Nat.toUInt8]at g;rcases g with rfl|rfl<;>exact A8 (by omega) (by omega)
 by_cases N:m<65536
 ·rw[Lib.encodeRuneZ_three (by omega)];intro c g;simp only[da,h_,cE,jN,lG,Nat.toUInt8]at g;rcases g with rfl|rfl|rfl<;>exact A8 (by omega) (by omega)
 rw[Lib.encodeRuneZ_four (by omega) (by omega)];intro c g;simp only[da,h_,cE,jN,lG,Nat.toUInt8]at g;rcases g with rfl|rfl|rfl|rfl<;>exact A8 (by omega) (by omega)
theorem Mx(m:Int):∀k,bS (ff m k)
 |0=>iK
 |k+1=>by
  unfold ff;refine br (Mx m k) ?_;split
  ·exact br (wc bl (by decide) k) (by decide)
  exact iK
theorem NI(k m:Int):bS (chF k m).1:=by
 unfold chF;by_cases h:ga k m=true
 ·rw[Z h];rw[kQ]at h;simp only[ck]at h;show bS (ff m 4++eQ k)
  refine br (Mx m 4) ?_;unfold eQ;split
  ·exact wc dS (by decide) _
  split
  ·decide
  exact aae ⟨by omega,by omega⟩ (by omega)
 rw[O h];exact iK
mutual
theorem T!:∀v:Val,bS (cI v)
 |.mk k n s l=>by
  simp only[cI];by_cases k1:k=1
  ·rw[Z k1];exact Al n
  rw[O k1];by_cases k2:k=2
  ·rw[Z k2];split<;>decide
  rw[O k2];by_cases k3:k=3
  ·rw[Z k3];exact qg s
  rw[O k3];by_cases k4:k=4
  ·rw[Z k4];exact p9 (by decide) (br (Kk (JO l)) (by decide))
  rw[O k4];exact iK
theorem JO:∀l:List Val,∀w∈aR l,bS w
 |[],w,h=>by simp[aR]at h
 |v::l,w,h=>by
  simp only[aR]at h;rcases cE.1 h with rfl|h
  ·exact T! v
  exact JO l w h
end
mutual
theorem MC:∀v:Val,bS (eU v)
 |.mk k n s l=>by
  simp only[eU];by_cases k1:k=1
  ·rw[Z k1];exact Al n
  rw[O k1];by_cases k2:k=2
  ·rw[Z k2];split<;>decide
  rw[O k2];by_cases k3:k=3
  ·rw[Z k3,sF];exact qg s
  rw[O k3];exact p9 (by decide) (br (LX true l) (by decide))
theorem LX:∀(b:Bool) (l:List Val),bS (cZ b l)
 |_,[]=>iK
 |b,v::l=>by
  simp only[cZ];refine br ?_ (br (MC v) (LX false l));split<;>decide
end
theorem Kb(g:Int):∀k,bS (jv g k)
 |0=>iK
 |k+1=>by
  unfold jv;split
  ·exact wc dY (by decide) k
  exact Kb g k
theorem ZM:∀l:List Int,bS (me l)
 |[]=>iK
 |n::l=>p9 (by decide) (br (Al n) (ZM l))
theorem oW(l:List Int):bS (cz l):=by
 unfold cz;split
 ·exact ZM l
 decide
theorem M_:∀(l:List Val) (acc:Str),bS acc->bS (prA acc l)
 |[],acc,h=>h
 |v::l,acc,h=>by
  unfold prA;split
  ·exact iK
  exact M_ l _ (br h (p9 (by decide) (MC v)))
theorem Om:∀(l:List (Int×Bool)) (acc:Str),bS acc->bS (prC acc l)
 |[],acc,h=>h
 |p::l,acc,h=>by
  unfold prC;split
  ·exact iK
  exact Om l _ (br h (oW _))
theorem Bn(b:Bool)(x y:Str)(g:bS x)(r:bS y):bS (if b=true then x else y):=by
 split
 ·exact g
 exact r
theorem ZR(i:Inp):bS (bB i):=by
 unfold bB
 (repeat' split)
 ·exact br (br (br (by decide) (aau fx (by decide) _)) (by decide)) (p8 _)
 ·exact br (br (br (by decide) (NI _ _)) (by decide)) (p8 _)
 ·exact br (by decide) (p8 _)
 ·exact br (by decide) (p8 _)
 ·exact br (br (br (br (br (by decide) (Bn _ _ _ (by decide) (by decide))) (by decide)) (Bn _ _ _ (by decide) (by decide))) (by decide)) (p8 _)
 ·exact Kk λw hw=>by
   rcases cE.1 hw with rfl|hw
   ·decide
   exact JO _ w hw
 ·exact br (br (br (br (br (br (br (by decide) (p8 _)) (by decide)) (Kb _ _)) (by decide)) (p8 _)) (by decide)) (qg _)
 ·refine br (by decide) ?_;unfold kG
  (repeat' split)
  ·decide
  ·decide
  ·exact br (by decide) (qg _)
  exact br (br (br (by decide) (qg _)) (by decide)) (p8 _)
 exact iK
theorem aay(i:Inp):bS (prT i):=by
 unfold prT
 (repeat' split)
 ·unfold pr1;split
  ·exact iK
  exact br (br (by decide) (wc gz (by decide) _)) (oW _)
 ·exact br (br (by decide) (NI _ _)) (oW _)
 ·exact br (by decide) (oW _)
 ·exact br (by decide) (oW _)
 ·exact br (br (br (br (by decide) (Bn _ _ _ (by decide) (by decide))) (by decide)) (Bn _ _ _ (by decide) (by decide))) (oW _)
 ·exact M_ _ _ (by decide)
 ·unfold pr7;rw[sF];exact br (br (br (br (br (br (by decide) (oW _)) (by decide)) (Kb _ _)) (oW _)) (by decide)) (qg _)
 ·unfold pr8;rw[sF]
  (repeat' split)
  ·decide
  ·decide
  ·exact br (by decide) (qg _)
  exact Om _ _ (br (br (by decide) (qg _)) (oW _))
 exact iK
open Go.Eng Go.St
def jOf(s:Str):Inp:= @dite _ (∃j,InC j (fN s).1) (Classical.propDecidable _) (λh=>Classical.choose h) (λ_=>Inp.z)
theorem F5(h:InC j (fN s).1):jOf s=j:=by
 have g:∃j,InC j (fN s).1:=⟨j,h⟩;unfold jOf;rw[dif_pos g];exact BS (Classical.choose_spec g) h
theorem r!(h:i.args.all okE=true):mS i i=true:=by
 unfold mS;rw[h,fa rfl];rfl
def np(i:Inp):Prop:=gD (bB i)=true/\mS i (jOf (bB i))=true
def zw(i:Inp):Prop:=oI (prT i)=true/\dq (rIn (prT i)) i=true
theorem ab_(h1:(bB i).length<=38000000)(h2:(prT i).length<=38000000):(np i↔zw i)/\(np i->bB i=prT i):=by
 have G:np i->zw i/\bB i=prT i:=by
  rintro⟨p1,p2⟩;obtain⟨j,b1,b2,N,R,S,y⟩:=JY (ZR i) h1 p1;rw[F5 b1]at p2;unfold mS at p2;rw[aI]at p2;have e:=sG p2.2;subst e;refine⟨?_,y.symm⟩;unfold zw;rw[y];obtain⟨q1,q2⟩:=L6 (bB i);refine⟨by rw[<-q1];exact p1,fa ?_⟩;have r:=Ic (s:=bB i) (by omega);rw[<-q2 p1]at r;exact BS r.1 b1
 have a2:zw i->np i:=by
  rintro⟨p1,p2⟩;obtain⟨q1,q2⟩:=L6 (prT i);have g:gD (prT i)=true:=by rw[q1];exact p1
  obtain⟨j,b1,b2,N,R,S,y⟩:=JY (aay i) h2 g;have r:=Ic (s:=prT i) (by omega);rw[<-q2 g]at r;have e:=sG p2;rw[e]at r;have U:=BS r.1 b1;subst U;unfold np;rw[N];refine⟨g,?_⟩;rw[F5 b1];refine r! ?_;rw[fi];exact λv V=>eD (R v V)
 exact⟨⟨λh=>(G h).1,a2⟩,λh=>(G h).2⟩
open Go.RowKit Tryz
def nr:Str->List Inp->Str×Int
 |acc,[]=>(acc,0)
 |acc,i::r=>if pd (np i)=true then nr (acc++(bB i++[10])) r else([],1)
def qO(l:List Inp):Str×Int:=if 200<l.length then([],2)else nr [] l
theorem Rp:∀(L:List Inp) (acc:Str),(∀i∈L,(bB i).length<=38000000/\(prT i).length<=38000000)->nr acc L=oz acc L
 |[],acc,_=>rfl
 |i::L,acc,h=>by
  have hi:=h i (by simp);obtain⟨h1,h2⟩:=ab_ hi.1 hi.2;unfold nr oz;by_cases hp:np i
  ·rw[km hp,Z rfl,Z (show oI (prT i)=true/\dq (rIn (prT i)) i=true from h1.1 hp),h2 hp];exact Rp L _ λj g=>h j (by simp[g])
  rw[bI hp,O (by simp),O (show ¬(oI (prT i)=true/\dq (rIn (prT i)) i=true)from λe=>hp (h1.2 e))]
theorem aaR(L:List Inp)(h:∀i∈L,(bB i).length<=38000000/\(prT i).length<=38000000):qO L=jL L:=by
 unfold qO jL;rw[Rp L [] h]
inductive Y9(h:AH)(A:AV)(L:List Inp)(R:Str×Int):Nat->List AV->AH->Prop
 |mk {m:Nat} {h':AH} (i:Nat) (acc:Str):i+m=L.length->nr acc (L.drop i)=R->acc.length<=38000001*i->BD h h' h.nx acc->Y9 h A L R m [.ptr h.nx 0,A,I L.length,I i] h'
theorem abg(h:AH)(A:AV)(L:List Inp)(y:List (LA))(hg:GJ h)(hx:Lst h A y/\vk L y/\∀i∈L,LB i/\InB i/\(bB i).length<=38000000):ab prog 17 [A] h (.tup [.str (qO L).1,I (qO L).2]) h:=by
 obtain⟨hA,⟨aS,aT⟩,hB⟩:=hx;refine dj (λH=>kU (.str _) (.int _ _)) (C17 ?_);have l1:∀h:AH,bn h A=some (I L.length,h):=λh=>by rw[hA.len,aS]
 by_cases S:(200:Int)<L.length
 ·have e:qO L=([],2):=by unfold qO;rw[ifp]
  rw[e];simp[g17,l1,S];exact Fr.refl h
 have e:qO L=nr [] L:=by unfold qO;rw[ifn]
 rw[e];have a6:∀h:AH,kX h (.nB 85 [.dh,.D]) []=some (.ptr h.nx 0,h.add (.typ 171 [.dh,.D])):=λh=>rfl
 simp[g17,l1,S];rw[a6];simp[l1];refine⟨Y9 h A L (nr [] L),L.length,.mk 0 [] (by omega) rfl (by simp) (BD.start (Fr.refl h)),?_⟩;generalize nr [] L=R at*;clear e;rintro m vs r ⟨i,acc,cc,G,cd,b⟩;have cf:=hg.fr b.fr;cases m with
 |zero=>
  obtain rfl:i=L.length:=by omega
  rw[tT]at G;simp[Gi,FF];unfold Gj;simp[];refine ae6 b λh2 f2=>?_
  subst G;simp[nr];exact f2
 |succ m=>
  have h1:i<L.length:=by omega
  have a7:(i:Int)<L.length:=by omega
  have g1:y[i]?=some (y[i]'(by omega)):=by simp
  have q1:=aT i L[i] _ (by simp) g1;have hb:=hB _ (gG h1);rw[ig h1]at G;simp only[nr]at G;generalize y[i]'(by omega)=c at*;generalize L[i]=x at*;obtain⟨p,hp⟩:=hA.at_ i c g1;have p1:=hp r b.fr;have a8:=p1.1;have ba:=p1.2;have W:=q1.len;have bb:aM c=true:=by
   obtain⟨A,T,CT,CR,C,rfl,hA,hT,bd,bk,hC⟩:=q1;have a0:=dJ hA;have a1:=dJ hT;have a2:=dJ bd;have a3:=dJ bk;have a4:=dJ hC;simp only[inG,aM,nE,a0,a1,a2,a3,a4];rfl
  obtain⟨cr,hZ⟩:∃cr:List AV,cr=zIn:=⟨_,rfl⟩;have af:cr=z37:=hZ;have bp:cr.length=37:=by rw[hZ];rfl
  have aj:∀g:List AV,g.length=37->aP cr 0 g=some g:=λg h=>iH (by rw[h,bp])
  have U:∀g:List AV,g.length=37->cut g 0 37=some g:=λg h=>by
   have:=cS (α:=g) (b:=[]) (n:=37) h;rwa [bO]at this
  have bx:=aj c W;have al:=U c W;unfold Gi;rw[<-af];simp[a7,a8,ba,W,bb,bx,al];have b2:=b.aY (h2:=(r.add (.cells cr)).set r.nx (.cells c)) (by simp) λj hj=>by rw[gsn,gan]
  have bY:((r.add (.cells cr)).set r.nx (.cells c)).E r.nx=some c:=cse;have cl:r.nx<((r.add (.cells cr)).set r.nx (.cells c)).nx:=by simp
  generalize(r.add (.cells cr)).set r.nx (.cells c)=h2 at*;generalize r.nx=k6 at*;have an:=hg.fr b2.fr;refine sD (aa9 x c an ⟨q1,hb.1⟩) ?_;have b0:=hb.2.2;have ao:=ZR x;refine sD (Qk (bB x) an (by omega)) ?_;have N:pd (np x)=(gD (bB x)&&mS x (jOf (bB x))):=by
   by_cases hp:np x
   ·rw[km hp,hp.1,hp.2];rfl
   rw[bI hp];unfold np at hp;cases h1:gD (bB x)
   ·rfl
   cases h2:mS x (jOf (bB x))
   ·rfl
   exact absurd ⟨h1,h2⟩ hp
  have b4:gD (bB x)=true->InC (jOf (bB x)) (fN (bB x)).1:=λhp=>by
   obtain⟨j,b1,_⟩:=JY ao b0 hp;rw[F5 b1];exact b1
  have V:=Mc (bB x);rw[N]at G;clear N;generalize bB x=s at*;generalize(fN s).1=g at*;generalize jOf s=j at*;generalize gD s=ok at*;have ad:=V.len;have ar:=V.one;have b6:=aj g ad;have b7:=U g ad;unfold Up;rw[<-af];simp[ad,ar,b6];have b3:=b2.aY (h2:=(h2.add (.cells cr)).set h2.nx (.cells g)) (by simp) λj hj=>by rw[gsn,gan]
  have ca:((h2.add (.cells cr)).set h2.nx (.cells g)).E h2.nx=some g:=cse;have av:((h2.add (.cells cr)).set h2.nx (.cells g)).E k6=some c:=by rw[csn,can];exact bY
  generalize(h2.add (.cells cr)).set h2.nx (.cells g)=h3 at*;generalize h2.nx=k8 at*;have cb:=hg.fr b3.fr;refine⟨λvs h4=>vs=[.ptr h.nx 0,.str s,A,I L.length,I i,.bool (!(ok&&mS x j))]/\h4=h3,?_,?_⟩
  ·have aw:=Nl ao;cases N:ok
   ·simp[GF,HT]
   simp[GF];refine sD (I? s trivial) ?_;rw[aw];simp[av,ca,al,b7];refine sD (aaZ x j c g cb ⟨q1,b4 N,hb.2.1⟩) ?_;simp[HT]
  rintro vs h4 ⟨rfl,rfl⟩;cases hd:(ok&&mS x j)
  ·rw[hd,O (by simp)]at G;simp[E7,FF];subst G;exact⟨⟨rfl,rfl⟩,b3.fr⟩
  rw[hd,Z rfl]at G;have k2:=aU (h:=h4) (a:=s) (b:=[10]) (by simp;omega);simp[E7,k2];refine ze (s++[10]) b3 (by simp) (by simp;omega) λh5 cn b5=>?_
  simp(disch:=first|go_size|fail)[];exact⟨m,by omega,.mk (i+1) (acc++(s++[10])) (show i+1+m=L.length by omega) G (by simp only[au,dP];omega) b5⟩
set_option maxRecDepth 100000
section
variable (x:AX)(c4 c6:Rec)(j e v4 T c o v8 v9 p a b i z A t d q B C H u J L M v w s:AV)(h:AH)(Q:QT)(k:NT)(K:KT)
def II:=(wI (Ar .lss T (Le j)) (wI (Un .not (Ca 16 [Ln 37 (Ix 37 j T)])) (K .ret [j,e,T] [j,e,.bool true]) (Ar .add T (xi 1) λf=>K .nrm [j,e,f] [j,e,.undef])) (K (.exit 0) [j,e,T] [j,e,.undef])) h
def XA:=(wS (Ar .neq v8 p) λm=>Pk m xt (ArG false m .neq (qm false m o) (qm false m v9)) λB=>k [c,B]) h
def X6:=(StE 1 (FaY 4 .n M) L λ_ _ h=>(wK c4 c6 <| k [c,a,b]) h) h
def X0:=(FaY 4 .n (FaY 22 .n J) λv83 _=>LdY .n v83 λv84 c4=>CaY 8 [MvY .n c,yi 2] λv86 c6=>ArY .add .n v84 v86 λL _=>FaY 22 .n (IxY 37 .n u (yi 1)) λM _=>(X6 c4 c6 c a b L M · k)) h
def Xv(r:Nat)(g G c4:Rec)(c a b y N P:AV)(h:AH)(k:NT):=(CaY 8 [P,yi 2] λv75 c6=>ArY .add .n N v75 λv76 _=>FaY 0 .n (FaY 16 .n (IxY 37 .n y (yi 0))) λv79 _=>StE 1 v79 v76 λ_ _ h=>(wK c4 c6 <| wdR 12 λr=>MvY .n b λu _=>IxY 37 .n u (yi 1) λJ _=>(X0 c a b u J · k)) h) h
def XX(r:Nat)(g G V c3 c4 U:Rec)(c a b R S:AV)(h:AH)(k:NT):=(StE 1 (FaY 9 .n S) R λ_ _ h=>(wK c3 U <| wdR 12 λr=>MvY .n b λy g=>IxY 37 .n y (yi 0) λv70 G=>FaY 0 .n (FaY 16 .n v70) λv72 _=>LdY .n v72 λN c4=>MvY .n c λP _=>(Xv r g G c4 c a b y N P · k)) h) h
def I2:=(wI H (wdR 10 λr=>MvY .n b λU c0=>IxY 37 .n U (yi 1) λv61 c1=>FaY 9 .n v61 λv62 c2=>LdY .n v62 λv63 c3=>MvY .n c λv64 c4=>CaY 8 [v64,yi 2] λv65 c5=>ArY .add .n v63 v65 λR _=>IxY 37 .n U (yi 1) λS _=>(XX r c0 c1 c2 c3 c4 c5 c a b R S · k)) (k [c,a,b])) h
def XE:=(wS (Ar .neq v8 p) λl=>Pk l xt (ArG false l .neq (qm false l o) (qm false l v9)) λs=>k [c,a,s]) h
def X3:=(wI s (K .ret [c,a] [.bool false]) (Ar .add a (xi 1) λv51=>K .nrm [c,v51] [.undef])) h
def XI:=(Ex 0 w λv99=>Ex 1 w λV=>wJ (XE c o v8 v99 V a) (nJ3 X3 K)) h
def XZ:=(Ex 0 v λv94=>Ex 1 v λv95=>Ca 10 [b] λw=>(XI c v94 v95 a w · K)) h
def Xw:=(Ca 17 [b] λv=>(XZ c a b v · K)) h
def XP:=(Ca 9 [c] λv55=>Bs 37 2 [I 0,I 0,I 0,I 0,I 0,I 0,I 0,I 0,I 0,I 0,I 0,I 0,.bool false,.bool false,I 0,.D,I 0,I 0,I 0,I 0,I 0,.str [],I 0,.D,.D,.D,I 0,I 0,.bool false,I 0,I 0,I 0,I 0,I 0,I 0,.D,I 0,I 0,I 0,I 0,I 0,I 0,I 0,I 0,I 0,I 0,I 0,I 0,I 0,.bool false,.bool false,I 0,.D,I 0,I 0,I 0,I 0,I 0,.str [],I 0,.D,.D,.D,I 0,I 0,.bool false,I 0,I 0,I 0,I 0,I 0,I 0,.D,I 0] [(0,37,C),(37,37,v55)] λv56=>Ar .eql (Ca 8 [c,xi 3]) (xi 0) λH=>wJ (I2 c a v56 H) (nJ3 Xw K)) h
def IK:=(wI (Ar .lss a (xi 4)) (Ca 9 [c] λC=>(XP c a C · K)) (K (.exit 2) [c,a] [.undef])) h
def IH:=(Ca 15 [] λW=>Q W) h
def X9:=(wX x ((IH · Q)) [(2,(IH · Q))] (Q v4)) h
def W9:=(wI B (Q (.bool false)) (wL (nL2 IK) [c,I 0] (nX1 X9 Q))) h
def X4:=(Ex 0 d λq=>Ex 1 d λv39=>wJ (XA c o v8 q v39) (nJ2 W9 Q)) h
def Ye:=(Ex 0 t λv33=>Ex 1 t λv34=>Ca 10 [j] λd=>(X4 c v33 v34 d · Q)) h
def HB:=(Ca 7 [e] λg=>Ca 17 [j] λt=>(Ye j g t · Q)) h
def FJ:=(wX x ((HB j e · Q)) [(0,(HB j e · Q))] (Q v4)) h
def g4:=(wI (Ar .gtr (Le j) (xi 6)) (Q (.bool true)) (wL (nL3 II) [j,e,I 0] (nX3 FJ Q))) h
def qp:=(Pk d (ArG true d .leq (LsG true d (LdG true d (FaG true d 5 q))) (xi 60)) xf λm=>Q m) h
def qo:=(wS A λg=>wS (Pk g (ArG true g .leq (LeG true g (LdG true g (FaG true g 1 (FaG true g 2 (FaG true g 22 e))))) (xi 30)) xf) λd=>FaG true d 16 e λq=>(qp d q · Q)) h
def qq:=(wS (Pk i z xf) λf=>Pk f (ArG true f .leq (LeG true f (LdG true f (FaG true f 0 (FaG true f 2 (FaG true f 22 e))))) (xi 30)) xf λA=>(qo e A · Q)) h
def qB:=(wS (Pk o (ArG true o .leq (LeG true o p) (xi 30)) xf) λi=>ArG true i .leq (LeG true i (LdG true i (FaG true i 13 (FaG true i 22 e)))) (xi 20) λz=>(qq e i z · Q)) h
def g16:=(Bx j λe=>wS (Ar .leq (Le (Ld (Fa 15 e))) (xi 5)) λo=>LdG true o (FaG true o 1 (FaG true o 22 e)) λp=>(qB e o p · Q)) h
end
section
variable {a b:AV}{h:AH}{Q:QT}
theorem C4(g:g4 a b h Q):ah prog 4 [a,b] h Q:=ax [(6,.l [0,1,5] [0,1,4]),(17,.jn [6,47]),(22,.l [6,11] [4]),(28,.jn [6,11,12]),(34,.jn [6,11,108])] func4 g
theorem C16(g:g16 a h Q):ah prog 16 [a] h Q:=ax [] func16 g
end
def smB(i:Inp):Bool:=decide (i.args.length<=5/\i.t.length<=30/\i.cls.length<=20/\i.ct.length<=30/\i.cr.length<=30/\i.rt.length<=60)
theorem adn(i:Inp)(hx:i.rt.length<=maxLen):ab prog 16 [.agg (inC i)] h (.bool (smB i)) h:=by
 refine dj (λ_=>.bool _) (C16 ?_);have g:∀ {b:Bool},smB i=b->smB i=b:=λe=>e
 have i15:(inC i)[15]?=some (.psl (vCs i.args)):=rfl;have i23:(inC i)[23]?=some (.psl (rnC i.t)):=rfl;have i24:(inC i)[24]?=some (.psl (rnC i.ct)):=rfl;have i25:(inC i)[25]?=some (.psl (chC i.cr)):=rfl;have i35:(inC i)[35]?=some (.psl (cbC i.cls)):=rfl;have i21:(inC i)[21]?=some (.str i.rt):=rfl;have r:(vCs i.args).length=i.args.length:=gP _;have G:(rnC i.t).length=i.t.length:=by simp[rnC]
 have l3:(rnC i.ct).length=i.ct.length:=by simp[rnC]
 have U:(chC i.cr).length=i.cr.length:=by simp[chC]
 have l5:(cbC i.cls).length=i.cls.length:=by simp[cbC]
 have W:cL h (.agg (inC i))=some (.ptr h.nx 0,h.add (.cells (inC i))):=rfl;unfold g16;simp only[lp,iT];rw[W];have fr:Fr h (h.add (.cells (inC i))):=(Fr.refl h).add _;have d1:(h.add (.cells (inC i))).E h.nx=some (inC i):=cas;unfold smB at g ⊢;generalize h.add (.cells (inC i))=h1 at*;generalize inC i=X at*;by_cases q1:i.args.length<=5
 rotate_left
 ·have r1:¬(i.args.length:Int)<=5:=by omega
  rw[g (dx (by simp only[q1,dm,cB]))];simp[d1,i15,r,qB,qq,qo,qp,r1];exact fr
 have r1:(i.args.length:Int)<=5:=by omega
 by_cases q2:i.t.length<=30
 rotate_left
 ·have y:¬(i.t.length:Int)<=30:=by omega
  rw[g (dx (by simp only[q2,dm,du,cB]))];simp[d1,i15,i23,r,G,qB,qq,qo,qp,r1,y];exact fr
 have y:(i.t.length:Int)<=30:=by omega
 by_cases q3:i.cls.length<=20
 rotate_left
 ·have N:¬(i.cls.length:Int)<=20:=by omega
  rw[g (dx (by simp only[q3,dm,du,cB]))];simp[d1,i15,i23,i35,r,G,l5,qB,qq,qo,qp,r1,y,N];exact fr
 have N:(i.cls.length:Int)<=20:=by omega
 by_cases q4:i.ct.length<=30
 rotate_left
 ·have R:¬(i.ct.length:Int)<=30:=by omega
  rw[g (dx (by simp only[q4,dm,du,cB]))];simp[d1,i15,i23,i24,i35,r,G,l3,l5,qB,qq,qo,qp,r1,y,N,R];exact fr
 have R:(i.ct.length:Int)<=30:=by omega
 by_cases q5:i.cr.length<=30
 rotate_left
 ·have S:¬(i.cr.length:Int)<=30:=by omega
  rw[g (dx (by simp only[q5,dm,du,cB]))];simp[d1,i15,i23,i24,i25,i35,r,G,l3,U,l5,qB,qq,qo,qp,r1,y,N,R,S];exact fr
 have S:(i.cr.length:Int)<=30:=by omega
 by_cases q6:i.rt.length<=60
 rotate_left
 ·have V:¬(i.rt.length:Int)<=60:=by omega
  rw[g (dx (by simp only[q6,du,cB]))];simp[d1,i15,i23,i24,i25,i35,i21,r,G,l3,U,l5,qB,qq,qo,qp,r1,y,N,R,S,V];exact fr
 have V:(i.rt.length:Int)<=60:=by omega
 rw[g (eD ⟨q1,q2,q3,q4,q5,q6⟩)];simp[d1,i15,i23,i24,i25,i35,i21,r,G,l3,U,l5,qB,qq,qo,qp,r1,y,N,R,S,V];exact fr
structure BW(i:Inp):Prop where
 lb:LB i
 ib:InB i
 pb:PrB i
 w:(bB i).length<=38000000
 p:(prT i).length<=38000000
theorem Mi(i:Inp)(g:LB i)(W:i.t.length<=30)(hc:i.cls.length<=20)(hr:i.rt.length<=60)(y:(cm (cK::aR i.args)).length<=38000000):(bB i).length<=38000000:=by
 have h1:=Mz fx (i.pk-1) (by decide);have h2:=jC _ g.n1;have G:=jC [i.time] (by simpa using g.tm);have N:=jC _ g.sz;have R:=jC [i.scale] (by simpa using g.sc);have S:=jC _ g.ac;have U:=jC _ g.ft;have h8:=wR i.key i.cH;have h9:=uo i.act 9;have ha:=pa i.rt;have hb:=n8 i.rt;have hd:=nI i.t;have he:=pa (bD i.t);have hf:=n8 (bD i.t);have r:∀n∈i.dE::i.cls.map dZ,i64 n:=λn r=>by
  rcases cE.1 r with rfl|r
  ·exact g.b8.ct
  obtain⟨p,hp,rfl⟩:=eK.1 r;exact J0 (g.b8.cl p hp)
 have V:=jC _ r;have k1:(if i.dv=true then iy else kl).length<=10:=by split<;>decide
 have k2:(if i.high=true then gU else jB).length<=10:=by split<;>decide
 simp only[aF,bz,kK]at h2 G N R S U V;unfold bB
 (repeat' split)
 ·simp only[wl1,au,aF,bz];omega
 ·simp only[wl2,au,aF,bz];omega
 ·simp only[wl3,au,aF,bz];omega
 ·simp only[wl4,au,aF,bz];omega
 ·simp only[wl5,au,aF,bz];omega
 ·exact y
 ·simp only[wl7,wQ,au,aF,bz];omega
 ·unfold wl8 kG;have c1:lN.length=5:=rfl;have c2:kj.length=6:=rfl
  (repeat' split)<;>simp only[wQ,au,aF,bz]<;>omega
 simp
theorem Pe(i:Inp)(V:i.t.length<=30)(W:i.cls.length<=20)(hr:i.rt.length<=60)(g:(prA [97,114,103,115] i.args).length<=38000000):(prT i).length<=38000000:=by
 have h1:=PL i.pk.toNat;have h2:=fB [i.pid,i.px,i.py,i.pt,i.pw];have r:=fB [i.time];have y:=fB [i.sw,i.sh];have G:=fB [i.scale];have N:=fB [i.ver,i.node];have R:=fB [i.frm,i.too];have h8:=wR i.key i.cH;have h9:=uo i.act 9;have ha:=rE i.rt;have hd:=nI i.t;have he:=rE (bD i.t);have S:=fB [i.dE];have U:=Em i.cls ((lM++gy (bD i.t))++cz [i.dE]);have k1:(if i.dv=true then iy else kl).length<=10:=by split<;>decide
 have k2:(if i.high=true then gU else jB).length<=10:=by split<;>decide
 have e1:A1.length=13:=rfl;have e2:AD.length=14:=rfl;have e3:uv.length=15:=rfl;have e4:lM.length=15:=rfl;simp only[au,aF,bz]at h2 r y G N R S U;unfold prT
 (repeat' split)
 ·unfold pr1;split
  ·simp
  simp only[au,aF,bz];omega
 ·simp only[pr2,au,aF,bz];omega
 ·simp only[pr3,au,aF,bz];omega
 ·simp only[pr4,au,aF,bz];omega
 ·simp only[pr5,au,aF,bz];omega
 ·exact g
 ·simp only[pr7,au,aF,bz];omega
 ·unfold pr8
  (repeat' split)
  ·omega
  ·omega
  ·simp only[au];omega
  omega
 simp
