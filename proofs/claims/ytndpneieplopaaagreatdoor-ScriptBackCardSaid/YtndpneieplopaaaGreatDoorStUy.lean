/- The program's line of an input, as a function. -/
import Derived.Test.YtndpneieplopaaaGreatDoorStUn
set_option linter.unusedSimpArgs false
set_option linter.unusedVariables false
noncomputable section
namespace Go.Proofs.YtndpneieplopaaaGreatDoor
open Go.Eng Go.St Go.RowKit Tryz
def qL:List (QE prog):=[e57,e61,e64,e65,e66,e67,e68,e69,e70,e71]
theorem aoZ(l:List Int)(h:∀n∈l,i64 n):(zA l).length<=22*l.length:=by
 have h1:=aqy l h;have h2:=apE (l.map Lib.itoa);exact ane h2 h1
theorem l_3{h h1:AH}(i:Inp)(hg:GJ h)(fr:Fr h h1)(hB:LB i):atN (tb qL) (I i.time) h1 (PRQ h (wl3 i)):=by
 have hn:∀m∈[i.time],i64 m:=by simpa using hB.tm
 unfold wl3;generalize i.time=n at*;have haf:bW [I 0] [(0,1,I n)]=some [I n]:=rfl;have hl:=aoZ [n] hn;have fr2:=fr.add (.cells [I n]);have hg2:=hg.fr fr2;unfold atN qL;simp[haf];have hns:=ur h1 n;generalize h1.add (.cells [I n])=h2 at*;refine aqM _ [n] hg2 ⟨hns,by simp,hn⟩ ?_;have k1:=bQ (h:=h2) (a:=[116,105,109,101,32]) (b:=zA [n]) (by simp at hl ⊢; omega);generalize zA [n]=N at*;try simp only[anB,anx]at k1
 simp[k1];exact⟨rfl,fr2⟩
theorem l_4{h h1:AH}(i:Inp){A T CT CR C:AV}(hg:GJ h)(g:BX h h1 (inG i A T CT CR C))(hB:LB i):atv (tb qL) (.ptr h.nx 0) (.ptr h.nx 10) h1 (PRQ h (wl4 i)):=by
 have hn:=hB.sz;unfold wl4;have i10:(inG i A T CT CR C)[10]?=some (I i.sw):=rfl;have i11:(inG i A T CT CR C)[11]?=some (I i.sh):=rfl;have hb:=g.b;generalize inG i A T CT CR C=X at*;generalize i.sw=n at*;generalize i.sh=m at*;have haf:bW [I 0,I 0] [(0,1,I n),(1,1,I m)]=some [I n,I m]:=rfl;have hl:=aoZ [n,m] hn;have fr2:=g.fr.add (.cells [I n,I m]);have hg2:=hg.fr fr2;unfold atv qL;simp[hb,i10,i11,haf];have hns:=Vj h1 n m;generalize h1.add (.cells [I n,I m])=h2 at*;refine aqM _ [n,m] hg2 ⟨hns,by simp,hn⟩ ?_;have k1:=bQ (h:=h2) (a:=[115,105,122,101,32]) (b:=zA [n,m]) (by simp at hl ⊢; omega);generalize zA [n,m]=N at*;try simp only[anB,anx]at k1
 simp[k1];simp[avY];exact⟨rfl,fr2⟩
theorem l_2{h h1:AH}(i:Inp){A T CT CR C:AV}{kk:Nat}(hg:GJ h)(g:BX h h1 (inG i A T CT CR C))(hB:LB i)(hk:h1.ab kk=some [I i.key,I i.mM])(hkk:kk<h1.nx):atQ (tb qL) (.ptr h.nx 0) (.rsl kk 0 1 2) h1 (PRQ h (wl2 i)):=by
 have hn:∀m∈[i.time],i64 m:=by simpa using hB.tm
 unfold wl2;have i9:(inG i A T CT CR C)[9]?=some (I i.time):=rfl;have hb:=g.b;generalize inG i A T CT CR C=X at*;generalize i.time=n at*;generalize i.key=k at*;generalize i.mM=m at*;have haf:bW [I 0] [(0,1,I n)]=some [I n]:=rfl;unfold atQ qL;simp[];refine azI kk k m ⟨hk,hkk⟩ ?_;have hcl:=Ju k m;have k0:=bQ (h:=h1) (a:=[107,101,121,32]) (b:=(chF k m).1) (by simp;omega);have k2:=bQ (h:=h1) (a:=[107,101,121,32]++(chF k m).1) (b:=[32]) (by simp;omega);generalize chF k m=cf at*;obtain⟨W,e⟩:=cf;try simp only[anB,anx]at k0 k2 ⊢
 simp only at hcl;have fr2:=g.fr.add (.cells [I n]);have hg2:=hg.fr fr2;have hl:=aoZ [n] hn;simp[awO,k0,k2,hb,i9,haf];have hns:=ur h1 n;generalize h1.add (.cells [I n])=h2 at*;refine aqM _ [n] hg2 ⟨hns,by simp,hn⟩ ?_;have k1:=bQ (h:=h2) (a:=107::101::121::32::(W++[32])) (b:=zA [n]) (by simp at hl ⊢; omega);generalize zA [n]=N at*;try simp only[anB,anx,aok]at k1
 unfold awg;simp[k1];exact⟨rfl,fr2⟩
theorem avy(l:List Str)(i:Int)(h:∀w∈l,w.length<=100):(apJ l i).length<=100:=by
 unfold apJ;split
 ·rename_i hi;exact h _ (am9 (gr (by omega)))
 ·simp
theorem l_1{h:AH}(i:Inp){A T CT CR C:AV}(hg:GJ h)(hB:LB i)(k1:i.kind=1):g28 (tb qL) (.agg (inG i A T CT CR C)) h (PRQ h (wl1 i)):=by
 have i0:(inG i A T CT CR C)[0]?=some (I 1):=by rw[<-k1];rfl
 have i1:(inG i A T CT CR C)[1]?=some (I i.pk):=rfl;have i2:(inG i A T CT CR C)[2]?=some (I i.pid):=rfl;have i3:(inG i A T CT CR C)[3]?=some (I i.px):=rfl;have i4:(inG i A T CT CR C)[4]?=some (I i.py):=rfl;have i5:(inG i A T CT CR C)[5]?=some (I i.pt):=rfl;have i6:(inG i A T CT CR C)[6]?=some (I i.pw):=rfl;have g:BX h (h.add (.cells (inG i A T CT CR C))) (inG i A T CT CR C):=⟨(Fr.refl h).add _,bd _ _ _ rfl,by simp⟩;have hbx:fh h (.agg (inG i A T CT CR C))=some (.ptr h.nx 0,h.add (.cells (inG i A T CT CR C))):=rfl;have hn:=hB.n1;have hpk:=hB.pk;unfold wl1;unfold g28;rw[hbx];generalize h.add (.cells (inG i A T CT CR C))=h1 at*;generalize inG i A T CT CR C=X at*;generalize i.pk=k at*;generalize i.pid=n1 at*;generalize i.px=n2 at*;generalize i.py=n3 at*;generalize i.pt=n4 at*;generalize i.pw=n5 at*;have hb:=g.b;have hnx:=g.nx;unfold qL;simp[hb,i0];refine afy trivial ?_;have hw:=avy k_ (k-1) (by decide);have EM:∀h:AH,ae h .sub (I k) (I 1)=some (I (k-1),h):=λh=>F9 h k 1 (by omega) (by omega)
 have g2:=g.bump (k:=h1.nx+27) (by omega);have haf:bW [I 0,I 0,I 0,I 0,I 0] [(0,1,I n1),(1,1,I n2),(2,1,I n3),(3,1,I n4),(4,1,I n5)]=some [I n1,I n2,I n3,I n4,I n5]:=rfl;have hl:=aoZ _ hn;simp[hb,i1];unfold axg;simp[EM];refine ayt k_ (k-1) (by decide) ?_;generalize apJ k_ (k-1)=W at*;have ka:∀h:AH,ae h .add (.str [112,111,105,110,116,101,114,32]) (.str W)=some (.str ([112,111,105,110,116,101,114,32]++W),h):=λh=>bQ (by simp;omega)
 have kb:∀h:AH,ae h .add (.str ([112,111,105,110,116,101,114,32]++W)) (.str [32])=some (.str (([112,111,105,110,116,101,114,32]++W)++[32]),h):=λh=>bQ (by simp;omega)
 have kc:∀h:AH,ae h .add (.str (([112,111,105,110,116,101,114,32]++W)++[32])) (.str (zA [n1,n2,n3,n4,n5]))=some (.str ((([112,111,105,110,116,101,114,32]++W)++[32])++zA [n1,n2,n3,n4,n5]),h):=λh=>bQ (by simp at hl ⊢; omega)
 simp only[anB,anx]at ka kb kc ⊢;simp[ka,kb,hb,i2];simp[axc,hb,i3,i4,i5];simp[av5,hb,i6,haf];have g3:=g2.set (k:=h1.nx+23) (by omega) (.cells [I n1,I n2,I n3,I n4,I n5]);have hck:((AH.mk h1.H (h1.nx+27)).set (h1.nx+23) (.cells [I n1,I n2,I n3,I n4,I n5])).ab (h1.nx+23)=some [I n1,I n2,I n3,I n4,I n5]:=eD _ _ _ _ rfl;have hkl:h1.nx+23<((AH.mk h1.H (h1.nx+27)).set (h1.nx+23) (.cells [I n1,I n2,I n3,I n4,I n5])).nx:=by show _<h1.nx+27;omega
 have hnn:((AH.mk h1.H (h1.nx+27)).set (h1.nx+23) (.cells [I n1,I n2,I n3,I n4,I n5])).nx=h1.nx+27:=rfl;generalize(AH.mk h1.H (h1.nx+27)).set (h1.nx+23) (.cells [I n1,I n2,I n3,I n4,I n5])=h3 at*;refine aqM _ [n1,n2,n3,n4,n5] (hg.fr g3.fr) ⟨⟨h1.nx+23,rfl,hck,hkl⟩,by simp,hn⟩ ?_;generalize zA [n1,n2,n3,n4,n5]=N at*;try simp only[aok,anB,anx]at kc
 simp[kc];exact⟨by omega,by omega,rfl,g3.fr⟩
theorem l_5{h:AH}(i:Inp){A T CT CR C:AV}(hg:GJ h)(hB:LB i)(k1:i.kind=5):g28 (tb qL) (.agg (inG i A T CT CR C)) h (PRQ h (wl5 i)):=by
 have i0:(inG i A T CT CR C)[0]?=some (I 5):=by rw[<-k1];rfl
 have i12:(inG i A T CT CR C)[12]?=some (.bool i.nP):=rfl;have i13:(inG i A T CT CR C)[13]?=some (.bool i.high):=rfl;have i14:(inG i A T CT CR C)[14]?=some (I i.scale):=rfl;have g:BX h (h.add (.cells (inG i A T CT CR C))) (inG i A T CT CR C):=⟨(Fr.refl h).add _,bd _ _ _ rfl,by simp⟩;have hbx:fh h (.agg (inG i A T CT CR C))=some (.ptr h.nx 0,h.add (.cells (inG i A T CT CR C))):=rfl;have hn:∀m∈[i.scale],i64 m:=by simpa using hB.sc
 unfold wl5;unfold g28;rw[hbx];generalize h.add (.cells (inG i A T CT CR C))=h1 at*;generalize inG i A T CT CR C=X at*;generalize i.scale=n at*;generalize i.nP=dk at*;generalize i.high=hi at*;have hb:=g.b;have hnx:=g.nx;unfold qL;simp[hb,i0];have g2:=g.bump (k:=h1.nx+19) (by omega);have haf:bW [I 0] [(0,1,I n)]=some [I n]:=rfl;have hl:=aoZ _ hn;simp[apt,hb,i12];have lD:(if dk=true then jP else nu).length<=100:=by split<;>decide
 have lH:(if hi=true then jx else ji).length<=100:=by split<;>decide
 refine ayr dk nu jP trivial ?_;generalize(if dk=true then jP else nu)=W at*;have ka:∀h:AH,ae h .add (.str [109,111,100,101,32]) (.str W)=some (.str ([109,111,100,101,32]++W),h):=λh=>bQ (by simp;omega)
 have kb:∀h:AH,ae h .add (.str ([109,111,100,101,32]++W)) (.str [32])=some (.str (([109,111,100,101,32]++W)++[32]),h):=λh=>bQ (by simp;omega)
 simp only[anB,anx]at ka kb ⊢;simp[ka,kb];simp[auL,hb,i13];refine ayr hi ji jx trivial ?_;generalize(if hi=true then jx else ji)=V at*;have kc:∀h:AH,ae h .add (.str (([109,111,100,101,32]++W)++[32])) (.str V)=some (.str ((([109,111,100,101,32]++W)++[32])++V),h):=λh=>bQ (by simp;omega)
 have kd:∀h:AH,ae h .add (.str ((([109,111,100,101,32]++W)++[32])++V)) (.str [32])=some (.str (((([109,111,100,101,32]++W)++[32])++V)++[32]),h):=λh=>bQ (by simp;omega)
 have ke:∀h:AH,ae h .add (.str (((([109,111,100,101,32]++W)++[32])++V)++[32])) (.str (zA [n]))=some (.str ((((([109,111,100,101,32]++W)++[32])++V)++[32])++zA [n]),h):=λh=>bQ (by simp at hl ⊢; omega)
 simp only[anB,anx,aok]at kc kd ke ⊢;simp[kc,kd,hb,i14,haf];have g3:=g2.set (k:=h1.nx+15) (by omega) (.cells [I n]);have hck:((AH.mk h1.H (h1.nx+19)).set (h1.nx+15) (.cells [I n])).ab (h1.nx+15)=some [I n]:=eD _ _ _ _ rfl;have hkl:h1.nx+15<((AH.mk h1.H (h1.nx+19)).set (h1.nx+15) (.cells [I n])).nx:=by show _<h1.nx+19;omega
 have hnn:((AH.mk h1.H (h1.nx+19)).set (h1.nx+15) (.cells [I n])).nx=h1.nx+19:=rfl;unfold au8;generalize(AH.mk h1.H (h1.nx+19)).set (h1.nx+15) (.cells [I n])=h3 at*;simp[];refine aqM _ [n] (hg.fr g3.fr) ⟨⟨h1.nx+15,rfl,hck,hkl⟩,by simp,hn⟩ ?_;generalize zA [n]=N at*;simp[ke];exact⟨by omega,rfl,g3.fr⟩
inductive QL6(h h1:AH)(A:AV)(L:List Val):Nat->List AV->AH->Prop
 |mk {m:Nat} {h':AH} (i:Nat) (lv:AV):i+m=L.length->Fr h1 h'->OL 1 h1 h' lv (i+1) ((gS::kS (L.take i)).map λs=>.str s)->QL6 h h1 A L m [lv,A,I L.length,I i] h'
theorem l_6{h h1:AH}(i:Inp){A T CT CR C:AV}(hg:GJ h)(g:BX h h1 (inG i A T CT CR C))(hA:Sl (vCs i.args) A)(hB:LB i):apt (tb qL) (.ptr h.nx 0) (.str []) (I 6) (.bool false) h1 (PRQ h (wl6 i)):=by
 have i15:(inG i A T CT CR C)[15]?=some A:=rfl;have hal:=hB.al;have hww:=hB.aw;have haj:=hB.aj;have fr1:=g.fr;have hb:=g.b;unfold wl6;generalize inG i A T CT CR C=X at*;generalize i.args=L at*;have l1:∀h:AH,bh h A=some (I L.length,h):=λh=>by rw[gW hA,dr]
 have haf:bW [AV.str []] [(0,1,.str [97,114,103,115])]=some [.str gS]:=rfl;have hg1:=hg.fr fr1;have o0:OL 1 h1 (h1.add (.cells [.str gS])) (.rsl h1.nx 0 1 1) 1 [.str gS]:=.inr ⟨h1.nx,rfl,by omega,by omega,by simp,bd _ _ _ rfl,rfl⟩;have fr0:=(Fr.refl h1).add (.cells [.str gS]);have hb0:(h1.add (.cells [.str gS])).ab h.nx=some X:=by rw[aC _ _ _ (by have:=g.nx;omega)];exact hb
 unfold apt;simp[haf,hb0,i15,l1];generalize h1.add (.cells [.str gS])=h2 at*;refine⟨QL6 h h1 A L,L.length,.mk 0 _ (by omega) fr0 o0,?_⟩;rintro m vs h' ⟨i,lv,him,fr2,o⟩;have hg2:=hg1.fr fr2;cases m with
 |zero=>
  obtain rfl:i=L.length:=by omega
  rw[aCg]at o;have hws:=aus o (by simp[apv]);have aBM:=apv L;unfold qL;simp[atC];simp[aw5];unfold atK;simp[];refine au7 lv (gS::kS L) ⟨hws,by omega,by simp;omega⟩ ?_;exact⟨rfl,fr1.trans fr2⟩
 |succ m=>
  have hi:i<L.length:=by omega
  have hlt:(i:Int)<L.length:=by omega
  have i1:∀h:AH,aF h 4 A (I i)=some (.lz (vC L[i]),h):=λh=>gY hA (nD hi) (cH _)
  have hw:=hww _ (anL hi);have htk:kS (L.take (i+1))=kS (L.take i)++[MP L[i]]:=by rw[aCh,am0 hi,aCu,arX];rfl
  have fk:cut (vC L[i]) 0 4=some (vC L[i]):=by
   have:=aM (α:=vC L[i]) (b:=[]) (n:=4) (cH _);rwa [am5]at this
  generalize L[i]=v at*;have hvl:=cH v;have hvo:=iH v;have xY:fi [I 0,I 0,.str [],.aa] 0 (vC v)=some (vC v):=dG hvl.symm;unfold qL;simp[atC,hlt,i1,fk,hvl,hvo,xY];have fr3:Fr h1 ((h'.add (.cells [I 0,I 0,.str [],.aa])).set h'.nx (.cells (vC v))):=(fr2.add _).set (by have:=fr2.nx;omega) _;have o3:OL 1 h1 ((h'.add (.cells [I 0,I 0,.str [],.aa])).set h'.nx (.cells (vC v))) lv (i+1) ((gS::kS (L.take i)).map λs=>.str s):=o.du (by simp) λj _ hj=>by rw[au,amU (by omega),az,amU (by omega)]
  generalize(h'.add (.cells [I 0,I 0,.str [],.aa])).set h'.nx (.cells (vC v))=h3 at*;have hg3:=hg1.fr fr3;refine azN v hg3 hw ?_;have haf:bW [AV.str []] [(0,1,.str (MP v))]=some [.str (MP v)]:=rfl;obtain⟨lv',h4,kk,o4,hn4,hg4⟩:=mI (bytes:=16) (tc:=[.str (MP v)]) o3 fr3.nx rfl rfl (by omega) (by omega);simp[au0,haf];rw[kk];simp(disch:=first|go_size|fail)[];refine⟨m,by omega,.mk (i+1) lv' (show i+1+m=L.length by omega) ⟨by have:=fr3.nx;omega,λj hj=>by rw[hg4 j hj];exact fr3.get j hj⟩ ?_⟩;rw[htk,<-anB,aoC];exact o4
theorem ayx(S:Str)(h:S.length<=400000):(wQ S).length<=900000:=by
 have:=ao9 S;have:=apA S;simp only[wQ,am6,amX,anr];omega
theorem av9(i:Inp)(h:WB8 i):(aqA i).length<=2000000:=by
 have hq:=ayx (cC i.t) h.t;have hn:∀n∈i.oa::i.cls.map DD,i64 n:=λn hn=>by
  rcases anT.1 hn with rfl|hn
  ·exact h.ct
  ·obtain⟨p,hp,rfl⟩:=an0.1 hn;exact arN (h.cl p hp)
 have hl:=aoZ _ hn;have hnc:=h.nc;simp only[am6,aor]at hl;unfold aqA
 (repeat' split)
 ·decide
 ·decide
 ·simp only[amX,am6,anr];omega
 ·simp only[amX,am6,anr];omega
theorem l_8{h h1:AH}(i:Inp){A T CT CR C:AV}(hg:GJ h)(g:BX h h1 (inG i A T CT CR C))(hT:Sl (rnC i.t) T)(hC:Sl (cbC i.cls) C)(hB:LB i):apt (tb qL) (.ptr h.nx 0) (.str []) (I 8) (.bool false) h1 (PRQ h (wl8 i)):=by
 have ic:cut (inG i A T CT CR C) 22 15=some (txG i T CT CR C):=rfl;have hb:=g.b;have hg1:=hg.fr g.fr;have hcl:=av9 i hB.b8;generalize inG i A T CT CR C=X at*;unfold qL;unfold apt;simp[hb,ic];refine aAj i hg1 ⟨hT,hC,hB.b8⟩ ?_;unfold wl8;have ka:=bQ (h:=h1) (a:=[99,111,109,112,111,115,101,32]) (b:=aqA i) (by simp;omega);generalize aqA i=W at*;simp only[anB,anx]at ka ⊢;simp[ka];exact⟨rfl,g.fr⟩
def atF(act:Int):Nat->Int
 |0=> -1
 |k+1=>if act=2^k then k else atF act k
theorem asH(act:Int):∀k,k<=9->apJ dI (atF act k)=yi act k
 |0,_=>rfl
 |k+1,hk=>by
  unfold atF yi;split
  ·exact ase (l:=dI) (k:=(k:Int)) ⟨by omega,by show _<9;omega⟩
  ·exact asH act k (by omega)
theorem axR(h:AH){q:Nat}(hq:q<9):ae h .shl (I 1) (I q)=some (I (2^q),h):=by
 match q,hq with
 |0,_=>rfl
 |1,_=>rfl
 |2,_=>rfl
 |3,_=>rfl
 |4,_=>rfl
 |5,_=>rfl
 |6,_=>rfl
 |7,_=>rfl
 |8,_=>rfl
inductive QL7(h:AH)(X Y:List AV)(k:Nat)(act:Int):Nat->List AV->AH->Prop
 |mk {m:Nat} {h':AH} (i:Nat):i+m=9->BR h h' X Y k->QL7 h X Y k act m [.ptr k 0,I (atF act i),I 9,I i] h'
theorem l_7{h h1:AH}(i:Inp){A T CT CR C:AV}(hg:GJ h)(g:BX h h1 (inG i A T CT CR C))(hB:LB i):apt (tb qL) (.ptr h.nx 0) (.str []) (I 7) (.bool false) h1 (PRQ h (wl7 i)):=by
 have ic:cut (inG i A T CT CR C) 16 6=some [I i.ver,I i.node,I i.act,I i.frm,I i.too,.str i.rt]:=rfl;have hrt:=hB.rt;have hn1:=hB.ac;have hn2:=hB.ft;have hb:=g.b;unfold wl7;generalize inG i A T CT CR C=X at*;generalize i.ver=n1 at*;generalize i.node=n2 at*;generalize i.act=act at*;generalize i.frm=n3 at*;generalize i.too=n4 at*;generalize i.rt=rt at*;unfold qL;simp[apt,hb,ic];refine aea trivial ?_;have hlen:∀h:AH,bh h (bU dI)=some (I 9,h):=λh=>am_ rfl rfl
 simp[hlen];have g7:BR h ((h1.add (.cells [I 0,I 0,I 0,I 0,I 0,.str []])).set h1.nx (.cells [I n1,I n2,I act,I n3,I n4,.str rt])) X [I n1,I n2,I act,I n3,I n4,.str rt] h1.nx:=
  ⟨(g.add _).set g.nx _,eD _ _ _ _ rfl,g.nx,by simp⟩
 generalize(h1.add (.cells [I 0,I 0,I 0,I 0,I 0,.str []])).set h1.nx (.cells [I n1,I n2,I act,I n3,I n4,.str rt])=h2 at*;generalize h1.nx=k at*;unfold avi;refine⟨QL7 h X [I n1,I n2,I act,I n3,I n4,.str rt] k act,9,.mk 0 rfl g7,?_⟩;clear g7 g hb ic;rintro m vs h3 ⟨i,him,g⟩;have hc:=g.c;cases m with
 |succ m=>
  have hlt:(i:Int)<9:=by omega
  simp[aue,hlt];refine⟨λvs h4=>vs=[.ptr k 0,I (atF act (i+1)),I 9,I i]/\h4=⟨h3.H,h3.nx+5⟩,?_,?_⟩
  ·have hsh:=λh=>axR h (q:=i) (by omega)
   have hF:atF act (i+1)=if act=2^i then(i:Int)else atF act i:=rfl
   by_cases he:act=2^i
   ·rw[am1 he]at hF;rw[hF];simp[auh,hc,hsh,he]
   ·rw[amU he]at hF;rw[hF];simp[auh,hc,hsh,he]
  ·rintro vs h4 ⟨rfl,rfl⟩;simp(disch:=first|go_size|fail)[awl];exact⟨m,by omega,.mk (i+1) (show i+1+m=9 by omega) (g.bump (by omega))⟩
 |zero=>
  obtain rfl:i=9:=by omega
  simp(disch:=first|go_size|fail)[aue];unfold aw6;have hpa:=asH act 9 (by omega);have hal:=as_ act 9;generalize yi act 9=D at*;generalize atF act 9=at9 at*;have l1:=aoZ _ hn1;have l2:=aoZ _ hn2;have lq:=ayx rt hrt;have ES:bW [I 0,I 0] [(0,1,I n1),(1,1,I n2)]=some [I n1,I n2]:=rfl;have EL:bW [I 0,I 0] [(0,1,I n3),(1,1,I n4)]=some [I n3,I n4]:=rfl;have hk1:=g.k1;have hk2:=g.k2;obtain⟨P0,hP0⟩:∃P0:Str,P0=[97,99,99,101,115,115,32]:=⟨_,rfl⟩;have alS:P0.length=7:=by rw[hP0];rfl
  unfold atm;rw[<-hP0];have hgb:=g.bump (m:=h3.nx+26) (by omega);simp[hc,ES];have g1:=hgb.set (q:=h3.nx+4) (by omega) (by omega) (.cells [I n1,I n2]);have XD:((AH.mk h3.H (h3.nx+26)).set (h3.nx+4) (.cells [I n1,I n2])).ab (h3.nx+4)=some [I n1,I n2]:=eD _ _ _ _ rfl;have XA:((AH.mk h3.H (h3.nx+26)).set (h3.nx+4) (.cells [I n1,I n2])).nx=h3.nx+26:=rfl;generalize(AH.mk h3.H (h3.nx+26)).set (h3.nx+4) (.cells [I n1,I n2])=h4 at*;refine aqM _ [n1,n2] (hg.fr g1.bx.fr) ⟨⟨h3.nx+4,rfl,XD,by omega⟩,by simp,hn1⟩ ?_;generalize zA [n1,n2]=N1 at*;simp only[am6,anr]at l1 l2;have ka:=λh=>bQ (h:=h) (a:=P0) (b:=N1) (by omega)
  have kb:=λh=>bQ (h:=h) (a:=P0++N1) (b:=[32]) (by simp;omega)
  have hc4:=g1.c;simp[ka,kb];refine⟨by omega,?_⟩;unfold auK;simp[];refine aea trivial ?_;simp[];refine ayt dI at9 (by decide) ?_;rw[hpa];have kc:=λh=>bQ (h:=h) (a:=(P0++N1)++[32]) (b:=D) (by simp;omega)
  have kd:=λh=>bQ (h:=h) (a:=((P0++N1)++[32])++D) (b:=[32]) (by simp;omega)
  simp only[aok,anB,anx]at kc kd;simp[kc,kd,hc4];simp[auk,hc4,EL];have g2:=g1.set (q:=h3.nx+17) (by omega) (by omega) (.cells [I n3,I n4]);have ajT:(h4.set (h3.nx+17) (.cells [I n3,I n4])).ab (h3.nx+17)=some [I n3,I n4]:=eD _ _ _ _ rfl;have U5:(h4.set (h3.nx+17) (.cells [I n3,I n4])).nx=h3.nx+26:=XA;generalize h4.set (h3.nx+17) (.cells [I n3,I n4])=h5 at*;refine aqM _ [n3,n4] (hg.fr g2.bx.fr) ⟨⟨h3.nx+17,rfl,ajT,by omega⟩,by simp,hn2⟩ ?_;generalize zA [n3,n4]=N2 at*;have ke:=λh=>bQ (h:=h) (a:=(((P0++N1)++[32])++D)++[32]) (b:=N2) (by simp;omega)
  have kf:=λh=>bQ (h:=h) (a:=((((P0++N1)++[32])++D)++[32])++N2) (b:=[32]) (by simp;omega)
  have kg:=λh=>bQ (h:=h) (a:=(((((P0++N1)++[32])++D)++[32])++N2)++[32]) (b:=wQ rt) (by simp;omega)
  have hc5:=g2.c;simp only[aok,anB,anx]at ke kf kg;simp[ke,kf,hc5];refine⟨by omega,?_⟩;refine au3 rt (by omega) ?_;simp[auv,kg];refine⟨by omega,by omega,by omega,by omega,?_⟩;exact⟨by rw[hP0];rfl,g2.bx.fr⟩
theorem av4(h:AH)(i:Inp)(cs:LA)(hg:GJ h)(hx:InC i cs/\LB i):aK prog 28 [.agg cs] h (.str (p8 i)) h:=by
 obtain⟨⟨A,T,CT,CR,C,rfl,hA,hT,hCT,hCR,hC⟩,hB⟩:=hx;refine kM (λ_=>.str _) (C28 (aW qL) ?_);show g28 (tb qL) (.agg (inG i A T CT CR C)) h (PRQ h (p8 i))
 have i0:(inG i A T CT CR C)[0]?=some (I i.kind):=rfl;have i9:(inG i A T CT CR C)[9]?=some (I i.time):=rfl;have ic:cut (inG i A T CT CR C) 7 2=some [I i.key,I i.mM]:=rfl;have g:BX h (h.add (.cells (inG i A T CT CR C))) (inG i A T CT CR C):=⟨(Fr.refl h).add _,bd _ _ _ rfl,by simp⟩;have hbx:fh h (.agg (inG i A T CT CR C))=some (.ptr h.nx 0,h.add (.cells (inG i A T CT CR C))):=rfl;unfold p8;by_cases k1:i.kind=1
 ·rw[am1 k1];exact l_1 i hg hB k1
 rw[amU k1];by_cases k5:i.kind=5
 ·rw[amU (by omega),amU (by omega),amU (by omega),am1 k5];exact l_5 i hg hB k5
 unfold g28;rw[hbx];generalize h.add (.cells (inG i A T CT CR C))=h1 at*;have hb:=g.b;generalize hX:inG i A T CT CR C=X at*;have haf:bW [I 0,I 0] [(0,2,.agg [I i.key,I i.mM])]=some [I i.key,I i.mM]:=rfl;by_cases k2:i.kind=2
 ·rw[am1 k2];rw[k2]at i0;simp[hb,i0,ic,haf];subst hX;exact l_2 i hg (g.add _) hB (bd _ _ _ rfl) (by simp)
 rw[amU k2];by_cases k3:i.kind=3
 ·rw[am1 k3];rw[k3]at i0;simp[hb,i0,i9];exact l_3 i hg g.fr hB
 rw[amU k3];by_cases k4:i.kind=4
 ·rw[am1 k4];rw[k4]at i0;simp[hb,i0];subst hX;exact l_4 i hg g hB
 rw[amU k4,amU k5];by_cases k6:i.kind=6
 ·rw[am1 k6];rw[k6]at i0;simp[hb,i0];subst hX;exact l_6 i hg g hA hB
 rw[amU k6];by_cases k7:i.kind=7
 ·rw[am1 k7];rw[k7]at i0;simp[hb,i0];subst hX;exact l_7 i hg g hB
 rw[amU k7];by_cases k8:i.kind=8
 ·rw[am1 k8];rw[k8]at i0;simp[hb,i0];subst hX;exact l_8 i hg g hT hC hB
 rw[amU k8];simp[hb,i0,k1,k2,k3,k4,k5];simp[apt,k5,k6,k7,k8];exact⟨rfl,g.fr⟩
def e28:QE prog:=QE.fn 28 GJ (fun(y:Inp×LA)=>match y with|⟨i,cs⟩=>[.agg cs]) (fun(y:Inp×LA)(h:AH)=>match y with|⟨i,cs⟩=>InC i cs/\LB i) (fun(y:Inp×LA)=>match y with|⟨i,cs⟩=>.str (p8 i)) (λh y hj hx=>match y,hx with|⟨i,cs⟩,hx=>av4 h i cs hj hx)
theorem az7{tl h}(i:Inp)(cs:LA){Q:QT}(hj:GJ h)(hx:InC i cs/\LB i)(hq:Q (.str (p8 i)) h):tb (e28::tl) 28 [.agg cs] h Q:=aV (i,cs) hj hx hq
@[simp ↓] theorem aBE:TbT e28 28:=aH e28
inductive aAo(h:AH)(A B:AV)(L M:List Int):Nat->List AV->AH->Prop
 |mk {m:Nat} {h':AH} (i:Nat):i+m=L.length->L.take i=M.take i->Fr h h'->aAo h A B L M m [A,B,I L.length,I i] h'
theorem az9(h:AH)(A B:AV)(L M:List Int)(hx:Sl (rnC L) A/\Sl (rnC M) B/\L.length<=1000000):aK prog 107 [A,B] h (.bool (dq L M)) h:=by
 obtain⟨hA,hB,hL⟩:=hx;refine kM (λ_=>.bool _) (aAV (aW []) ?_);have l1:∀h:AH,bh h A=some (I L.length,h):=λh=>by rw[gW hA];simp[rnC]
 have l2:∀h:AH,bh h B=some (I M.length,h):=λh=>by rw[gW hB];simp[rnC]
 by_cases hl:L.length=M.length
 ·have hl':(L.length:Int)=M.length:=by omega
  simp[ay4,l1,l2,hl'];rw[<-hl'];refine⟨aAo h A B L M,L.length,.mk 0 (by simp) rfl (Fr.refl h),?_⟩;rintro m vs h' ⟨i,him,ht,fr⟩;cases m with
  |zero=>
   have hlt:¬(i:Int)<L.length:=by omega
   simp[aqZ,hlt];simp[asz,asb];have:L=M:=by
    rw[anc (by omega),anc (by omega)]at ht;exact ht
   exact⟨gv this,fr⟩
  |succ m=>
   have h1:i<L.length:=by omega
   have h2:i<M.length:=by omega
   have hlt:(i:Int)<L.length:=by omega
   have i1:∀h:AH,aF h 1 A (I i)=some (.lz [bH L[i]],h):=λh=>gY hA (by simp[rnC,h1]) rfl
   have i2:∀h:AH,aF h 1 B (I i)=some (.lz [bH M[i]],h):=λh=>gY hB (by simp[rnC,h2]) rfl
   have fr2:=fr.bump (k:=h'.nx+9) (by omega);by_cases he:L[i]=M[i]
   ·simp[aqZ,hlt,i1];simp(disch:=first|go_size|fail)[asa,i2,bH,he];refine⟨m,by omega,?_⟩;exact .mk (i+1) (show i+1+m=L.length by omega) (g_ ht h1 h2 he) fr2
   ·simp[aqZ,hlt,i1];simp[asa,i2,bH,he];simp[asz];refine⟨dZ λe=>he ?_,fr2⟩;simp only[e]
 ·have hl':¬(L.length:Int)=M.length:=by omega
  simp[ay4,l1,l2,hl'];exact⟨dZ λe=>hl (by rw[e]),Fr.refl h⟩
def ax_:QE prog:=QE.fn 107 (λ_=>True) (fun(y:AV×AV×List Int×List Int)=>match y with|⟨A,B,L,M⟩=>[A,B]) (fun(y:AV×AV×List Int×List Int)(h:AH)=>match y with|⟨A,B,L,M⟩=>Sl (rnC L) A/\Sl (rnC M) B/\L.length<=1000000) (fun(y:AV×AV×List Int×List Int)=>match y with|⟨A,B,L,M⟩=>.bool (dq L M)) (λh y hj hx=>match y,hx with|⟨A,B,L,M⟩,hx=>az9 h A B L M hx)
theorem ayS{tl h}(A:AV)(B:AV)(L:List Int)(M:List Int){Q:QT}(hx:Sl (rnC L) A/\Sl (rnC M) B/\L.length<=1000000)(hq:Q (.bool (dq L M)) h):tb (ax_::tl) 107 [A,B] h Q:=aV (A,B,L,M) trivial hx hq
@[simp ↓] theorem aAY:TbT ax_ 107:=aH ax_
inductive azP(h:AH)(A B:AV)(L M:List (Int×Bool)):Nat->List AV->AH->Prop
 |mk {m:Nat} {h':AH} (i:Nat):i+m=L.length->L.take i=M.take i->Fr h h'->azP h A B L M m [A,B,I L.length,I i] h'
theorem azZ(h:AH)(A B:AV)(L M:List (Int×Bool))(hx:Sl (cbC L) A/\Sl (cbC M) B/\L.length<=2000000):aK prog 109 [A,B] h (.bool (dq L M)) h:=by
 obtain⟨hA,hB,hL⟩:=hx;refine kM (λ_=>.bool _) (aA0 (aW []) ?_);have l1:∀h:AH,bh h A=some (I L.length,h):=λh=>by rw[gW hA];simp[cbC]
 have l2:∀h:AH,bh h B=some (I M.length,h):=λh=>by rw[gW hB];simp[cbC]
 by_cases hl:L.length=M.length
 ·have hl':(L.length:Int)=M.length:=by omega
  simp[ayW,l1,l2,hl'];rw[<-hl'];refine⟨azP h A B L M,L.length,.mk 0 (by simp) rfl (Fr.refl h),?_⟩;rintro m vs h' ⟨i,him,ht,fr⟩;cases m with
  |zero=>
   have hlt:¬(i:Int)<L.length:=by omega
   simp[aq4,hlt];simp[ar5,ar6];have:L=M:=by
    rw[anc (by omega),anc (by omega)]at ht;exact ht
   exact⟨gv this,fr⟩
  |succ m=>
   have h1:i<L.length:=by omega
   have h2:i<M.length:=by omega
   have hlt:(i:Int)<L.length:=by omega
   have i1:∀h:AH,aF h 2 A (I i)=some (.lz [I L[i].1,.bool L[i].2],h):=λh=>gY hA (by simp[cbC,h1]) rfl
   have i2:∀h:AH,aF h 2 B (I i)=some (.lz [I M[i].1,.bool M[i].2],h):=λh=>gY hB (by simp[cbC,h2]) rfl
   have fr2:=fr.bump (k:=h'.nx+9) (by omega);have heq:bA [.int .i64,.bool] [I L[i].1,.bool L[i].2] [I M[i].1,.bool M[i].2]=some (L[i].1==M[i].1&&L[i].2==M[i].2):=by simp[bA,gn]
   by_cases he:L[i]=M[i]
   ·have hb:(L[i].1==M[i].1&&L[i].2==M[i].2)=true:=by rw[he];simp
    rw[hb]at heq;simp[aq4,hlt,i1];simp(disch:=first|go_size|fail)[ash,i2,heq];refine⟨m,by omega,?_⟩;exact .mk (i+1) (show i+1+m=L.length by omega) (g_ ht h1 h2 he) fr2
   ·have hb:(L[i].1==M[i].1&&L[i].2==M[i].2)=false:=by
     rw[aCy];intro e;simp only[amZ,an2]at e;exact he (Prod.ext e.1 e.2)
    rw[hb]at heq;simp[aq4,hlt,i1];simp[ash,i2,heq];simp[ar5];refine⟨dZ λe=>he ?_,fr2⟩;simp only[e]
 ·have hl':¬(L.length:Int)=M.length:=by omega
  simp[ayW,l1,l2,hl'];exact⟨dZ λe=>hl (by rw[e]),Fr.refl h⟩
def aAf:QE prog:=QE.fn 109 (λ_=>True) (fun(y:AV×AV×List (Int×Bool)×List (Int×Bool))=>match y with|⟨A,B,L,M⟩=>[A,B]) (fun(y:AV×AV×List (Int×Bool)×List (Int×Bool)) (h:AH)=>match y with|⟨A,B,L,M⟩=>Sl (cbC L) A/\Sl (cbC M) B/\L.length<=2000000) (fun(y:AV×AV×List (Int×Bool)×List (Int×Bool))=>match y with|⟨A,B,L,M⟩=>.bool (dq L M)) (λh y hj hx=>match y,hx with|⟨A,B,L,M⟩,hx=>azZ h A B L M hx)
theorem azn{tl h}(A:AV)(B:AV)(L:List (Int×Bool))(M:List (Int×Bool)){Q:QT}(hx:Sl (cbC L) A/\Sl (cbC M) B/\L.length<=2000000)(hq:Q (.bool (dq L M)) h):tb (aAf::tl) 109 [A,B] h Q:=aV (A,B,L,M) trivial hx hq
inductive az_(h:AH)(T A U B:AV)(t u:List Int):Nat->List AV->AH->Prop
 |mk {m:Nat} {h':AH} (i:Nat):i+m=t.length->t.take i=u.take i->Fr h h'->h'.ab h.nx=some [T,A]->h'.ab (h.nx+1)=some [U,B]->h.nx+2<=h'.nx->az_ h T A U B t u m [.ptr h.nx 0,.ptr (h.nx+1) 0,T,I t.length,I i] h'
inductive ayB(h:AH)(A U B:AV)(L N:List (Int×Int)):Nat->List AV->AH->Prop
 |mk {m:Nat} {h':AH} (i:Nat):i+m=L.length->L.take i=N.take i->Fr h h'->h'.ab (h.nx+1)=some [U,B]->h.nx+2<=h'.nx->ayB h A U B L N m [.ptr (h.nx+1) 0,A,I L.length,I i] h'
theorem axG(h:AH)(T A U B:AV)(t:List Int)(L:List (Int×Int))(u:List Int)(N:List (Int×Int))(hx:Sl (rnC t) T/\Sl (chC L) A/\Sl (rnC u) U/\Sl (chC N) B/\t.length<=1000000/\L.length<=1000000):aK prog 108 [.agg [T,A],.agg [U,B]] h (.bool (dq t u&&dq L N)) h:=by
 obtain⟨hT,hA,hU,hB,ht,hL⟩:=hx;refine kM (λ_=>.bool _) (aA1 (aW []) ?_);have oT:=CQ hT;have oA:=CQ hA;have oU:=CQ hU;have oB:=CQ hB;have b1:fh h (.agg [T,A])=some (.ptr h.nx 0,h.add (.cells [T,A])):=by simp[fh,dj,oT,oA]
 have b2:∀h:AH,fh h (.agg [U,B])=some (.ptr h.nx 0,h.add (.cells [U,B])):=λh=>by simp[fh,dj,oU,oB]
 simp[az8,b1,b2];have fr:Fr h ((h.add (.cells [T,A])).add (.cells [U,B])):=((Fr.refl h).add _).add _;have c1:((h.add (.cells [T,A])).add (.cells [U,B])).ab h.nx=some [T,A]:=by rw[aC _ _ _ (by simp)];exact bd _ _ _ rfl
 have c2:((h.add (.cells [T,A])).add (.cells [U,B])).ab (h.nx+1)=some [U,B]:=bd _ _ _ (by simp);have hn:h.nx+2<=((h.add (.cells [T,A])).add (.cells [U,B])).nx:=by simp
 generalize(h.add (.cells [T,A])).add (.cells [U,B])=h1 at*;have l0:∀h:AH,bh h T=some (I t.length,h):=λh=>by rw[gW hT];simp[rnC]
 have l0':∀h:AH,bh h U=some (I u.length,h):=λh=>by rw[gW hU];simp[rnC]
 have l1:∀h:AH,bh h A=some (I L.length,h):=λh=>by rw[gW hA];simp[chC]
 have l2:∀h:AH,bh h B=some (I N.length,h):=λh=>by rw[gW hB];simp[chC]
 refine⟨λvs h2=>vs=[.ptr h.nx 0,.ptr (h.nx+1) 0,.bool (decide (t.length≠u.length)||decide (L.length≠N.length))]/\h2=h1,?_,?_⟩
 ·by_cases ht:t.length=u.length
  ·have ht':(t.length:Int)=u.length:=by omega
   by_cases hl:L.length=N.length
   ·have hl':(L.length:Int)=N.length:=by omega
    simp[aq3,c1,c2,l0,l0',ht'];simp[aq2,c1,c2,l1,l2,hl',ht,hl]
   ·have hl':¬(L.length:Int)=N.length:=by omega
    simp[aq3,c1,c2,l0,l0',ht'];simp[aq2,c1,c2,l1,l2,hl',ht,hl]
  ·have ht':¬(t.length:Int)=u.length:=by omega
   simp[aq3,c1,c2,l0,l0',ht'];simp[aq2,ht,ht']
 ·rintro vs h2 ⟨rfl,rfl⟩;by_cases hb:t.length=u.length/\L.length=N.length
  rotate_left
  ·have:(decide (t.length≠u.length)||decide (L.length≠N.length))=true:=by
    simp only[anV,ana];by_cases h1:t.length=u.length
    ·exact .inr λh2=>hb ⟨h1,h2⟩
    ·exact .inl h1
   rw[this];simp[asp];refine⟨?_,fr⟩;by_cases h1:t=u
   ·rw[dZ (a:=L) λe=>hb ⟨by rw[h1],by rw[e]⟩];simp
   ·rw[dZ h1];simp
  obtain⟨ht1,hl1⟩:=hb;have:(decide (t.length≠u.length)||decide (L.length≠N.length))=false:=by simp[ht1,hl1]
  rw[this];simp[asp,c1,l0];refine⟨az_ h T A U B t u,t.length,.mk 0 (by simp) rfl fr c1 c2 hn,?_⟩;clear this fr c1 c2 hn;rintro m vs h' ⟨i,him,htk,fr,c1,c2,hn⟩;cases m with
  |zero=>
   have hlt:¬(i:Int)<t.length:=by omega
   have htu:t=u:=by
    rw[anc (by omega),anc (by omega)]at htk;exact htk
   simp[aqY,hlt];simp[arY,ast,c1,l1];refine⟨ayB h A U B L N,L.length,.mk 0 (by simp) rfl fr c2 hn,?_⟩;clear fr c1 c2 hn;rintro m vs h' ⟨i,him,htk,fr,c2,hn⟩;cases m with
   |zero=>
    have hlt:¬(i:Int)<L.length:=by omega
    have hLN:L=N:=by
     rw[anc (by omega),anc (by omega)]at htk;exact htk
    simp[ar1,hlt];simp[ar9,ar_];exact⟨by rw[gv htu,gv hLN];simp,fr⟩
   |succ m=>
    have h1:i<L.length:=by omega
    have h2:i<N.length:=by omega
    have hlt:(i:Int)<L.length:=by omega
    have i1:∀h:AH,aF h 2 A (I i)=some (.lz [I L[i].1,I L[i].2],h):=λh=>gY hA (by simp[chC,h1]) rfl
    have i2:∀h:AH,aF h 2 B (I i)=some (.lz [I N[i].1,I N[i].2],h):=λh=>gY hB (by simp[chC,h2]) rfl
    have heq:bA [.int .i64,.int .i64] [I N[i].1,I N[i].2] [I L[i].1,I L[i].2]=some (N[i].1==L[i].1&&N[i].2==L[i].2):=by simp[bA,gn]
    have fr2:=((fr.add (.cells [I 0,I 0])).set fr.nx (.cells [I L[i].1,I L[i].2])).bump (k:=h'.nx+1+7) (by simp);have c3:((h'.add (.cells [I 0,I 0])).set h'.nx (.cells [I L[i].1,I L[i].2])).ab h'.nx=some [I L[i].1,I L[i].2]:=eD _ _ _ _ rfl;have c4:((h'.add (.cells [I 0,I 0])).set h'.nx (.cells [I L[i].1,I L[i].2])).ab (h.nx+1)=some [U,B]:=by rw[ak _ _ _ _ (by omega),aC _ _ _ (by omega)];exact c2
    have hne:¬h.nx+1=h'.nx:=by omega
    simp(disch:=first|go_size|fail)[ar1,hlt,i1,hne,c2];generalize(h'.add (.cells [I 0,I 0])).set h'.nx (.cells [I L[i].1,I L[i].2])=h5 at*;by_cases he:N[i]=L[i]
    ·have hb:(N[i].1==L[i].1&&N[i].2==L[i].2)=true:=by rw[he];simp
     rw[hb]at heq;simp(disch:=first|go_size|fail)[asn,i2,c3,heq];exact⟨m,by omega,.mk (i+1) (show i+1+m=L.length by omega) (g_ htk h1 h2 he.symm) fr2 c4 (by simp;omega)⟩
    ·have hb:(N[i].1==L[i].1&&N[i].2==L[i].2)=false:=by
      rw[aCy];intro e;simp only[amZ,an2]at e;exact he (Prod.ext e.1 e.2)
     rw[hb]at heq;simp(disch:=first|go_size|fail)[asn,i2,c3,heq];simp(disch:=first|go_size|fail)[ar9];refine⟨?_,fr2⟩;rw[dZ (a:=L) λe=>he (by simp only[e])];simp
  |succ m=>
   have h1:i<t.length:=by omega
   have h2:i<u.length:=by omega
   have hlt:(i:Int)<t.length:=by omega
   have i1:∀h:AH,aF h 1 T (I i)=some (.lz [bH t[i]],h):=λh=>gY hT (by simp[rnC,h1]) rfl
   have i2:∀h:AH,aF h 1 U (I i)=some (.lz [bH u[i]],h):=λh=>gY hU (by simp[rnC,h2]) rfl
   by_cases he:u[i]=t[i]
   ·simp(disch:=first|go_size|fail)[aqY,hlt,i1,c2,i2,bH,he];simp(disch:=first|go_size|fail)[au2];exact⟨m,by omega,.mk (i+1) (show i+1+m=t.length by omega) (g_ htk h1 h2 he.symm) fr c1 c2 hn⟩
   ·simp(disch:=first|go_size|fail)[aqY,hlt,i1,c2,i2,bH,he];simp(disch:=first|go_size|fail)[auZ];simp(disch:=first|go_size|fail)[arY];refine⟨?_,fr⟩;rw[dZ (a:=t) λe=>he (by simp only[e])];simp
def axI:QE prog:=QE.fn 108 (λ_=>True) (fun(y:AV×AV×AV×AV×List Int×List (Int×Int)×List Int×List (Int×Int))=>match y with|⟨T,A,U,B,t,L,u,N⟩=>[.agg [T,A],.agg [U,B]]) (fun(y:AV×AV×AV×AV×List Int×List (Int×Int)×List Int×List (Int×Int)) (h:AH)=>match y with|⟨T,A,U,B,t,L,u,N⟩=>Sl (rnC t) T/\Sl (chC L) A/\Sl (rnC u) U/\Sl (chC N) B/\t.length<=1000000/\L.length<=1000000) (fun(y:AV×AV×AV×AV×List Int×List (Int×Int)×List Int×List (Int×Int))=>match y with|⟨T,A,U,B,t,L,u,N⟩=>.bool (dq t u&&dq L N)) (λh y hj hx=>match y,hx with|⟨T,A,U,B,t,L,u,N⟩,hx=>axG h T A U B t L u N hx)
theorem azd{tl h}(T:AV)(A:AV)(U:AV)(B:AV)(t:List Int)(L:List (Int×Int))(u:List Int)(N:List (Int×Int)){Q:QT}(hx:Sl (rnC t) T/\Sl (chC L) A/\Sl (rnC u) U/\Sl (chC N) B/\t.length<=1000000/\L.length<=1000000)(hq:Q (.bool (dq t u&&dq L N)) h):tb (axI::tl) 108 [.agg [T,A],.agg [U,B]] h Q:=aV (T,A,U,B,t,L,u,N) trivial hx hq
@[simp ↓] theorem aAT:TbT axI 108:=aH axI
def VQ(f:Nat)(p:Val->Bool)(v:Val):Prop:=∀(w:Val) (h:AH),GJ h->aK prog f [.agg (vC v),.agg (vC w)] h (.bool (p v&&dq v w)) h
def eVq(f:Nat)(p:Val->Bool)(l:List Val)(hv:∀v∈l,VQ f p v):QE prog:=
 ⟨f,λargs h Q=>∃v w,args=[.agg (vC v),.agg (vC w)]/\v∈l/\GJ h/\Q (.bool (p v&&dq v w)) h,λargs h Q ⟨v,w,h1,h2,h3,h4⟩=>by
  subst h1;exact⟨_,_,hv v h2 w h h3,h4⟩⟩
theorem aAg{f:Nat}{p:Val->Bool}{l:List Val}{hv:∀v∈l,VQ f p v}{tl h}(v w:Val){Q:QT}(hm:v∈l)(hg:GJ h)(hq:Q (.bool (p v&&dq v w)) h):tb (eVq f p l hv::tl) f [.agg (vC v),.agg (vC w)] h Q:=by
 rw[dJ _ tl f _ _ _ rfl];exact⟨v,w,rfl,hm,hg,hq⟩
inductive Q73(h:AH)(f:Nat)(p:Val->Bool)(A B:AV)(L M:List Val):Nat->List AV->AH->Prop
 |mk {m:Nat} {h':AH} (i:Nat):i+m=L.length->L.take i=M.take i->(L.take i).all p=true->Fr h h'->Q73 h f p A B L M m [B,.func (.func f) [] [],A,I L.length,I i] h'
theorem avp(v:Val):cut (vC v) 0 4=some (vC v):=by
 have:=aM (α:=vC v) (b:=[]) (n:=4) (cH _);rwa [am5]at this
theorem az3(f:Nat)(p:Val->Bool)(L M:List Val)(hv:∀v∈L,VQ f p v)(A B:AV)(h:AH)(hg:GJ h)(hA:Sl (vCs L) A)(hB:Sl (vCs M) B)(hL:L.length<=2000000):aK prog 73 [A,B,.func (.func f) [] []] h (.bool (L.all p&&dq L M)) h:=by
 refine kM (λ_=>.bool _) (C73 (aW [eVq f p L hv]) ?_);have l1:∀h:AH,bh h A=some (I L.length,h):=λh=>by rw[gW hA,dr]
 have l2:∀h:AH,bh h B=some (I M.length,h):=λh=>by rw[gW hB,dr]
 obtain⟨R,hR⟩:∃R,R=(L.all p&&dq L M):=⟨_,rfl⟩;rw[<-hR];by_cases hl:L.length=M.length
 ·have hl':(L.length:Int)=M.length:=by omega
  simp[g73,l1,l2,hl'];rw[<-hl'];refine⟨Q73 h f p A B L M,L.length,.mk 0 (by simp) rfl rfl (Fr.refl h),?_⟩;rintro m vs h' ⟨i,him,ht,hp,fr⟩;cases m with
  |zero=>
   have hlt:¬(i:Int)<L.length:=by omega
   simp[atZ,hlt];simp[aua,atx];have:L=M:=by
    rw[anc (by omega),anc (by omega)]at ht;exact ht
   rw[anc (by omega)]at hp;exact⟨by rw[hR,gv this,hp];rfl,fr⟩
  |succ m=>
   have h1:i<L.length:=by omega
   have h2:i<M.length:=by omega
   have hlt:(i:Int)<L.length:=by omega
   have i1:∀h:AH,aF h 4 A (I i)=some (.lz (vC L[i]),h):=λh=>gY hA (nD h1) (cH _)
   have i2:∀h:AH,aF h 4 B (I i)=some (.lz (vC M[i]),h):=λh=>gY hB (nD h2) (cH _)
   have k1:=avp L[i];have k2:=avp M[i];have a1:=cH L[i];have a2:=cH M[i];have b1:=iH L[i];have b2:=iH M[i];have s1:fi [I 0,I 0,.str [],.aa] 0 (vC L[i])=some (vC L[i]):=dG a1.symm;have s2:fi [I 0,I 0,.str [],.aa] 0 (vC M[i])=some (vC M[i]):=dG a2.symm;simp[atZ,hlt,i1,i2,k1,k2,a1,a2,b1,b2,s1,s2];simp[awA,hlt,i1,i2,k1,k2,a1,a2,b1,b2,s1,s2];have fr2:Fr h ((((h'.add (.cells [I 0,I 0,.str [],.aa])).set h'.nx (.cells (vC L[i]))).add (.cells [I 0,I 0,.str [],.aa])).set (h'.nx+1) (.cells (vC M[i]))):=(((fr.add _).set fr.nx _).add _).set (by have:=fr.nx;omega) _;generalize(((h'.add (.cells [I 0,I 0,.str [],.aa])).set h'.nx (.cells (vC L[i]))).add (.cells [I 0,I 0,.str [],.aa])).set (h'.nx+1) (.cells (vC M[i]))=h5 at*;refine aAg _ _ (anL h1) (hg.fr fr2) ?_;by_cases he:p L[i]=true/\L[i]=M[i]
   ·rw[he.1,gv he.2];simp(disch:=first|go_size|fail)[];refine⟨m,by omega,.mk (i+1) (show i+1+m=L.length by omega) (g_ ht h1 h2 he.2) ?_ fr2⟩;rw[aoj h1,List.all_append,hp];simp[he.1]
   ·have hb:(p L[i]&&dq L[i] M[i])=false:=by
     cases hp:p L[i]
     ·rfl
     ·rw[dZ λe=>he ⟨hp,e⟩];rfl
    rw[hb];simp[];simp[aua];refine⟨?_,fr2⟩;rw[hR];by_cases hLM:L=M
    ·subst hLM;have:p L[i]=false:=by
      cases hp:p L[i]
      ·rfl
      ·exact absurd ⟨hp,rfl⟩ he
     have:L.all p=false:=by
      rw[List.all_eq_false];exact⟨L[i],anL h1,by simp[this]⟩
     rw[this];rfl
    ·rw[dZ hLM];simp
 ·have hl':¬(L.length:Int)=M.length:=by omega
  simp[g73,l1,l2,hl'];exact⟨by rw[hR,dZ λe=>hl (by rw[e])];simp,Fr.refl h⟩
def eEq(f:Nat)(p:Val->Bool)(P:Val->Prop)(hv:∀v,P v->VQ f p v):QE prog:=
 ⟨73,λargs h Q=>∃A B L M,args=[A,B,.func (.func f) [] []]/\GJ h/\Sl (vCs L) A/\Sl (vCs M) B/\(∀v∈L,P v)/\L.length<=2000000/\Q (.bool (L.all p&&dq L M)) h,λargs h Q ⟨A,B,L,M,h1,h2,h3,h4,h5,h6,h7⟩=>by
  subst h1;exact⟨_,_,az3 f p L M (λv hm=>hv v (h5 v hm)) A B h h2 h3 h4 h6,h7⟩⟩
theorem ayk{f:Nat}{p:Val->Bool}{P:Val->Prop}{hv:∀v,P v->VQ f p v}{tl h}{A B:AV}(L M:List Val){Q:QT}(hg:GJ h)(hA:Sl (vCs L) A)(hB:Sl (vCs M) B)(hP:∀v∈L,P v)(hL:L.length<=2000000)(hq:Q (.bool (L.all p&&dq L M)) h):tb (eEq f p P hv::tl) 73 [A,B,.func (.func f) [] []] h Q:=by
 rw[dJ _ tl 73 _ _ _ rfl];exact⟨A,B,L,M,rfl,hg,hA,hB,hP,hL,hq⟩
@[simp ↓] theorem aBA{f:Nat}{p:Val->Bool}{P:Val->Prop}{hv:∀v,P v->VQ f p v}(l:List (QE prog))(g:Nat)(args:LA)(h:AH)(Q:QT)(hf:73≠g):tb (eEq f p P hv::l) g args h Q=tb l g args h Q:=aH _ l g args h Q hf
theorem atW(k n:Int)(s:Str)(l:List Val)(hl:l.length<=2000000)(hv:∀v∈l,VQ 140 (λ_=>true) v):VQ 140 (λ_=>true) (.mk k n s l):=by
 rintro⟨k',n',s',l'⟩ h hg;refine kM (λ_=>.bool _) (aAU (aW [eEq 140 (λ_=>true) (· ∈ l) hv]) ?_);have hvC:vC (.mk k n s l)=[I k,I n,.str s,.psl (vCs l)]:=by simp[vC]
 have hwC:vC (.mk k' n' s' l')=[I k',I n',.str s',.psl (vCs l')]:=by simp[vC]
 obtain⟨R,hR⟩:∃R,R=(true&&dq (Val.mk k n s l) (.mk k' n' s' l')):=⟨_,rfl⟩;simp only[<-hR];have hb1:fh h (.agg (vC (.mk k n s l)))=some (.ptr h.nx 0,h.add (.cells (vC (.mk k n s l)))):=by simp[fh,iH]
 have hb2:fh (h.add (.cells (vC (.mk k n s l)))) (.agg (vC (.mk k' n' s' l')))=some (.ptr (h.nx+1) 0,(h.add (.cells (vC (.mk k n s l)))).add (.cells (vC (.mk k' n' s' l')))):=by simp[fh,iH]
 simp only[az1,hb1,hb2,ag2];have fr:Fr h ((h.add (.cells (vC (.mk k n s l)))).add (.cells (vC (.mk k' n' s' l')))):=((Fr.refl h).add _).add _;have d1:((h.add (.cells (vC (.mk k n s l)))).add (.cells (vC (.mk k' n' s' l')))).ab h.nx=some [I k,I n,.str s,.psl (vCs l)]:=by rw[aC _ _ _ (by simp),<-hvC];exact bd _ _ _ rfl
 have d2:((h.add (.cells (vC (.mk k n s l)))).add (.cells (vC (.mk k' n' s' l')))).ab (h.nx+1)=some [I k',I n',.str s',.psl (vCs l')]:=by rw[<-hwC];exact bd _ _ _ (by simp)
 generalize(h.add (.cells (vC (.mk k n s l)))).add (.cells (vC (.mk k' n' s' l')))=h1 at*;by_cases q1:k=k'
 rotate_left
 ·simp[d1,d2,q1];simp[aqk];simp[aqm];simp[aqo];exact⟨by rw[hR,dZ λe=>q1 (by cases e;rfl)];rfl,fr⟩
 by_cases q2:n=n'
 rotate_left
 ·simp[d1,d2,q1];simp[aqk,d1,d2,q2];simp[aqm];simp[aqo];exact⟨by rw[hR,dZ λe=>q2 (by cases e;rfl)];rfl,fr⟩
 by_cases q3:s=s'
 rotate_left
 ·simp[d1,d2,q1];simp[aqk,d1,d2,q2];simp[aqm,d1,d2,q3];simp[aqo];exact⟨by rw[hR,dZ λe=>q3 (by cases e;rfl)];rfl,fr⟩
 simp[d1,d2,q1];simp[aqk,d1,d2,q2];simp[aqm,d1,d2,q3];refine ayk l l' (hg.fr fr) (.inl rfl) (.inl rfl) (λv hv=>hv) hl ?_;have hR2:R=dq l l':=by
  rw[hR];by_cases e:l=l'
  ·rw[gv e,gv (by rw[q1,q2,q3,e])];rfl
  ·rw[dZ e,dZ λe2=>e (by cases e2;rfl)];rfl
 have eQ:l.all (λ_=>true)=true:=by simp
 rw[eQ,<-hR2];unfold aqo;cases R
 ·simp[];exact fr
 ·simp[];exact fr
theorem aAb:∀ {v:Val},WB v->VQ 140 (λ_=>true) v:=λhv=>by
 induction hv with
 |mk k n s l hl _ ih=>exact atW k n s l hl ih
theorem av6(h:AH)(v w:Val)(hg:GJ h)(hv:WB v):aK prog 140 [.agg (vC v),.agg (vC w)] h (.bool (true&&dq v w)) h:=aAb hv w h hg
def aAa:QE prog:=QE.fn 140 GJ (fun(y:Val×Val)=>match y with|⟨v,w⟩=>[.agg (vC v),.agg (vC w)]) (fun(y:Val×Val)(h:AH)=>match y with|⟨v,w⟩=>WB v) (fun(y:Val×Val)=>match y with|⟨v,w⟩=>.bool (true&&dq v w)) (λh y hj hx=>match y,hx with|⟨v,w⟩,hx=>av6 h v w hj hx)
theorem ayM{tl h}(v:Val)(w:Val){Q:QT}(hj:GJ h)(hx:WB v)(hq:Q (.bool (true&&dq v w)) h):tb (aAa::tl) 140 [.agg (vC v),.agg (vC w)] h Q:=aV (v,w) hj hx hq
def okE(v:Val):Bool:=decide (mT v=0)
theorem axC(h:AH)(v w:Val)(hg:GJ h)(hv:WB v):aK prog 106 [.agg (vC v),.agg (vC w)] h (.bool (okE v&&dq v w)) h:=by
 refine kM (λ_=>.bool _) (aA3 (aW [e97,aAa]) ?_);obtain⟨R,hR⟩:∃R,R=(okE v&&dq v w):=⟨_,rfl⟩;rw[<-hR];have hb1:fh h (.agg (vC v))=some (.ptr h.nx 0,h.add (.cells (vC v))):=by simp[fh,iH]
 have hb2:fh (h.add (.cells (vC v))) (.agg (vC w))=some (.ptr (h.nx+1) 0,(h.add (.cells (vC v))).add (.cells (vC w))):=by simp[fh,iH]
 simp only[az0,hb1,hb2,ag2];have fr:Fr h ((h.add (.cells (vC v))).add (.cells (vC w))):=((Fr.refl h).add _).add _;have d1:((h.add (.cells (vC v))).add (.cells (vC w))).ab h.nx=some (vC v):=by rw[aC _ _ _ (by simp)];exact bd _ _ _ rfl
 have d2:((h.add (.cells (vC v))).add (.cells (vC w))).ab (h.nx+1)=some (vC w):=bd _ _ _ (by simp);generalize(h.add (.cells (vC v))).add (.cells (vC w))=h1 at*;have k1:=avp v;have k2:=avp w;have hg1:=hg.fr fr;simp[d1,k1];refine afU v hg1 trivial ?_;by_cases q1:mT v=0
 rotate_left
 ·simp[ar4,q1];simp[aq0];exact⟨by rw[hR];simp[okE,q1],fr⟩
 simp[ar4,q1,d2,k2];refine afU w hg1 trivial ?_;by_cases q2:mT w=0
 rotate_left
 ·simp[q2];simp[aq0];exact⟨by rw[hR,dZ λe=>q2 (by rw[<-e];exact q1)];simp,fr⟩
 simp[q2,d1,d2,k1,k2];refine ayM v w hg1 hv ?_;have:R=dq v w:=by rw[hR];simp[okE,q1]
 rw[Bool.true_and,<-this];unfold aq0;cases R
 ·simp[];exact fr
 ·simp[];exact fr
def aAd:QE prog:=QE.fn 106 GJ (fun(y:Val×Val)=>match y with|⟨v,w⟩=>[.agg (vC v),.agg (vC w)]) (fun(y:Val×Val)(h:AH)=>match y with|⟨v,w⟩=>WB v) (fun(y:Val×Val)=>match y with|⟨v,w⟩=>.bool (okE v&&dq v w)) (λh y hj hx=>match y,hx with|⟨v,w⟩,hx=>axC h v w hj hx)
theorem ay7{tl h}(v:Val)(w:Val){Q:QT}(hj:GJ h)(hx:WB v)(hq:Q (.bool (okE v&&dq v w)) h):tb (aAd::tl) 106 [.agg (vC v),.agg (vC w)] h Q:=aV (v,w) hj hx hq
theorem ayX(v:Val)(hv:WB v):VQ 74 okE v:=by
 intro w h hg;refine kM (λ_=>.bool _) (C74 (aW [e97,aAd]) ?_);obtain⟨R,hR⟩:∃R,R=(okE v&&dq v w):=⟨_,rfl⟩;rw[<-hR];have hb1:fh h (.agg (vC v))=some (.ptr h.nx 0,h.add (.cells (vC v))):=by simp[fh,iH]
 have hb2:fh (h.add (.cells (vC v))) (.agg (vC w))=some (.ptr (h.nx+1) 0,(h.add (.cells (vC v))).add (.cells (vC w))):=by simp[fh,iH]
 simp only[g74,hb1,hb2,ag2];have fr:Fr h ((h.add (.cells (vC v))).add (.cells (vC w))):=((Fr.refl h).add _).add _;have d1:((h.add (.cells (vC v))).add (.cells (vC w))).ab h.nx=some (vC v):=by rw[aC _ _ _ (by simp)];exact bd _ _ _ rfl
 have d2:((h.add (.cells (vC v))).add (.cells (vC w))).ab (h.nx+1)=some (vC w):=bd _ _ _ (by simp);generalize(h.add (.cells (vC v))).add (.cells (vC w))=h1 at*;have k1:=avp v;have k2:=avp w;have hg1:=hg.fr fr;simp[d1,k1];refine afU v hg1 trivial ?_;by_cases q1:mT v=0
 rotate_left
 ·simp[atO,q1];exact⟨by rw[hR];simp[okE,q1],fr⟩
 simp[atO,q1,d1,d2,k1,k2];refine ay7 v w hg1 hv ?_;rw[<-hR];cases R
 ·simp[];exact fr
 ·simp[];exact fr
theorem atc{α:Type}{a b:α}(h:dq a b=true):a=b:=by
 apply Classical.byContradiction;intro n;rw[dZ n]at h;cases h
def te1(i j:Inp):Prop:=i.tk=j.tk/\i.unit=j.unit/\i.dir=j.dir/\i.ext=j.ext/\i.n=j.n
def te2(i j:Inp):Prop:=i.a=j.a/\i.b=j.b/\(i.x=j.x/\i.y=j.y)/\i.oa=j.oa/\i.tt=j.tt
theorem aAW{cl:CL}{h h1:AH}{i j:Inp}{T CT CR C T' CT' CR' C':AV}{k:NT}(d1:h1.ab h.nx=some (txG i T CT CR C))(d2:h1.ab (h.nx+1)=some (txG j T' CT' CR' C'))(hk:k [.ptr h.nx 0,.ptr (h.nx+1) 0,.bool (pd (te1 i j))] h1):ap0 cl (.ptr h.nx 0) (.ptr (h.nx+1) 0) h1 k:=by
 have i0:(txG i T CT CR C)[0]?=some (I i.tk):=rfl;have i4:(txG i T CT CR C)[4]?=some (I i.unit):=rfl;have i5:(txG i T CT CR C)[5]?=some (I i.dir):=rfl;have i6:(txG i T CT CR C)[6]?=some (.bool i.ext):=rfl;have i7:(txG i T CT CR C)[7]?=some (I i.n):=rfl;have j0:(txG j T' CT' CR' C')[0]?=some (I j.tk):=rfl;have j4:(txG j T' CT' CR' C')[4]?=some (I j.unit):=rfl;have j5:(txG j T' CT' CR' C')[5]?=some (I j.dir):=rfl;have j6:(txG j T' CT' CR' C')[6]?=some (.bool j.ext):=rfl;have j7:(txG j T' CT' CR' C')[7]?=some (I j.n):=rfl;generalize txG i T CT CR C=X at*;generalize txG j T' CT' CR' C'=Y at*;by_cases q1:i.tk=j.tk
 rotate_left
 ·rw[ck (by simp only[te1,q1,an3,an5,anp])]at hk;simp[ap0,aqh,aqe,aqi,d1,d2,i0,i4,i5,i6,i7,j0,j4,j5,j6,j7,q1];exact hk
 by_cases q2:i.unit=j.unit
 rotate_left
 ·rw[ck (by simp only[te1,q2,an3,an5,anp])]at hk;simp[ap0,aqh,aqe,aqi,d1,d2,i0,i4,i5,i6,i7,j0,j4,j5,j6,j7,q1,q2];exact hk
 by_cases q3:i.dir=j.dir
 rotate_left
 ·rw[ck (by simp only[te1,q3,an3,an5,anp])]at hk;simp[ap0,aqh,aqe,aqi,d1,d2,i0,i4,i5,i6,i7,j0,j4,j5,j6,j7,q1,q2,q3];exact hk
 by_cases q4:i.ext=j.ext
 rotate_left
 ·rw[ck (by simp only[te1,q4,an3,an5,anp])]at hk;simp[ap0,aqh,aqe,aqi,d1,d2,i0,i4,i5,i6,i7,j0,j4,j5,j6,j7,q1,q2,q3,q4];exact hk
 by_cases q5:i.n=j.n
 rotate_left
 ·rw[ck (by simp only[te1,q5,an3,an5,anp])]at hk;simp[ap0,aqh,aqe,aqi,d1,d2,i0,i4,i5,i6,i7,j0,j4,j5,j6,j7,q1,q2,q3,q4,q5];rw[show(i.n==j.n)=false by simpa using q5];exact hk
 rw[pN ⟨q1,q2,q3,q4,q5⟩]at hk;simp[ap0,aqh,aqe,aqi,d1,d2,i0,i4,i5,i6,i7,j0,j4,j5,j6,j7,q1,q2,q3,q4,q5];exact hk
theorem aA7{cl:CL}{h h1:AH}{i j:Inp}{T CT CR C T' CT' CR' C':AV}{k:QT}(d1:h1.ab h.nx=some (txG i T CT CR C))(d2:h1.ab (h.nx+1)=some (txG j T' CT' CR' C'))(hk:k (.bool (pd (te2 i j))) h1):apy cl (.ptr h.nx 0) (.ptr (h.nx+1) 0) (.bool true) h1 k:=by
 have heq:bA [.int .i64,.int .i64] [I i.x,I i.y] [I j.x,I j.y]=some (decide (i.x=j.x/\i.y=j.y)):=by simp[bA,gn,aob]
 have i8:(txG i T CT CR C)[8]?=some (I i.a):=rfl;have i9:(txG i T CT CR C)[9]?=some (I i.b):=rfl;have i12:(txG i T CT CR C)[12]?=some (I i.oa):=rfl;have i14:(txG i T CT CR C)[14]?=some (I i.tt):=rfl;have j8:(txG j T' CT' CR' C')[8]?=some (I j.a):=rfl;have j9:(txG j T' CT' CR' C')[9]?=some (I j.b):=rfl;have j12:(txG j T' CT' CR' C')[12]?=some (I j.oa):=rfl;have j14:(txG j T' CT' CR' C')[14]?=some (I j.tt):=rfl;have ic:cut (txG i T CT CR C) 10 2=some [I i.x,I i.y]:=rfl;have jc:cut (txG j T' CT' CR' C') 10 2=some [I j.x,I j.y]:=rfl;generalize txG i T CT CR C=X at*;generalize txG j T' CT' CR' C'=Y at*;by_cases q1:i.a=j.a
 rotate_left
 ·rw[ck (by simp only[te2,q1,an3,an5,anp])]at hk;simp[apy,apT,apM,apR,d1,d2,i8,i9,i12,i14,j8,j9,j12,j14,ic,jc,q1];exact hk
 by_cases q2:i.b=j.b
 rotate_left
 ·rw[ck (by simp only[te2,q2,an3,an5,anp])]at hk;simp[apy,apT,apM,apR,d1,d2,i8,i9,i12,i14,j8,j9,j12,j14,ic,jc,q1,q2];exact hk
 by_cases q3:i.x=j.x/\i.y=j.y
 rotate_left
 ·rw[ck (by simp only[te2,q3,an3,an5,anp])]at hk;rw[anw q3]at heq;simp[apy,apT,apM,apR,d1,d2,i8,i9,i12,i14,j8,j9,j12,j14,ic,jc,q1,q2,heq];exact hk
 rw[anA q3]at heq;by_cases q4:i.oa=j.oa
 rotate_left
 ·rw[ck (by simp only[te2,q4,an3,an5,anp])]at hk;simp[apy,apT,apM,apR,d1,d2,i8,i9,i12,i14,j8,j9,j12,j14,ic,jc,q1,q2,heq,q4];exact hk
 by_cases q5:i.tt=j.tt
 rotate_left
 ·rw[ck (by simp only[te2,q5,an3,an5,anp])]at hk;simp[apy,apT,apM,apR,d1,d2,i8,i9,i12,i14,j8,j9,j12,j14,ic,jc,q1,q2,heq,q4,q5];rw[show(i.tt==j.tt)=false by simpa using q5];exact hk
 rw[pN ⟨q1,q2,q3,q4,q5⟩]at hk;simp[apy,apT,apM,apR,d1,d2,i8,i9,i12,i14,j8,j9,j12,j14,ic,jc,q1,q2,heq,q4,q5];exact hk
theorem aAQ{cl:CL}{h1:AH}{v2 v3:AV}{k:QT}(hk:k (.bool false) h1):apy cl v2 v3 (.bool false) h1 k:=by
 simp[apy];simp[apT];simp[apM];simp[apR];exact hk
theorem avM(h:AH)(i j:Inp)(T CT CR C T' CT' CR' C':AV)(hx:(Sl (rnC i.t) T/\Sl (rnC i.ct) CT/\Sl (chC i.cr) CR/\Sl (cbC i.cls) C)/\(Sl (rnC j.t) T'/\Sl (rnC j.ct) CT'/\Sl (chC j.cr) CR'/\Sl (cbC j.cls) C')/\i.t.length<=1000000/\i.ct.length<=1000000/\i.cr.length<=1000000/\i.cls.length<=2000000):aK prog 75 [.agg (txG i T CT CR C),.agg (txG j T' CT' CR' C')] h (.bool (pd (teE i j))) h:=by
 obtain⟨⟨hT,hCT,hCR,hC⟩,⟨hT',XC,Xx,hC'⟩,b1,b2,b3,b4⟩:=hx;refine kM (λ_=>.bool _) (C75 (aW [ax_,axI,aAf]) ?_);have o1:dj (txG i T CT CR C)=true:=by
  have a1:=CQ hT;have a2:=CQ hCT;have a3:=CQ hCR;have a4:=CQ hC;simp only[txG,dj,aoE,a1,a2,a3,a4];rfl
 have o2:dj (txG j T' CT' CR' C')=true:=by
  have a1:=CQ hT';have a2:=CQ XC;have a3:=CQ Xx;have a4:=CQ hC';simp only[txG,dj,aoE,a1,a2,a3,a4];rfl
 have x13:(txG i T CT CR C)[13]?=some C:=rfl;have x1:(txG i T CT CR C)[1]?=some T:=rfl;have xc:cut (txG i T CT CR C) 2 2=some [CT,CR]:=rfl;have y13:(txG j T' CT' CR' C')[13]?=some C':=rfl;have y1:(txG j T' CT' CR' C')[1]?=some T':=rfl;have yc:cut (txG j T' CT' CR' C') 2 2=some [CT',CR']:=rfl;have hb1:fh h (.agg (txG i T CT CR C))=some (.ptr h.nx 0,h.add (.cells (txG i T CT CR C))):=by simp[fh,o1]
 have hb2:fh (h.add (.cells (txG i T CT CR C))) (.agg (txG j T' CT' CR' C'))=some (.ptr (h.nx+1) 0,(h.add (.cells (txG i T CT CR C))).add (.cells (txG j T' CT' CR' C'))):=by simp[fh,o2]
 simp only[g75,hb1,hb2,ag2];have fr:Fr h ((h.add (.cells (txG i T CT CR C))).add (.cells (txG j T' CT' CR' C'))):=((Fr.refl h).add _).add _;have c1:((h.add (.cells (txG i T CT CR C))).add (.cells (txG j T' CT' CR' C'))).ab h.nx=some (txG i T CT CR C):=by rw[aC _ _ _ (by simp)];exact bd _ _ _ rfl
 have c2:((h.add (.cells (txG i T CT CR C))).add (.cells (txG j T' CT' CR' C'))).ab (h.nx+1)=some (txG j T' CT' CR' C'):=bd _ _ _ (by simp);generalize(h.add (.cells (txG i T CT CR C))).add (.cells (txG j T' CT' CR' C'))=h1 at*;obtain⟨fl,hfl⟩:∃fl,fl=(!(dq i.t j.t)||(!(dq i.ct j.ct&&dq i.cr j.cr) || !(dq i.cls j.cls))):=⟨_,rfl⟩;refine⟨λvs h2=>vs=[.ptr h.nx 0,.ptr (h.nx+1) 0,.bool fl]/\h2=h1,?_,?_⟩
 ·simp[awT,c1,c2,x1,y1];refine ayS T T' i.t j.t ⟨hT,hT',b1⟩ ?_;cases hq:dq i.t j.t
  ·rw[hq]at hfl;simp[atu];simp[asd,hfl]
  ·rw[hq]at hfl;simp[atu,c1,c2,xc,yc];refine azd CT CR CT' CR' i.ct i.cr j.ct j.cr ⟨hCT,hCR,XC,Xx,b2,b3⟩ ?_;cases hq2:(dq i.ct j.ct&&dq i.cr j.cr)
   ·rw[hq2]at hfl;simp[];simp[asd,hfl]
   ·rw[hq2]at hfl;simp[];simp[asd,c1,c2,x13,y13];refine azn C C' i.cls j.cls ⟨hC,hC',b4⟩ ?_;cases hq3:dq i.cls j.cls
    ·rw[hq3]at hfl;simp[hfl]
    ·rw[hq3]at hfl;simp[hfl]
 ·rintro vs h2 ⟨rfl,rfl⟩;cases hf:fl
  ·rw[hf]at hfl;have hfl:=hfl.symm;simp only[anC,Bool.not_eq_false',amZ]at hfl;have e1:=atc hfl.1;have e2:=atc hfl.2.1.1;have e3:=atc hfl.2.1.2;have e4:=atc hfl.2.2;simp[atr];refine⟨λvs h3=>vs=[.ptr h.nx 0,.ptr (h.nx+1) 0,.bool (pd (te1 i j))]/\h3=h2,aAW c1 c2 ⟨rfl,rfl⟩,?_⟩;rintro vs h3 ⟨rfl,rfl⟩;simp[];by_cases q1:te1 i j
   rotate_left
   ·rw[ck q1];refine aAQ ⟨?_,fr⟩;rw[ck];rintro⟨_,f1,f2,f3,f4,f5,f6,f7,f8,f9,f10⟩;exact q1 ⟨f1,f2,f3,f4,f5⟩
   rw[pN q1];refine aA7 c1 c2 ⟨?_,fr⟩;have:teE i j↔te2 i j:=⟨fun⟨_,f1,f2,f3,f4,f5,f6,f7,f8,f9,f10⟩=>⟨f6,f7,f8,f9,f10⟩,fun⟨f6,f7,f8,f9,f10⟩=>⟨⟨e4,e1,e2,e3⟩,q1.1,q1.2.1,q1.2.2.1,q1.2.2.2.1,q1.2.2.2.2,f6,f7,f8,f9,f10⟩⟩;rw[show teE i j=te2 i j from propext this]
  ·rw[hf]at hfl;simp[atr];refine⟨ck ?_,fr⟩;rintro⟨⟨e1,e2,e3,e4⟩,_⟩;rw[gv e1,gv e2,gv e3,gv e4]at hfl;simp at hfl
def e75:QE prog:=QE.fn 75 (λ_=>True) (fun(y:Inp×Inp×AV×AV×AV×AV×AV×AV×AV×AV)=>match y with|⟨i,j,T,CT,CR,C,T',CT',CR',C'⟩=>[.agg (txG i T CT CR C),.agg (txG j T' CT' CR' C')]) (fun(y:Inp×Inp×AV×AV×AV×AV×AV×AV×AV×AV)(h:AH)=>match y with|⟨i,j,T,CT,CR,C,T',CT',CR',C'⟩=>(Sl (rnC i.t) T/\Sl (rnC i.ct) CT/\Sl (chC i.cr) CR/\Sl (cbC i.cls) C)/\(Sl (rnC j.t) T'/\Sl (rnC j.ct) CT'/\Sl (chC j.cr) CR'/\Sl (cbC j.cls) C')/\i.t.length<=1000000/\i.ct.length<=1000000/\i.cr.length<=1000000/\i.cls.length<=2000000) (fun(y:Inp×Inp×AV×AV×AV×AV×AV×AV×AV×AV)=>match y with|⟨i,j,T,CT,CR,C,T',CT',CR',C'⟩=>.bool (pd (teE i j))) (λh y hj hx=>match y,hx with|⟨i,j,T,CT,CR,C,T',CT',CR',C'⟩,hx=>avM h i j T CT CR C T' CT' CR' C' hx)
theorem azF{tl h}(i:Inp)(j:Inp)(T:AV)(CT:AV)(CR:AV)(C:AV)(T':AV)(CT':AV)(CR':AV)(C':AV){Q:QT}(hx:(Sl (rnC i.t) T/\Sl (rnC i.ct) CT/\Sl (chC i.cr) CR/\Sl (cbC i.cls) C)/\(Sl (rnC j.t) T'/\Sl (rnC j.ct) CT'/\Sl (chC j.cr) CR'/\Sl (cbC j.cls) C')/\i.t.length<=1000000/\i.ct.length<=1000000/\i.cr.length<=1000000/\i.cls.length<=2000000)(hq:Q (.bool (pd (teE i j))) h):tb (e75::tl) 75 [.agg (txG i T CT CR C),.agg (txG j T' CT' CR' C')] h Q:=aV (i,j,T,CT,CR,C,T',CT',CR',C') trivial hx hq
def si1(i j:Inp):Prop:=i.kind=j.kind/\(i.pk=j.pk/\i.pid=j.pid/\i.px=j.px/\i.py=j.py/\i.pt=j.pt/\i.pw=j.pw)/\(i.key=j.key/\i.mM=j.mM)/\i.time=j.time/\(i.sw=j.sw/\i.sh=j.sh)/\(i.nP=j.nP/\i.high=j.high/\i.scale=j.scale)
def si2(i j:Inp):Prop:=i.ver=j.ver/\i.node=j.node/\i.act=j.act/\i.frm=j.frm/\i.too=j.too/\i.rt=j.rt
instance (i j:Inp):Decidable (si2 i j):=by unfold si2;infer_instance
theorem ax4(i j:Inp):eqI i j↔si1 i j/\si2 i j/\i.args=j.args/\teE i j:=by
 constructor
 ·rintro⟨h1,h2,h3,h4,h5,h6,h7,h8,h9⟩;exact⟨⟨h1,h2,h3,h4,h5,h6⟩,h8,h7,h9⟩
 ·rintro⟨⟨h1,h2,h3,h4,h5,h6⟩,h8,h7,h9⟩;exact⟨h1,h2,h3,h4,h5,h6,h7,h8,h9⟩
theorem aAX{cl:CL}{h h1:AH}{i j:Inp}{A T CT CR C A' T' CT' CR' C':AV}{k:NT}(d1:h1.ab h.nx=some (inG i A T CT CR C))(d2:h1.ab (h.nx+1)=some (inG j A' T' CT' CR' C'))(hk:k [.ptr h.nx 0,.ptr (h.nx+1) 0,.bool (pd (si1 i j))] h1):apH cl (.ptr h.nx 0) (.ptr (h.nx+1) 0) h1 k:=by
 have i0:(inG i A T CT CR C)[0]?=some (I i.kind):=rfl;have i9:(inG i A T CT CR C)[9]?=some (I i.time):=rfl;have ip:cut (inG i A T CT CR C) 1 6=some [I i.pk,I i.pid,I i.px,I i.py,I i.pt,I i.pw]:=rfl;have ik:cut (inG i A T CT CR C) 7 2=some [I i.key,I i.mM]:=rfl;have iz:cut (inG i A T CT CR C) 10 2=some [I i.sw,I i.sh]:=rfl;have im:cut (inG i A T CT CR C) 12 3=some [.bool i.nP,.bool i.high,I i.scale]:=rfl;have j0:(inG j A' T' CT' CR' C')[0]?=some (I j.kind):=rfl;have j9:(inG j A' T' CT' CR' C')[9]?=some (I j.time):=rfl;have jp:cut (inG j A' T' CT' CR' C') 1 6=some [I j.pk,I j.pid,I j.px,I j.py,I j.pt,I j.pw]:=rfl;have jk:cut (inG j A' T' CT' CR' C') 7 2=some [I j.key,I j.mM]:=rfl;have jz:cut (inG j A' T' CT' CR' C') 10 2=some [I j.sw,I j.sh]:=rfl;have jm:cut (inG j A' T' CT' CR' C') 12 3=some [.bool j.nP,.bool j.high,I j.scale]:=rfl;have ep:bA [.int .i64,.int .i64,.int .i64,.int .i64,.int .i64,.int .i64] [I i.pk,I i.pid,I i.px,I i.py,I i.pt,I i.pw] [I j.pk,I j.pid,I j.px,I j.py,I j.pt,I j.pw]=some (decide (i.pk=j.pk/\i.pid=j.pid/\i.px=j.px/\i.py=j.py/\i.pt=j.pt/\i.pw=j.pw)):=by simp[bA,gn,aob]
 have ek:bA [.int .i64,.int .i64] [I i.key,I i.mM] [I j.key,I j.mM]=some (decide (i.key=j.key/\i.mM=j.mM)):=by simp[bA,gn,aob]
 have ez:bA [.int .i64,.int .i64] [I i.sw,I i.sh] [I j.sw,I j.sh]=some (decide (i.sw=j.sw/\i.sh=j.sh)):=by simp[bA,gn,aob]
 have em:bA [.bool,.bool,.int .i64] [.bool i.nP,.bool i.high,I i.scale] [.bool j.nP,.bool j.high,I j.scale]=some (decide (i.nP=j.nP/\i.high=j.high/\i.scale=j.scale)):=by simp[bA,gn,aob]
 generalize inG i A T CT CR C=X at*;generalize inG j A' T' CT' CR' C'=Y at*;by_cases q1:i.kind=j.kind
 rotate_left
 ·rw[ck (by simp only[si1,q1,an3,an5,anp])]at hk;simp[apH,apW,apQ,apN,apZ,d1,d2,i0,i9,ip,ik,iz,im,j0,j9,jp,jk,jz,jm,q1];exact hk
 by_cases q2:i.pk=j.pk/\i.pid=j.pid/\i.px=j.px/\i.py=j.py/\i.pt=j.pt/\i.pw=j.pw
 rotate_left
 ·rw[ck (by simp only[si1,q2,an3,an5,anp])]at hk;rw[anw q2]at ep;simp[apH,apW,apQ,apN,apZ,d1,d2,i0,i9,ip,ik,iz,im,j0,j9,jp,jk,jz,jm,q1,ep];exact hk
 rw[anA q2]at ep;by_cases q3:i.key=j.key/\i.mM=j.mM
 rotate_left
 ·rw[ck (by simp only[si1,q3,an3,an5,anp])]at hk;rw[anw q3]at ek;simp[apH,apW,apQ,apN,apZ,d1,d2,i0,i9,ip,ik,iz,im,j0,j9,jp,jk,jz,jm,q1,ep,ek];exact hk
 rw[anA q3]at ek;by_cases q4:i.time=j.time
 rotate_left
 ·rw[ck (by simp only[si1,q4,an3,an5,anp])]at hk;simp[apH,apW,apQ,apN,apZ,d1,d2,i0,i9,ip,ik,iz,im,j0,j9,jp,jk,jz,jm,q1,ep,ek,q4];exact hk
 by_cases q5:i.sw=j.sw/\i.sh=j.sh
 rotate_left
 ·rw[ck (by simp only[si1,q5,an3,an5,anp])]at hk;rw[anw q5]at ez;simp[apH,apW,apQ,apN,apZ,d1,d2,i0,i9,ip,ik,iz,im,j0,j9,jp,jk,jz,jm,q1,ep,ek,q4,ez];exact hk
 rw[anA q5]at ez;by_cases q6:i.nP=j.nP/\i.high=j.high/\i.scale=j.scale
 rotate_left
 ·rw[ck (by simp only[si1,q6,an3,an5,anp])]at hk;rw[anw q6]at em;simp[apH,apW,apQ,apN,apZ,d1,d2,i0,i9,ip,ik,iz,im,j0,j9,jp,jk,jz,jm,q1,ep,ek,q4,ez,em];exact hk
 rw[anA q6]at em;rw[pN ⟨q1,q2,q3,q4,q5,q6⟩]at hk;simp[apH,apW,apQ,apN,apZ,d1,d2,i0,i9,ip,ik,iz,im,j0,j9,jp,jk,jz,jm,q1,ep,ek,q4,ez,em];exact hk
def arb(i j:Inp):Bool:=i.args.all okE&&dq i j
theorem awU(h:AH)(i j:Inp)(cs ds:LA)(hg:GJ h)(hx:InC i cs/\InC j ds/\InB i):aK prog 30 [.agg cs,.agg ds] h (.bool (arb i j)) h:=by
 obtain⟨⟨A,T,CT,CR,C,rfl,hA,hT,hCT,hCR,hC⟩,⟨A',T',CT',CR',C',rfl,hA',hT',XC,Xx,hC'⟩,hB⟩:=hx;have e0:dq i j=pd (si1 i j/\si2 i j/\i.args=j.args/\teE i j):=by
  rw[<-show eqI i j=(si1 i j/\si2 i j/\i.args=j.args/\teE i j)from propext (ax4 i j)];by_cases he:i=j
  ·rw[gv he,pN ((JS i j).2 he)]
  ·rw[dZ he,ck λe=>he ((JS i j).1 e)]
 refine kM (λ_=>.bool _) (C30 (aW [eEq 74 okE WB ayX,e75]) ?_);obtain⟨R,hR⟩:∃R,R=arb i j:=⟨_,rfl⟩;rw[<-hR];unfold arb at hR;rw[e0]at hR;have htx:(Sl (rnC i.t) T/\Sl (rnC i.ct) CT/\Sl (chC i.cr) CR/\Sl (cbC i.cls) C)/\(Sl (rnC j.t) T'/\Sl (rnC j.ct) CT'/\Sl (chC j.cr) CR'/\Sl (cbC j.cls) C')/\i.t.length<=1000000/\i.ct.length<=1000000/\i.cr.length<=1000000/\i.cls.length<=2000000:=⟨⟨hT,hCT,hCR,hC⟩,⟨hT',XC,Xx,hC'⟩,hB.t,hB.ct,hB.cr,hB.cls⟩;have hb1:fh h (.agg (inG i A T CT CR C))=some (.ptr h.nx 0,h.add (.cells (inG i A T CT CR C))):=rfl;have hb2:fh (h.add (.cells (inG i A T CT CR C))) (.agg (inG j A' T' CT' CR' C'))=some (.ptr (h.nx+1) 0,(h.add (.cells (inG i A T CT CR C))).add (.cells (inG j A' T' CT' CR' C'))):=rfl;simp only[g30,hb1,hb2,ag2];have fr:Fr h ((h.add (.cells (inG i A T CT CR C))).add (.cells (inG j A' T' CT' CR' C'))):=((Fr.refl h).add _).add _;have c1:((h.add (.cells (inG i A T CT CR C))).add (.cells (inG j A' T' CT' CR' C'))).ab h.nx=some (inG i A T CT CR C):=by rw[aC _ _ _ (by simp)];exact bd _ _ _ rfl
 have c2:((h.add (.cells (inG i A T CT CR C))).add (.cells (inG j A' T' CT' CR' C'))).ab (h.nx+1)=some (inG j A' T' CT' CR' C'):=bd _ _ _ (by simp);generalize(h.add (.cells (inG i A T CT CR C))).add (.cells (inG j A' T' CT' CR' C'))=h1 at*;have hg1:=hg.fr fr;refine⟨λvs h2=>vs=[.ptr h.nx 0,.ptr (h.nx+1) 0,.bool (pd (si1 i j))]/\h2=h1,aAX c1 c2 ⟨rfl,rfl⟩,?_⟩;rintro vs h2 ⟨rfl,rfl⟩;simp[];have i15:(inG i A T CT CR C)[15]?=some A:=rfl;have j15:(inG j A' T' CT' CR' C')[15]?=some A':=rfl;have ir:cut (inG i A T CT CR C) 16 6=some [I i.ver,I i.node,I i.act,I i.frm,I i.too,.str i.rt]:=rfl;have jr:cut (inG j A' T' CT' CR' C') 16 6=some [I j.ver,I j.node,I j.act,I j.frm,I j.too,.str j.rt]:=rfl;have it:cut (inG i A T CT CR C) 22 15=some (txG i T CT CR C):=rfl;have jt:cut (inG j A' T' CT' CR' C') 22 15=some (txG j T' CT' CR' C'):=rfl;have er:bA [.int .i64,.int .i64,.int .i64,.int .i64,.int .i64,.str] [I i.ver,I i.node,I i.act,I i.frm,I i.too,.str i.rt] [I j.ver,I j.node,I j.act,I j.frm,I j.too,.str j.rt]=some (decide (si2 i j)):=by
  rw[show decide (si2 i j)=decide (i.ver=j.ver/\i.node=j.node/\i.act=j.act/\i.frm=j.frm/\i.too=j.too/\i.rt=j.rt)from decide_eq_decide.2 Iff.rfl];simp[bA,gn,aob]
 generalize inG i A T CT CR C=X at*;generalize inG j A' T' CT' CR' C'=Y at*;by_cases q1:si1 i j
 rotate_left
 ·rw[ck q1];simp[arZ];simp[asj];simp[arw];exact⟨by rw[hR,ck λe=>q1 e.1];simp,fr⟩
 rw[pN q1];by_cases q2:si2 i j
 rotate_left
 ·rw[anw q2]at er;simp[arZ,c1,c2,ir,jr,er];simp[asj];simp[arw];exact⟨by rw[hR,ck λe=>q2 e.2.1];simp,fr⟩
 rw[anA q2]at er;simp[arZ,c1,c2,ir,jr,er,i15];simp[asj,c2,j15];refine ayk i.args j.args hg1 hA hA' hB.wb hB.args ?_;cases hb:(i.args.all okE&&dq i.args j.args)
 ·simp[];simp[arw];refine⟨?_,fr⟩;rw[hR];cases ha:i.args.all okE
  ·rfl
  ·rw[ha]at hb;rw[ck λe=>by rw[gv e.2.2.1]at hb;cases hb];rfl
 ·simp[c1,c2,it,jt];simp[arw];refine azF i j T CT CR C T' CT' CR' C' htx ?_;rw[amZ]at hb;have hR2:R=pd (teE i j):=by
   rw[hR,hb.1,Bool.true_and];have e3:=atc hb.2;congr 1
   exact propext ⟨λe=>e.2.2.2,λe=>⟨q1,q2,e3,e⟩⟩
  rw[<-hR2];cases R
  ·simp[];exact fr
  ·simp[];exact fr
def e30:QE prog:=QE.fn 30 GJ (fun(y:Inp×Inp×List AV×LA)=>match y with|⟨i,j,cs,ds⟩=>[.agg cs,.agg ds]) (fun(y:Inp×Inp×List AV×LA)(h:AH)=>match y with|⟨i,j,cs,ds⟩=>InC i cs/\InC j ds/\InB i) (fun(y:Inp×Inp×List AV×LA)=>match y with|⟨i,j,cs,ds⟩=>.bool (arb i j)) (λh y hj hx=>match y,hx with|⟨i,j,cs,ds⟩,hx=>awU h i j cs ds hj hx)
theorem azW{tl h}(i:Inp)(j:Inp)(cs:LA)(ds:LA){Q:QT}(hj:GJ h)(hx:InC i cs/\InC j ds/\InB i)(hq:Q (.bool (arb i j)) h):tb (e30::tl) 30 [.agg cs,.agg ds] h Q:=aV (i,j,cs,ds) hj hx hq
@[simp ↓] theorem aBy:TbT e30 30:=aH e30
theorem avt{h:AH}{id:Nat}{p:AV}(hg:h.H.get id=some (.typ (2*85+1) [p,.aa])):aK prog 32 [.ptr id 0] h (.str []) h:=by
 refine aK.lib Go.Proofs.ayF λown β w cS hs hR=>?_
 obtain⟨c0,rfl,v0⟩:=uv hR;cases v0 with
 |ptr _ _ b base hβ=>
 obtain⟨b',eI,hβ',hno,hor⟩:=hs.obj id _ hg;rw[hβ]at hβ';cases hβ';obtain⟨rfl,cur,q1,q2,q3⟩:=hor;rw[S0]at q1;have hsz:cur.size=2:=q2.2 (by omega);obtain⟨pv,vv,rfl⟩:∃pv vv,cur = #[pv,vv]:=by
  obtain⟨l⟩:=cur;match l,hsz with
  |[x,y],_=>exact⟨x,y,rfl⟩
 have r1:=q3 1 _ vv rfl rfl;cases r1;refine(Any.Builder_String_nil atD apX w.heap.size b pv w q1).mono ?_;rintro e w' ⟨rfl,hb⟩;exact⟨_,rfl,.str [],hb⟩
def aAs:QE prog:=
 ⟨32,λargs h Q=>∃id p,args=[.ptr id 0]/\h.H.get id=some (.typ 171 [p,.aa])/\Q (.str []) h,λargs h Q ⟨id,p,h1,h2,h3⟩=>by
  subst h1;exact⟨_,_,avt h2,h3⟩⟩
def azR:QE prog:=
 ⟨32,λargs h Q=>e32.q args h Q\/aAs.q args h Q,λargs h Q hw=>by
  rcases hw with hw|hw
  ·exact e32.ok args h Q hw
  ·exact aAs.ok args h Q hw⟩
theorem ayO{tl:List (QE prog)}{h0 h:AH}{id:Nat}{bs:Str}{Q:QT}(b:BD h0 h id bs)(hq:∀h2,Fr h0 h2->Q (.str bs) h2):tb (azR::tl) 32 [.ptr id 0] h Q:=by
 rw[dJ _ tl 32 _ _ _ rfl];by_cases hs:bs=[]
 ·subst hs;obtain⟨p,bv,og,h1,h2,h3,h4⟩:=b.st;rcases h3 with⟨rfl,_,_⟩|⟨g,g1,g2,g3,_⟩
  ·exact .inr ⟨id,p,rfl,h1,hq h b.fr⟩
  ·exact absurd rfl g3
 ·have:=ayo (tl:=[]) b hs hq;rw[dJ _ [] 32 _ _ _ rfl]at this;exact .inl this
structure RdI(i:Inp):Prop where
 lb:LB i
 ib:InB i
 lf:PI (p8 i)
 len:(p8 i).length<=38000
 ok:nj (p8 i)=true
 inc:InC i (iM (p8 i)).1
 chk:i.args.all okE=true
def ao7:List Inp->Str
 |[]=>[]
 |i::L=>p8 i++(10::ao7 L)
theorem axq(a b:List Inp):ao7 (a++b)=ao7 a++ao7 b:=by
 induction a with
 |nil=>rfl
 |cons i a ih=>simp[ao7,ih]
theorem avT{L:List Inp}(h:∀i∈L,(p8 i).length<=38000):(ao7 L).length<=38001*L.length:=by
 induction L with
 |nil=>simp[ao7]
 |cons i L ih=>
  have h1:=h i (by simp);have h2:=ih λj hj=>h j (by simp[hj])
  simp only[ao7,amX,am6]at*;omega
theorem ata:∀ {s:Str},PI s->Lib.indexByte s 10 = -1
 |[],_=>rfl
 |c::s,h=>by
  have h1:=h c (by simp);have h2:=ata (s:=s) λd hd=>h d (by simp[hd])
  unfold Lib.indexByte;rw[h2];simp[h1]
theorem at7{i:Inp}(h:i.args.all okE=true):arb i i=true:=by
 unfold arb;rw[h,gv rfl];rfl
inductive Q17(h:AH)(A:AV)(L:List Inp):Nat->List AV->AH->Prop
 |mk {m:Nat} {h':AH} (i:Nat):i+m=L.length->BD h h' h.nx (ao7 (L.take i))->Q17 h A L m [.ptr h.nx 0,A,I L.length,I i] h'
theorem axM(h:AH)(A:AV)(L:List Inp)(css:List (LA))(hg:GJ h)(hx:Lst h A css/\wi L css/\L.length<=200/\∀i∈L,RdI i):aK prog 17 [A] h (.tup [.str (ao7 L),I 0]) h:=by
 obtain⟨hA,⟨hl1,hc1⟩,agn,hB⟩:=hx;refine kM (λH=>gP (.str _) (.int _ _)) (C17 (aW [e28,e27,e29,e30,e31,azR]) ?_);have l1:∀h:AH,bh h A=some (I L.length,h):=λh=>by rw[hA.len,hl1]
 have aAy:¬(200:Int)<L.length:=by omega
 have hnt:∀h:AH,kX h (.NU 85 [.dS,.aa]) []=some (.ptr h.nx 0,h.add (.typ 171 [.dS,.aa])):=λh=>rfl
 simp[g17,l1,aAy];rw[hnt];simp[l1];refine⟨Q17 h A L,L.length,.mk 0 (by omega) (BD.start (Fr.refl h)),?_⟩;rintro m vs h' ⟨i,him,b⟩;have hg':=hg.fr b.fr;cases m with
 |zero=>
  obtain rfl:i=L.length:=by omega
  rw[aCg]at b;simp[atE];simp[awn];unfold atL;simp[];refine ayO b λh2 f2=>?_
  exact⟨rfl,f2⟩
 |succ m=>
  have h1:i<L.length:=by omega
  have hlt:(i:Int)<L.length:=by omega
  have g1:css[i]?=some (css[i]'(by omega)):=by simp
  have q1:=hc1 i L[i] _ (by simp) g1;have hb:=hB _ (anL h1);have htk:ao7 (L.take (i+1))=ao7 (L.take i)++(p8 L[i]++[10]):=by rw[aCh,am0 h1,axq];rfl
  have hfl:=avT (L:=L.take i) λj hj=>(hB j (aCp hj)).len
  have htl:(L.take i).length<=200:=by rw[anN];omega
  generalize css[i]'(by omega)=c at*;generalize L[i]=x at*;obtain⟨p,hp⟩:=hA.at_ i c g1;have p1:=hp h' b.fr;have p1a:=p1.1;have p1b:=p1.2;have hll:=q1.len;have hlo:dj c=true:=by
   obtain⟨A,T,CT,CR,C,rfl,hA,hT,hCT,hCR,hC⟩:=q1;have a0:=CQ hA;have a1:=CQ hT;have a2:=CQ hCT;have a3:=CQ hCR;have a4:=CQ hC;simp only[inG,dj,aoE,a0,a1,a2,a3,a4];rfl
  obtain⟨Z,hZ⟩:∃Z:List AV,Z=zIn:=⟨_,rfl⟩;have hZ':Z=[I 0,I 0,I 0,I 0,I 0,I 0,I 0,I 0,I 0,I 0,I 0,I 0,.bool false,.bool false,I 0,.aa,I 0,I 0,I 0,I 0,I 0,.str [],I 0,.aa,.aa,.aa,I 0,I 0,.bool false,I 0,I 0,I 0,I 0,I 0,I 0,.aa,I 0]:=hZ;have hZl:Z.length=37:=by rw[hZ];rfl
  have hsp:∀ln:List AV,ln.length=37->fi Z 0 ln=some ln:=λln h=>dG (by rw[h,hZl])
  have fk:∀ln:List AV,ln.length=37->cut ln 0 37=some ln:=λln h=>by
   have:=aM (α:=ln) (b:=[]) (n:=37) h;rwa [am5]at this
  have hs1:=hsp c hll;have hk1:=fk c hll;unfold atE;rw[<-hZ'];simp[hlt,p1a,p1b,hll,hlo,hs1,hk1];have b2:=b.du (h2:=(h'.add (.cells Z)).set h'.nx (.cells c)) (by simp) λj hj=>by rw[au,amU (by omega),az,amU (by omega)]
  have hc6:((h'.add (.cells Z)).set h'.nx (.cells c)).ab h'.nx=some c:=eD _ _ _ _ rfl;have hn6:h'.nx<((h'.add (.cells Z)).set h'.nx (.cells c)).nx:=by simp
  generalize(h'.add (.cells Z)).set h'.nx (.cells c)=h2 at*;generalize h'.nx=k6 at*;have hg2:=hg.fr b2.fr;refine az7 x c hg2 ⟨q1,hb.lb⟩ ?_;have hwl:=hb.len;have hlf:=hb.lf;have hok:=hb.ok;have hin:=hb.inc;refine aeZ (p8 x) hg2 (by omega) ?_;generalize p8 x=s at*;rw[hok];generalize(iM s).1=ln at*;have hln:=hin.len;have aBb:dj ln=true:=by
   obtain⟨A,T,CT,CR,C,rfl,hA,hT,hCT,hCR,hC⟩:=hin;have a0:=CQ hA;have a1:=CQ hT;have a2:=CQ hCT;have a3:=CQ hCR;have a4:=CQ hC;simp only[inG,dj,aoE,a0,a1,a2,a3,a4];rfl
  have hs2:=hsp ln hln;have hk2:=fk ln hln;unfold awm;rw[<-hZ'];simp[hln,aBb,hs2];have b3:=b2.du (h2:=(h2.add (.cells Z)).set h2.nx (.cells ln)) (by simp) λj hj=>by rw[au,amU (by omega),az,amU (by omega)]
  have hc8:((h2.add (.cells Z)).set h2.nx (.cells ln)).ab h2.nx=some ln:=eD _ _ _ _ rfl;have aBi:((h2.add (.cells Z)).set h2.nx (.cells ln)).ab k6=some c:=by rw[ak _ _ _ _ (by omega),aC _ _ _ (by omega)];exact hc6
  generalize(h2.add (.cells Z)).set h2.nx (.cells ln)=h3 at*;generalize h2.nx=k8 at*;have hg3:=hg.fr b3.fr;refine⟨λvs h4=>vs=[.ptr h.nx 0,.str s,A,I L.length,I i,.bool false]/\h4=h3,?_,?_⟩
  ·have azx:=ata hlf;simp[awy];refine aAe s trivial ?_;rw[azx];simp[aBi,hc8,hk1,hk2];refine azW x x c ln hg3 ⟨q1,hin,hb.ib⟩ ?_;rw[at7 hb.chk];simp[];simp(disch:=first|go_size|fail)[aws]
  ·rintro vs h4 ⟨rfl,rfl⟩;have k2:=bQ (h:=h4) (a:=s) (b:=[10]) (by simp;omega);simp(disch:=first|go_size|fail)[awN,k2];refine auB (s++[10]) b3 (by simp) (by simp;omega) λh5 hn5 b5=>?_
   refine⟨m,by omega,.mk (i+1) (show i+1+m=L.length by omega) ?_⟩;rw[htk];exact b5
def e17:QE prog:=QE.fn 17 GJ (fun(y:AV×List Inp×List (LA))=>match y with|⟨A,L,css⟩=>[A]) (fun(y:AV×List Inp×List (LA)) (h:AH)=>match y with|⟨A,L,css⟩=>Lst h A css/\wi L css/\L.length<=200/\∀i∈L,RdI i) (fun(y:AV×List Inp×List (LA))=>match y with|⟨A,L,css⟩=>.tup [.str (ao7 L),I 0]) (λh y hj hx=>match y,hx with|⟨A,L,css⟩,hx=>axM h A L css hj hx)
theorem ayq{tl h}(A:AV)(L:List Inp)(css:List (LA)){Q:QT}(hj:GJ h)(hx:Lst h A css/\wi L css/\L.length<=200/\∀i∈L,RdI i)(hq:Q (.tup [.str (ao7 L),I 0]) h):tb (e17::tl) 17 [A] h Q:=aV (A,L,css) hj hx hq
theorem axY{s r:Str}(h:PI s):(s++(10::r)).takeWhile (· != 10)=s/\(s++(10::r)).drop (s.length+1)=r:=by
 constructor
 ·induction s with
  |nil=>rfl
  |cons c s ih=>
   have h1:=h c (by simp);rw[anB,List.takeWhile_cons,am1 (by simpa using h1),ih λd hd=>h d (by simp[hd])]
 ·rw[<-an4,List.drop_append_of_le_length (amY _),aoM,anx];rfl
theorem awt:∀(L:List Inp) (n:Nat) (out:List (LA)),(ao7 L).length<=n->out.length+L.length<=200->(∀i∈L,RdI i)->prs (λl=>(iM l).1) nj n (ao7 L) out=(some (out++L.map λi=>(iM (p8 i)).1),out.length+L.length,0)
 |[],n,out,_,_,_=>by
  cases n with
  |zero=>simp[prs]
  |succ n=>simp[prs,ao7]
 |i::L,0,out,hn,_,_=>by simp[ao7]at hn
 |i::L,n+1,out,hn,hl,hr=>by
  have hi:=hr i (by simp);simp only[ao7,amX,am6]at hn hl ⊢;obtain⟨t1,t2⟩:=axY (r:=ao7 L) hi.lf;unfold prs;rw[amU (by simp),amU (by omega),t1,t2,am1 ⟨hi.ok,by simp⟩,awt L n _ (by omega) (by simp;omega) λj hj=>hr j (by simp[hj])];simp;omega
theorem ax0{s:Str}(h1:PI s)(h2:s.length<=38000)(h3:nj s=true):∃i,RdI i/\p8 i=s:=by
 obtain⟨i,b1,b2,b3,b4,b5⟩:=awz h1 h2 h3;refine⟨i,⟨b5,b2,by rw[b3];exact h1,by rw[b3];exact h2,by rw[b3];exact h3,by rw[b3];exact b1,?_⟩,b3⟩;rw[anK];intro v hv;exact anA (b4 v hv)
theorem axU(s:Str):PI (s.takeWhile (· != 10)):=λc hc=>by
 have:∀l:Str,c∈l.takeWhile (· != 10)->c≠10:=λl=>by
  induction l with
  |nil=>simp
  |cons a l ih=>
   rw[List.takeWhile_cons];split
   ·rename_i h;intro hm;rcases anT.1 hm with rfl|hm
    ·simpa using h
    ·exact ih hm
   ·simp
 exact this s hc
theorem axl{s:Str}(h:(s.takeWhile (· != 10)).length<s.length):s=s.takeWhile (· != 10)++(10::s.drop ((s.takeWhile (· != 10)).length+1)):=by
 induction s with
 |nil=>simp at h
 |cons a l ih=>
  rw[List.takeWhile_cons]at h ⊢;by_cases ha:(a != 10)=true
  ·rw[am1 ha]at h ⊢;simp only[am6,anB]at h ⊢;rw[aox,<-ih (by omega)]
  ·rw[amU ha]at h ⊢;have:a=10:=by simpa using ha
   simp[this]
theorem auU:∀(n:Nat) (s:Str) (out:List (LA)),s.length<=n->s.length<=38000->out.length<=200->(prs (λl=>(iM l).1) nj n s out).2.2=0->∃L:List Inp,(∀i∈L,RdI i)/\ao7 L=s/\out.length+L.length<=200/\(prs (λl=>(iM l).1) nj n s out).1=some (out++L.map λi=>(iM (p8 i)).1)
 |0,s,out,hn,_,ho,_=>by
  have:s=[]:=am8 (by omega);exact⟨[],by simp,by rw[this];rfl,by simpa using ho,by simp[prs]⟩
 |n+1,s,out,hn,hs,ho,he=>by
  unfold prs at he ⊢;by_cases h0:s=[]
  ·rw[am1 h0]at he ⊢;exact⟨[],by simp,by rw[h0];rfl,by simpa using ho,by simp⟩
  rw[amU h0]at he ⊢;by_cases h1:200<=out.length
  ·rw[am1 h1]at he;cases he
  rw[amU h1]at he ⊢;by_cases h2:nj (s.takeWhile (· != 10))=true/\(s.takeWhile (· != 10)).length<s.length
  ·rw[am1 h2]at he ⊢;obtain⟨i,r1,r2⟩:=ax0 (axU s) (by omega) h2.1;have hd:(s.drop ((s.takeWhile (· != 10)).length+1)).length<s.length:=by rw[am3];omega
   obtain⟨L,q1,q2,q3,q4⟩:=auU n _ _ (by omega) (by omega) (by simp;omega) he;refine⟨i::L,λj hj=>?_,?_,by simp at q3 ⊢; omega,?_⟩
   ·rcases anT.1 hj with rfl|hj
    ·exact r1
    ·exact q1 j hj
   ·simp only[ao7];rw[q2,r2];exact(axl h2.2).symm
   ·rw[q4];simp[r2]
  ·rw[amU h2]at he;cases he
theorem aut{L:List Inp}(h:∀i∈L,RdI i):wi L (L.map λi=>(iM (p8 i)).1):=
 ⟨by simp,λk i c h1 h2=>by
  rw[anb,h1]at h2;simp at h2;subst h2;exact(h i (am9 h1)).inc⟩
theorem avn(s:Str):(iM s).2.pos<=s.length:=by
 have h0:=(eY s cF ⟨0,true,true⟩ (aoo _)).lt;unfold iM;simp only;generalize aL s cF ⟨0,true,true⟩=t at*;generalize bf s cF ⟨0,true,true⟩=k at*
 (repeat' split)
 ·have h1:=(eY s k_ t h0).lt;have h2:=(bD s _ h1).lt;have h3:=(bD s _ h2).lt;have h4:=(bD s _ h3).lt;have h5:=(bD s _ h4).lt;exact(bD s _ h5).lt
 ·have h1:=(fW s t h0).lt;exact(bD s (od s t) h1).lt
 ·exact(bD s _ h0).lt
 ·have h1:=(bD s _ h0).lt;exact(bD s _ h1).lt
 ·have h1:=(eY s ie t h0).lt;have h2:=(eY s jE _ h1).lt;exact(bD s _ h2).lt
 ·exact(lV s (s.length+2) [] t h0).lt
 ·have h1:=(bD s _ h0).lt;have h2:=(bD s _ h1).lt;have h3:=(eY s dI _ h2).lt;have h4:=(bD s _ h3).lt;have h5:=(bD s _ h4).lt;exact(iQ s _ h5).lt
 ·have h1:=(eY s h_ t h0).lt;unfold gC;simp only
  (repeat' split)
  ·exact(iQ s _ h1).lt
  ·have h2:=(iQ s _ h1).lt;have h3:=(bD s _ h2).lt;exact(jK s (s.length+2) [] _ h3).lt
  ·exact h1
 ·exact h0
theorem apf{s:Str}{q:Nat}(h:(iM s).2=atP q)(hd:s.drop q=[]):nj s=true:=by
 have h1:=avn s;have h2:=List.drop_eq_nil_iff.1 hd;unfold nj;rw[h]at h1 ⊢;rw[amZ];exact⟨rfl,anA (Nat.le_antisymm h1 h2)⟩
theorem lE{a b:Str}(ha:PI a)(hb:PI b):PI (a++b):=λc hc=>by
 rcases anP.1 hc with hc|hc
 ·exact ha c hc
 ·exact hb c hc
theorem p5{c:UInt8}{b:Str}(hc:c≠10)(hb:PI b):PI (c::b):=λd hd=>by
 rcases anT.1 hd with rfl|hd
 ·exact hc
 ·exact hb d hd
theorem RI:PI []:=λc h=>by simp at h
instance (s:Str):Decidable (PI s):=inferInstanceAs (Decidable (∀c∈s,c≠10))
theorem GV(n:Int):PI (Lib.itoa n):=by
 have hd:∀u,PI (Lib.decDigits u):=λu c hc=>by
  have:=uM u c hc;rintro rfl;exact absurd this (by decide)
 unfold Lib.itoa;split
 ·exact p5 (by decide) (hd _)
 ·exact hd _
theorem ap5:∀ {l:List Str},(∀w∈l,PI w)->PI (kI l)
 |[],_=>RI
 |w::l,h=>p5 (by decide) (lE (h w (by simp)) (ap5 λv hv=>h v (by simp[hv])))
theorem avH{l:List Str}(h:∀w∈l,PI w):PI (p6 l):=by
 cases l with
 |nil=>exact RI
 |cons w l=>exact lE (h w (by simp)) (ap5 λv hv=>h v (by simp[hv]))
theorem arc:∀s:Str,PI (p7 s)
 |[]=>RI
 |c::s=>lE (by
   unfold aqW
   (repeat' split)
   ·decide
   ·decide
   ·decide
   ·rename_i h;exact p5 h RI) (arc s)
theorem aq7(s:Str):PI (wQ s):=p5 (by decide) (lE (arc s) (by decide))
theorem ao0{s w r:Str}{k:Nat}(h:s=w++r)(hw:Go.St.bw w)(hi:idx cF w=(k:Int))(hr:aq_ r):∃q,s.drop q=r/\bf s cF ⟨0,true,true⟩=(k:Int)/\aL s cF ⟨0,true,true⟩=atP q:=by
 obtain⟨h1,q,h2,h3⟩:=atq h hw hi hr;exact⟨q,h3,h1,h2⟩
def RdS(i:Inp):Prop:=RdI i/\(p8 i).length<=7000
theorem atS{i:Inp}{s:Str}(hw:p8 i=s)(h1:i.args=[])(h2:i.t=[])(h3:i.ct=[])(h4:i.cr=[])(h5:i.cls=[])(hl:LB i)(hn:PI s)(hlen:s.length<=7000)(hp:nj s=true)(hc:(iM s).1=inG i .aa .aa .aa .aa .aa):RdS i:=by
 obtain⟨a,b⟩:=ayl i h1 h2 h3 h4 h5;subst hw;exact⟨⟨hl,b,hn,ane hlen (by omega),hp,hc▸a,by rw[h1];rfl⟩,hlen⟩
instance (w:Str):Decidable (Go.St.bw w):=inferInstanceAs (Decidable (w≠[]/\∀c∈w,bl false c=true))
theorem apV(l:List Int)(h:∀n∈l,nb n):(zA l).length<=22*l.length:=aoZ l λn hn=>ao1 (h n hn)
theorem rd3(n:Int)(hb:nb n):RdS {Inp.z with kind:=3,time:=n}:=by
 have hw:p8 {Inp.z with kind:=3,time:=n}=gQ++(32::(Lib.itoa n++[])):=by
  rw[atz rfl];simp[wl3,zA,p6,kI,gQ]
 generalize hs:gQ++(32::(Lib.itoa n++[]))=s at*;obtain⟨q,d0,v0,t0⟩:=ao0 (k:=2) hs.symm (by decide) (by decide) (xi _);obtain⟨v1,q1,t1,d1⟩:=VV d0 hb.1 hb.2 ao5;have e:iM s=yp s (atP q):=by
  unfold iM;simp only[v0,t0];rfl
 refine atS hw rfl rfl rfl rfl rfl (lb0 _ pk0 ⟨⟨nb0,nb0,nb0,nb0,nb0⟩,hb,⟨nb0,nb0⟩,nb0,⟨nb0,nb0⟩,nb0,nb0⟩ rfl (aoo _) rfl rfl rfl) ?_ ?_ (apf (q:=q1) (by rw[e];exact t1) d1) ?_
 ·rw[<-hs];exact lE (by decide) (p5 (by decide) (lE (GV n) RI))
 ·have:=apV [n] (by simpa using hb);rw[<-hw,atz rfl];simp[wl3]at this ⊢;omega
 ·rw[e];unfold yp;rw[v1];rfl
theorem rd4(n m:Int)(hb:nb n)(hc:nb m):RdS {Inp.z with kind:=4,sw:=n,sh:=m}:=by
 have hw:p8 {Inp.z with kind:=4,sw:=n,sh:=m}=gK++(32::(Lib.itoa n++(32::(Lib.itoa m++[])))):=by
  rw[atl rfl];simp[wl4,zA,p6,kI,gK]
 generalize hs:gK++(32::(Lib.itoa n++(32::(Lib.itoa m++[]))))=s at*;obtain⟨q,d0,v0,t0⟩:=ao0 (k:=3) hs.symm (by decide) (by decide) (xi _);obtain⟨v1,q1,t1,d1⟩:=VV d0 hb.1 hb.2 (xi _);obtain⟨v2,q2,t2,d2⟩:=VV d1 hc.1 hc.2 ao5;have e:iM s=yA s (atP q):=by
  unfold iM;simp only[v0,t0];rfl
 refine atS hw rfl rfl rfl rfl rfl (lb0 _ pk0 ⟨⟨nb0,nb0,nb0,nb0,nb0⟩,nb0,⟨hb,hc⟩,nb0,⟨nb0,nb0⟩,nb0,nb0⟩ rfl (aoo _) rfl rfl rfl) ?_ ?_ (apf (q:=q2) (by rw[e];unfold yA;rw[t1];exact t2) d2) ?_
 ·rw[<-hs];exact lE (by decide) (p5 (by decide) (lE (GV n) (p5 (by decide) (lE (GV m) RI))))
 ·have:=apV [n,m] (by simpa using⟨hb,hc⟩);rw[<-hw,atl rfl];simp[wl4]at this ⊢;omega
 ·rw[e];unfold yA;rw[t1,v1,v2];rfl
theorem rd5(b1 b2:Bool)(n:Int)(hb:nb n):RdS {Inp.z with kind:=5,nP:=b1,high:=b2,scale:=n}:=by
 obtain⟨k1,hk1,x1,x2,x3,x4⟩:∃k:Nat,((k:Int)==1)=b1/\idx ie (if b1=true then jP else nu)=(k:Int)/\Go.St.bw (if b1=true then jP else nu)/\PI (if b1=true then jP else nu)/\(if b1=true then jP else nu).length<=10:=by
  cases b1
  ·exact⟨0,by decide⟩
  ·exact⟨1,by decide⟩
 obtain⟨k2,hk2,y1,y2,y3,y4⟩:∃k:Nat,((k:Int)==1)=b2/\idx jE (if b2=true then jx else ji)=(k:Int)/\Go.St.bw (if b2=true then jx else ji)/\PI (if b2=true then jx else ji)/\(if b2=true then jx else ji).length<=10:=by
  cases b2
  ·exact⟨0,by decide⟩
  ·exact⟨1,by decide⟩
 have hw:p8 {Inp.z with kind:=5,nP:=b1,high:=b2,scale:=n}=RQ++(32::((if b1=true then jP else nu)++(32::((if b2=true then jx else ji)++(32::(Lib.itoa n++[])))))):=by
  rw[atX rfl];simp[wl5,zA,p6,kI,RQ]
 have hlen:(p8 {Inp.z with kind:=5,nP:=b1,high:=b2,scale:=n}).length<=7000:=by
  have:=apV [n] (by simpa using hb);rw[atX rfl];simp only[wl5,amX,am6,anr]at this ⊢;omega
 generalize(if b1=true then jP else nu)=W1 at*;generalize(if b2=true then jx else ji)=W2 at*;generalize hs:RQ++(32::(W1++(32::(W2++(32::(Lib.itoa n++[]))))))=s at*;obtain⟨q,d0,v0,t0⟩:=ao0 (k:=4) hs.symm (by decide) (by decide) (xi _);obtain⟨v1,q1,t1,d1⟩:=Go.St.pP d0 x2 x1 (xi _);obtain⟨v2,q2,t2,d2⟩:=Go.St.pP d1 y2 y1 (xi _);obtain⟨v3,q3,t3,d3⟩:=VV d2 hb.1 hb.2 ao5;have e:iM s=zz s (atP q):=by
  unfold iM;simp only[v0,t0];rfl
 refine atS hw rfl rfl rfl rfl rfl (lb0 _ pk0 ⟨⟨nb0,nb0,nb0,nb0,nb0⟩,nb0,⟨nb0,nb0⟩,hb,⟨nb0,nb0⟩,nb0,nb0⟩ rfl (aoo _) rfl rfl rfl) ?_ (hw▸hlen) (apf (q:=q3) (by rw[e];unfold zz;simp only[t1,t2];exact t3) d3) ?_
 ·rw[<-hs];exact lE (by decide) (p5 (by decide) (lE x3 (p5 (by decide) (lE y3 (p5 (by decide) (lE (GV n) RI))))))
 ·rw[e];unfold zz;simp only[t1,t2,v1,v2,v3,hk1,hk2];rfl
theorem rd1(k:Nat)(hk:k<6)(a b c d f:Int)(ha:nb a)(hb:nb b)(hc:nb c)(hd:nb d)(hf:nb f):RdS {Inp.z with kind:=1,pk:=1+k,pid:=a,px:=b,py:=c,pt:=d,pw:=f}:=by
 obtain⟨x1,x2,x3,x4⟩:=(by decide:∀k,k<6->idx k_ (k_.getD k [])=(k:Int)/\Go.St.bw (k_.getD k [])/\PI (k_.getD k [])/\(k_.getD k []).length<=10) k hk;have hp:apJ k_ (1+(k:Int)-1)=k_.getD k []:=by
  rw[show(1+(k:Int)-1)=k by omega];exact ase (l:=k_) (k:=(k:Int)) ⟨by omega,by show _<6;omega⟩
 have hw:p8 {Inp.z with kind:=1,pk:=1+k,pid:=a,px:=b,py:=c,pt:=d,pw:=f}=de++(32::(k_.getD k []++(32::(Lib.itoa a++(32::(Lib.itoa b++(32::(Lib.itoa c++(32::(Lib.itoa d++(32::(Lib.itoa f++[])))))))))))):=by
  rw[at6 rfl];unfold wl1;simp only[hp];simp[zA,p6,kI,de]
 have hlen:(p8 {Inp.z with kind:=1,pk:=1+k,pid:=a,px:=b,py:=c,pt:=d,pw:=f}).length<=7000:=by
  have:=apV [a,b,c,d,f] (by simpa using⟨ha,hb,hc,hd,hf⟩);rw[at6 rfl];unfold wl1;simp only[hp];simp only[amX,am6,anr]at this ⊢;omega
 generalize k_.getD k []=W1 at*;generalize hs:de++(32::(W1++(32::(Lib.itoa a++(32::(Lib.itoa b++(32::(Lib.itoa c++(32::(Lib.itoa d++(32::(Lib.itoa f++[]))))))))))))=s at*;obtain⟨q,d0,v0,t0⟩:=ao0 (k:=0) hs.symm (by decide) (by decide) (xi _);obtain⟨v1,q1,t1,d1⟩:=Go.St.pP d0 x2 x1 (xi _);obtain⟨v2,q2,t2,d2⟩:=VV d1 ha.1 ha.2 (xi _);obtain⟨v3,q3,t3,d3⟩:=VV d2 hb.1 hb.2 (xi _);obtain⟨v4,q4,t4,d4⟩:=VV d3 hc.1 hc.2 (xi _);obtain⟨v5,q5,t5,d5⟩:=VV d4 hd.1 hd.2 (xi _);obtain⟨v6,q6,t6,d6⟩:=VV d5 hf.1 hf.2 ao5;have e:iM s=Na s (atP q):=by
  unfold iM;simp only[v0,t0];rfl
 refine atS hw rfl rfl rfl rfl rfl (lb0 _ (by simp only;omega) ⟨⟨ha,hb,hc,hd,hf⟩,nb0,⟨nb0,nb0⟩,nb0,⟨nb0,nb0⟩,nb0,nb0⟩ rfl (aoo _) rfl rfl rfl) ?_ (hw▸hlen) (apf (q:=q6) (by rw[e];unfold Na;simp only[t1,t2,t3,t4,t5];exact t6) d6) ?_
 ·rw[<-hs];exact lE (by decide) (p5 (by decide) (lE x3 (p5 (by decide) (lE (GV a) (p5 (by decide) (lE (GV b) (p5 (by decide) (lE (GV c) (p5 (by decide) (lE (GV d) (p5 (by decide) (lE (GV f) RI))))))))))))
 ·rw[e];unfold Na;simp only[t1,t2,t3,t4,t5,v1,v2,v3,v4,v5,v6];rfl
theorem asV{n:Int}(h0:0<=n)(h1:n<128):oe n=[UInt8.ofNat n.toNat]:=by
 obtain⟨m,rfl⟩:=anu h0;rw[pQ];unfold Lib.encodeRune;rw[aou,Lib.encodeRuneZ_one (by omega) (by omega)];simp[Nat.toUInt8]
def aqp(k:Int):Str:=if k<=23 then ij.getD k.toNat []else if k=32 then iI else [UInt8.ofNat k.toNat]
theorem as8:∀k∈mn,∀m∈[(0:Int),1,2],fa k m=true/\Go.St.bw (vM m 4++aqp k)/\(vM m 4++aqp k).length<=100/\PI (vM m 4++aqp k):=by decide
theorem asg:∀k∈mn,∀m∈[(0:Int),1,2],cz (vM m 4++aqp k)=(k,m,true):=by decide
theorem avW{k:Int}(h:k∈mn):gU k=aqp k:=by
 have hk:=(by decide:∀k∈mn,0<=k/\k<128) k h;unfold gU aqp;split
 ·rfl
 split
 ·rfl
 ·exact asV hk.1 hk.2
theorem rd2(k m:Int)(hk:k∈mn)(hm:m∈[(0:Int),1,2])(n:Int)(hb:nb n):RdS {Inp.z with kind:=2,key:=k,mM:=m,time:=n}:=by
 obtain⟨r1,x2,x4,x3⟩:=as8 k hk m hm;have x5:=asg k hk m hm;have hc:(chF k m).1=vM m 4++aqp k:=by
  unfold chF;rw[am1 r1];show vM m 4++gU k=_
  rw[avW hk]
 have hw:p8 {Inp.z with kind:=2,key:=k,mM:=m,time:=n}=kh++(32::((vM m 4++aqp k)++(32::(Lib.itoa n++[])))):=by
  rw[atj rfl];unfold wl2;simp only[hc];simp[zA,p6,kI,kh]
 have hlen:(p8 {Inp.z with kind:=2,key:=k,mM:=m,time:=n}).length<=7000:=by
  have:=apV [n] (by simpa using hb);rw[atj rfl];unfold wl2;simp only[hc];simp only[amX,am6,anr]at this x4 ⊢;omega
 generalize vM m 4++aqp k=W1 at*;generalize hs:kh++(32::(W1++(32::(Lib.itoa n++[]))))=s at*;obtain⟨q,d0,v0,t0⟩:=ao0 (k:=1) hs.symm (by decide) (by decide) (xi _);obtain⟨v1,q1,t1,d1⟩:=Go.St.asD d0 x2 (xi _);have hok:iY W1=true:=by
  unfold iY;rw[x5];simp[x4]
 have tc:od s (atP q)=atP q1:=by
  unfold od;rw[t1,v1,hok];rfl
 obtain⟨v2,q2,t2,d2⟩:=VV d1 hb.1 hb.2 ao5;have e:iM s=FK s (atP q):=by
  unfold iM;simp only[v0,t0];rfl
 refine atS hw rfl rfl rfl rfl rfl (lb0 _ pk0 ⟨⟨nb0,nb0,nb0,nb0,nb0⟩,hb,⟨nb0,nb0⟩,nb0,⟨nb0,nb0⟩,nb0,nb0⟩ rfl (aoo _) rfl rfl rfl) ?_ (hw▸hlen) (apf (q:=q2) (by rw[e];unfold FK;rw[tc];exact t2) d2) ?_
 ·rw[<-hs];exact lE (by decide) (p5 (by decide) (lE x3 (p5 (by decide) (lE (GV n) RI))))
 ·rw[e];unfold FK tV;rw[tc,v1,v2,am1 hok,x5];rfl
theorem rd7(k:Nat)(hk:k<9)(a b c d:Int)(x:Str)(ha:nb a)(hb:nb b)(hc:nb c)(hd:nb d)(hx:Lib.validD x=true)(hl:x.length<=1000):RdS {Inp.z with kind:=7,ver:=a,node:=b,act:=(2:Int)^k,frm:=c,too:=d,rt:=x}:=by
 obtain⟨x1,x2,x3,x4⟩:=(by decide:∀k,k<9->idx dI (dI.getD k [])=(k:Int)/\Go.St.bw (dI.getD k [])/\PI (dI.getD k [])/\(dI.getD k []).length<=30) k hk;have ho:=awa k hk;have hw:p8 {Inp.z with kind:=7,ver:=a,node:=b,act:=(2:Int)^k,frm:=c,too:=d,rt:=x}=dN++(32::(Lib.itoa a++(32::(Lib.itoa b++(32::(dI.getD k []++(32::(Lib.itoa c++(32::(Lib.itoa d++(32::(wQ x++[])))))))))))):=by
  rw[auf rfl];unfold wl7;simp only[ho];simp[zA,p6,kI,dN]
 have hlen:(p8 {Inp.z with kind:=7,ver:=a,node:=b,act:=(2:Int)^k,frm:=c,too:=d,rt:=x}).length<=7000:=by
  have h1:=apV [a,b] (by simpa using⟨ha,hb⟩);have h2:=apV [c,d] (by simpa using⟨hc,hd⟩);have h3:=ao9 x;have h4:=apA x;rw[auf rfl];unfold wl7;simp only[ho];simp only[wQ,amX,am6,anr]at h1 h2 ⊢;omega
 generalize dI.getD k []=W1 at*;generalize hs:dN++(32::(Lib.itoa a++(32::(Lib.itoa b++(32::(W1++(32::(Lib.itoa c++(32::(Lib.itoa d++(32::(wQ x++[]))))))))))))=s at*;obtain⟨q,d0,v0,t0⟩:=ao0 (k:=6) hs.symm (by decide) (by decide) (xi _);obtain⟨v1,q1,t1,d1⟩:=VV d0 ha.1 ha.2 (xi _);obtain⟨v2,q2,t2,d2⟩:=VV d1 hb.1 hb.2 (xi _);obtain⟨v3,q3,t3,d3⟩:=Go.St.pP d2 x2 x1 (xi _);obtain⟨v4,q4,t4,d4⟩:=VV d3 hc.1 hc.2 (xi _);obtain⟨v5,q5,t5,d5⟩:=VV d4 hd.1 hd.2 (xi _);obtain⟨v6,q6,t6,d6⟩:=Go.St.asC d5 hx;have e:iM s=Dr s (atP q):=by
  unfold iM;simp only[v0,t0];rfl
 refine atS hw rfl rfl rfl rfl rfl (lb0 _ pk0 ⟨⟨nb0,nb0,nb0,nb0,nb0⟩,nb0,⟨nb0,nb0⟩,nb0,⟨ha,hb⟩,hc,hd⟩ rfl (ane hl (by omega)) rfl rfl rfl) ?_ (hw▸hlen) (apf (q:=q6) (by rw[e];unfold Dr;simp only[t1,t2,t3,t4,t5];exact t6) d6) ?_
 ·rw[<-hs];exact lE (by decide) (p5 (by decide) (lE (GV a) (p5 (by decide) (lE (GV b) (p5 (by decide) (lE x3 (p5 (by decide) (lE (GV c) (p5 (by decide) (lE (GV d) (p5 (by decide) (lE (aq7 x) RI))))))))))))
 ·rw[e];unfold Dr;simp only[t1,t2,t3,t4,t5,v1,v2,v3,v4,v5,v6];have:(max (k:Int) 0).toNat=k:=by omega
  unfold VN;rw[this];rfl
theorem rd6(l:List Val)(hl:l.length<=1000)(hv:∀v∈l,WfV 17 v/\mT v=0)(hw:∀v∈l,WB v/\PI (MP v))(hlen:(kI (kS l)).length<=6000):RdS (z5A l):=by
 have hs:p8 (z5A l)=gS++kI (kS l):=rfl;have hnl:PI (p8 (z5A l)):=by
  rw[hs];refine lE (by decide) (ap5 λw h=>?_);have:∀l:List Val,w∈kS l->∃v∈l,w=MP v:=λl=>by
   induction l with
   |nil=>simp[kS]
   |cons a l ih=>
    intro h;simp only[kS]at h;rcases anT.1 h with rfl|h
    ·exact⟨a,by simp,rfl⟩
    ·obtain⟨v,h1,h2⟩:=ih h;exact⟨v,by simp[h1],h2⟩
  obtain⟨v,h1,rfl⟩:=this l h;exact(hw v h1).2
 have hLl:(p8 (z5A l)).length<=7000:=by
  rw[hs,amX];have:gS.length=4:=rfl;omega
 have hr:aq_ (kI (kS l)):=by
  cases l with
  |nil=>exact ao5
  |cons v l=>exact xi _
 have hLB:LB (z5A l):=by
  have hj:=apE (kS l);refine lb1 (z5A l) pk0 ⟨⟨nb0,nb0,nb0,nb0,nb0⟩,nb0,⟨nb0,nb0⟩,nb0,⟨nb0,nb0⟩,nb0,nb0⟩ (λv hv'=>auH v (hv v hv').2 ?_) (by show l.length<=_;omega) ?_ (aoo _) ⟨by simp[z5A,cC],by simp[z5A],by simp[z5A],by simp[z5A,i64]⟩
  ·have:=aqB _ _ (ap_ (show v∈l from hv'));omega
  ·show(p6 (gS::kS l)).length<=_
   simp only[p6,amX];have:gS.length=4:=rfl;omega
 have hlt:l.length<=(kI (kS l)).length:=by
  have:∀l:List Val,l.length<=(kI (kS l)).length:=λl=>by
   induction l with
   |nil=>simp
   |cons v l ih=>simp only[kS,kI,am6,amX];omega
  exact this l
 generalize hs':p8 (z5A l)=s at*;obtain⟨q,d0,v0,t0⟩:=ao0 (k:=5) hs (by decide) (by decide) hr;obtain⟨q1,v1,d1⟩:=Go.St.avm l (s.length+2) [] q hv (by rw[hs,amX];omega) d0;have e:iM s=wT s (atP q):=by
  unfold iM;simp only[v0,t0];rfl
 have e2:kL s (atP q)=(l,atP q1):=v1;refine⟨⟨hLB,⟨by show l.length<=_;omega,λv h=>(hw v h).1,by simp[z5A],by simp[z5A],by simp[z5A],by simp[z5A]⟩,hs'▸hnl,hs'▸ane hLl (by omega),hs'▸apf (q:=q1) (by rw[e];unfold wT;rw[e2]) d1,?_,?_⟩,hs'▸hLl⟩
 ·rw[hs',e];unfold wT;rw[e2];exact⟨_,_,_,_,_,rfl,.inl rfl,.inr ⟨rfl,rfl⟩,.inr ⟨rfl,rfl⟩,.inr ⟨rfl,rfl⟩,.inr ⟨rfl,rfl⟩⟩
 ·rw[anK];exact λv h=>anA (hv v h).2
theorem awx{s:Str}:∀(l:List Int) (n:Nat) (acc:List Int) (p:Nat),(∀v∈l,nb v)->l.length<=n->s.drop p=kI (l.map Lib.itoa)->∃q,qQ s n acc (atP p)=(acc++l,atP q)/\s.drop q=[]
 |[],0,acc,p,_,_,h=>⟨p,by simp[qQ],by simpa[kI]using h⟩
 |[],n+1,acc,p,_,_,h=>by
  have h:s.drop p=[]:=by simpa[kI]using h
  refine⟨p,?_,h⟩;unfold qQ bB;have:¬p<s.length:=by have:=List.drop_eq_nil_iff.1 h;omega
  rw[amU (by simp[atP,this])];simp
 |v::l,0,_,_,_,hn,_=>by simp at hn
 |v::l,n+1,acc,p,hv,hn,h=>by
  have hb:=hv v (by simp);simp only[anO,kI]at h;have hr:aq_ (kI (l.map Lib.itoa)):=by
   cases l with
   |nil=>exact ao5
   |cons v l=>exact xi _
  obtain⟨v1,q1,t1,d1⟩:=VV h hb.1 hb.2 hr;obtain⟨q,e,d⟩:=awx l n (acc++[v]) q1 (λu hu=>hv u (by simp[hu])) (by simpa using hn) d1;obtain⟨h1,_,_⟩:=K2 h;refine⟨q,?_,d⟩;unfold qQ;rw[am1 (show bB s (atP p)=true from NN h1),v1,t1,e];simp
theorem azT(k:Nat)(hk:k=0\/k=3):RdS (z7A (14+k) [] 0 []):=by
 have hw:p8 (z7A (14+k) [] 0 [])=db++(32::(h_.getD k []++[])):=by
  rcases hk with rfl|rfl<;>rfl
 obtain⟨x1,x2,x3,x4⟩:=(by decide:∀k,k<4->idx h_ (h_.getD k [])=(k:Int)/\Go.St.bw (h_.getD k [])/\PI (h_.getD k [])/\(h_.getD k []).length<=30) k (by omega);generalize h_.getD k []=W1 at*;generalize hs:db++(32::(W1++[]))=s at*;obtain⟨q,d0,v0,t0⟩:=ao0 (k:=7) hs.symm (by decide) (by decide) (xi _);obtain⟨v1,q1,t1,d1⟩:=Go.St.pP d0 x2 x1 ao5;have e2:gC s (atP q)=(((14+k:Int),AV.aa,(0:Int),AV.aa),atP q1):=by
  unfold gC;simp only[v1,t1];rw[amU (by omega),amU (by omega)]
 have e:iM s=(aqg ((14+k:Int),AV.aa,(0:Int),AV.aa),atP q1):=by
  unfold iM;simp only[v0,t0,e2];rfl
 refine atS hw rfl rfl rfl rfl rfl (lb7 _ _ _ (by simp[cC]) (by simp) (by simp) nb0) ?_ ?_ (apf (q:=q1) (by rw[e]) d1) ?_
 ·rw[<-hs];exact lE (by decide) (p5 (by decide) (lE x3 RI))
 ·rw[<-hs];have:db.length=7:=rfl;simp only[amX,am6,anr];omega
 ·rw[e];rfl
theorem aAN(t:List Int)(ht:∀n∈t,apk n)(hl:t.length<=100):RdS (z7A 16 t 0 []):=by
 have hx:=aqa ht;have hrt:=ap6 t ht;have hel:=lL t;have hw:p8 (z7A 16 t 0 [])=db++(32::(OB++(32::(wQ (cC t)++[])))):=by
  show wl8 _=_
  unfold wl8;rw[axp];simp[db,OB]
 generalize hE:cC t=x at*;have hwq:=ao9 x;have hsp:=apA x;generalize hs:db++(32::(OB++(32::(wQ x++[]))))=s at*;obtain⟨q,d0,v0,t0⟩:=ao0 (k:=7) hs.symm (by decide) (by decide) (xi _);obtain⟨v1,q1,t1,d1⟩:=Go.St.pP (l:=h_) (i:=2) d0 (by decide) (by decide) (xi _);obtain⟨v2,q2,t2,d2⟩:=Go.St.asC d1 hx;have e2:gC s (atP q)=((16,.psl (rnC t),0,.aa),atP q2):=by
  unfold gC;simp only[v1,t1];rw[am1 (by decide),v2,t2];show((16,AV.psl (rnC (aD x)),0,AV.aa),atP q2)=_
  rw[hrt]
 have e:iM s=(aqg (16,.psl (rnC t),0,.aa),atP q2):=by
  unfold iM;simp only[v0,t0,e2];rfl
 have hnl:PI s:=by
  rw[<-hs];exact lE (by decide) (p5 (by decide) (lE (by decide) (p5 (by decide) (lE (aq7 x) RI))))
 have hln:s.length<=7000:=by
  rw[<-hs];have h1:db.length=7:=rfl;have h2:OB.length=6:=rfl;simp only[wQ,amX,am6,anr];omega
 refine⟨⟨lb7 _ _ _ (by rw[hE];omega) (by simp) (by simp) nb0,⟨by simp[z7A],by simp[z7A],by show t.length<=_;omega,by simp[z7A],by simp[z7A],by simp[z7A]⟩,hw▸hnl,hw▸ane hln (by omega),hw▸apf (q:=q2) (by rw[e]) d2,?_,rfl⟩,hw▸hln⟩;rw[hw,e];exact⟨_,_,_,_,_,rfl,.inr ⟨rfl,by simp[z7A,vCs]⟩,.inl rfl,.inr ⟨rfl,rfl⟩,.inr ⟨rfl,rfl⟩,.inr ⟨rfl,rfl⟩⟩
theorem as9{p:Int×Bool}(h:1<=p.1/\p.1<=1000):(max (DD p) (ng (DD p)),decide (DD p<0))=p/\nb (DD p):=by
 obtain⟨n,b⟩:=p;simp only at h;have e:ng n = -n:=by unfold ng;rw[amU (by omega)]
 have e2:ng (-n)=n:=by unfold ng;rw[amU (by omega)];omega
 unfold nb eM DD;cases b
 ·simp only[am7,ans,e];refine⟨?_,by omega⟩;rw[Int.max_eq_left (by omega),anw (by omega)]
 ·simp only[anH,e,e2];refine⟨?_,by omega⟩;rw[Int.max_eq_right (by omega),anA (by omega)]
theorem aAR(t:List Int)(ht:∀n∈t,apk n)(hl:t.length<=100)(n:Int)(hb:nb n)(c:List (Int×Bool))(hc:∀p∈c,1<=p.1/\p.1<=1000)(hcl:c.length<=100):RdS (z7A 15 t n c):=by
 have hx:=aqa ht;have hrt:=ap6 t ht;have hel:=lL t;have hcn:∀v∈c.map DD,nb v:=λv hv=>by
  obtain⟨p,hp,rfl⟩:=an0.1 hv;exact(as9 (hc p hp)).2
 have hlen:=apV (n::c.map DD) (by simpa using⟨hb,by simpa using hcn⟩);have hw:p8 (z7A 15 t n c)=db++(32::(iw++(32::(wQ (cC t)++(32::(Lib.itoa n++kI ((c.map DD).map Lib.itoa))))))):=by
  show wl8 _=_
  unfold wl8;rw[av_];simp[db,iw,zA,p6]
 have hl2:(Lib.itoa n++kI ((c.map DD).map Lib.itoa)).length=(zA (n::c.map DD)).length:=rfl;generalize hE:cC t=x at*;have hwq:=ao9 x;have hsp:=apA x;have hnt:PI (kI ((c.map DD).map Lib.itoa)):=ap5 λw hw=>by
  obtain⟨m,_,rfl⟩:=an0.1 hw;exact GV m
 have hr:aq_ (kI ((c.map DD).map Lib.itoa)):=by
  cases c with
  |nil=>exact ao5
  |cons v l=>exact xi _
 generalize hs:db++(32::(iw++(32::(wQ x++(32::(Lib.itoa n++kI ((c.map DD).map Lib.itoa)))))))=s at*;have hln:s.length<=7000:=by
  rw[<-hs];have h1:db.length=7:=rfl;have h2:iw.length=6:=rfl;simp only[wQ,amX,am6,anr,aor]at hl2 hlen ⊢;omega
 have hnl:PI s:=by
  rw[<-hs];exact lE (by decide) (p5 (by decide) (lE (by decide) (p5 (by decide) (lE (aq7 x) (p5 (by decide) (lE (GV n) hnt))))))
 have hcs:(c.map DD).length<=s.length+2:=by
  have h2:∀l:List Int,l.length<=(kI (l.map Lib.itoa)).length:=λl=>by
   induction l with
   |nil=>simp
   |cons v l ih=>simp only[anO,kI,am6,amX];omega
  have:=h2 (c.map DD);rw[<-hs];simp only[amX,am6];omega
 obtain⟨q,d0,v0,t0⟩:=ao0 (k:=7) hs.symm (by decide) (by decide) (xi _);obtain⟨v1,q1,t1,d1⟩:=Go.St.pP (l:=h_) (i:=1) d0 (by decide) (by decide) (xi _);obtain⟨v2,q2,t2,d2⟩:=Go.St.asC d1 hx;obtain⟨v3,q3,t3,d3⟩:=VV d2 hb.1 hb.2 hr;obtain⟨q4,v4,d4⟩:=awx (c.map DD) (s.length+2) [] q3 hcn hcs d3;have v5:tv s (atP q3)=(c.map DD,atP q4):=v4;have hcc:oh (c.map DD)=cbC c:=by
  have:oh (c.map DD)=cbC ((c.map DD).map λn=>(max n (ng n),decide (n<0))):=by
   simp only[oh,cbC,aCC];rfl
  rw[this,aCC];congr 1
  conv=>rhs;rw[<-List.map_id c]
  exact List.map_congr_left λp hp=>(as9 (hc p hp)).1
 have e2:gC s (atP q)=((15,.psl (rnC t),n,.psl (cbC c)),atP q4):=by
  unfold gC;simp only[v1,t1];rw[amU (by decide),am1 (by decide),v2,t2,v3,t3,v5,hcc];show((15,AV.psl (rnC (aD x)),n,AV.psl (cbC c)),atP q4)=_
  rw[hrt]
 have e:iM s=(aqg (15,.psl (rnC t),n,.psl (cbC c)),atP q4):=by
  unfold iM;simp only[v0,t0,e2];rfl
 refine⟨⟨lb7 _ _ _ (by rw[hE];omega) (by omega) (λp hp=>by have:=hc p hp;unfold i64;omega) hb,⟨by simp[z7A],by simp[z7A],by show t.length<=_;omega,by simp[z7A],by simp[z7A],by show c.length<=_;omega⟩,hw▸hnl,hw▸ane hln (by omega),hw▸apf (q:=q4) (by rw[e]) d4,?_,rfl⟩,hw▸hln⟩;rw[hw,e];exact⟨_,_,_,_,_,rfl,.inr ⟨rfl,by simp[z7A,vCs]⟩,.inl rfl,.inr ⟨rfl,rfl⟩,.inr ⟨rfl,rfl⟩,.inl rfl⟩
