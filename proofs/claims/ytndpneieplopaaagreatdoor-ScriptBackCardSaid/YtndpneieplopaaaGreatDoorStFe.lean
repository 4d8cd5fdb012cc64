/- Equality. -/
import Derived.Test.YtndpneieplopaaaGreatDoorStGo
set_option linter.unusedSimpArgs false
set_option linter.unusedVariables false
noncomputable section
namespace Go.Proofs.YtndpneieplopaaaGreatDoor
open Go.Eng Go.St Tryz
noncomputable def dq{α:Type}(a b:α):Bool:= @decide (a=b) (Classical.propDecidable _)
theorem gv{α:Type}{a b:α}(h:a=b):dq a b=true:=by unfold dq;simp[h]
theorem dZ{α:Type}{a b:α}(h:a≠b):dq a b=false:=by unfold dq;simp[h]
structure Fr(h h':AH):Prop where
 nx:h.nx<=h'.nx
 get:∀i,i<h.nx->h'.H.get i=h.H.get i
theorem Fr.refl(h:AH):Fr h h:=⟨amY _,λ_ _=>rfl⟩
theorem Fr.bump{h h':AH}(f:Fr h h'){k:Nat}(hk:h'.nx<=k):Fr h ⟨h'.H,k⟩:=⟨ane f.nx hk,f.get⟩
theorem Fr.add{h h':AH}(f:Fr h h')(o:dx):Fr h (h'.add o):=⟨by have:=f.nx;simp;omega,λi hi=>by have:=f.nx;rw[az,amU (by omega)];exact f.get i hi⟩
theorem Fr.set{h h':AH}(f:Fr h h'){k:Nat}(hk:h.nx<=k)(o:dx):Fr h (h'.set k o):=⟨f.nx,λi hi=>by rw[au,amU (by omega)];exact f.get i hi⟩
theorem Fr.trans{h h1 h2:AH}(f:Fr h h1)(g:Fr h1 h2):Fr h h2:=⟨ane f.nx g.nx,λi hi=>by rw[g.get i (ant hi f.nx)];exact f.get i hi⟩
theorem kM{P:Program}{f:Nat}{args:LA}{h:AH}{v:AV}(hf:∀H,Frz H false v v)(hc:aJ P f args h λv' h'=>v'=v/\Fr h h'):aK P f args h v h:=
 aZ hc λv' h' ⟨h1,h2⟩=>⟨by rw[h1];exact hf _,h2.nx,h2.get⟩
theorem gW{h:AH}{ys:List (LA)}{A:AV}(hA:Sl ys A):bh h A=some (I ys.length,h):=by
 rcases hA with rfl|⟨rfl,rfl⟩<;>simp
theorem gY{h:AH}{z i:Nat}{ys:List (LA)}{c:LA}{A:AV}(hA:Sl ys A)(hc:ys[i]?=some c)(hz:c.length=z):aF h z A (I i)=some (.lz c,h):=by
 rcases hA with rfl|⟨rfl,rfl⟩
 ·exact da hc hz
 ·simp at hc
theorem g_{α:Type}{l m:List α}{i:Nat}(h:l.take i=m.take i)(hl:i<l.length)(hm:i<m.length)(e:l[i]=m[i]):l.take (i+1)=m.take (i+1):=by
 rw[aoj hl,aoj hm,h,e]
inductive Q78(h:AH)(A B:AV)(L M:List Int):Nat->List AV->AH->Prop
 |mk {m:Nat} {h':AH} (i:Nat):i+m=L.length->L.take i=M.take i->Fr h h'->Q78 h A B L M m [A,B,I i] h'
theorem aaN(h:AH)(A B:AV)(L M:List Int)(hx:Sl (rnC L) A/\Sl (rnC M) B/\L.length<=1000000):aK prog 78 [A,B] h (.bool (dq L M)) h:=by
 obtain⟨hA,hB,hL⟩:=hx;refine kM (λ_=>.bool _) (C78 (aW []) ?_);have l1:∀h:AH,bh h A=some (I L.length,h):=λh=>by rw[gW hA];simp[rnC]
 have l2:∀h:AH,bh h B=some (I M.length,h):=λh=>by rw[gW hB];simp[rnC]
 by_cases hl:L.length=M.length
 ·have hl':(L.length:Int)=M.length:=by omega
  simp[g78,l1,l2,hl'];refine⟨Q78 h A B L M,L.length,.mk 0 (by simp) rfl (Fr.refl h),?_⟩;rintro m vs h' ⟨i,him,ht,fr⟩;cases m with
  |zero=>
   have hlt:¬(i:Int)<L.length:=by omega
   simp[Cc,l1,hlt];simp[Gd,Ib];have:L=M:=by
    rw[anc (by omega),anc (by omega)]at ht;exact ht
   exact⟨gv this,fr⟩
  |succ m=>
   have h1:i<L.length:=by omega
   have h2:i<M.length:=by omega
   have hlt:(i:Int)<L.length:=by omega
   have xW:(i:Int)<M.length:=by omega
   have i1:∀h:AH,aF h 1 A (I i)=some (.lz [bH L[i]],h):=λh=>gY hA (by simp[rnC,h1]) rfl
   have i2:∀h:AH,aF h 1 B (I i)=some (.lz [bH M[i]],h):=λh=>gY hB (by simp[rnC,h2]) rfl
   have fr2:=fr.bump (k:=h'.nx+9) (by omega);by_cases he:L[i]=M[i]
   ·simp[Cc,l1,l2,hlt,i1];simp(disch:=first|go_size|fail)[E4,i2,bH,he];refine⟨m,by omega,?_⟩;exact .mk (i+1) (show i+1+m=L.length by omega) (g_ ht h1 h2 he) fr2
   ·simp[Cc,l1,l2,hlt,i1];simp[E4,i2,bH,he];simp[Gd];refine⟨dZ λe=>he ?_,fr2⟩;simp only[e]
 ·have hl':¬(L.length:Int)=M.length:=by omega
  simp[g78,l1,l2,hl'];exact⟨dZ λe=>hl (by rw[e]),Fr.refl h⟩
def e78:QE prog:=QE.fn 78 (λ_=>True) (fun(y:AV×AV×List Int×List Int)=>match y with|⟨A,B,L,M⟩=>[A,B]) (fun(y:AV×AV×List Int×List Int)(h:AH)=>match y with|⟨A,B,L,M⟩=>Sl (rnC L) A/\Sl (rnC M) B/\L.length<=1000000) (fun(y:AV×AV×List Int×List Int)=>match y with|⟨A,B,L,M⟩=>.bool (dq L M)) (λh y hj hx=>match y,hx with|⟨A,B,L,M⟩,hx=>aaN h A B L M hx)
theorem YC{tl h}(A:AV)(B:AV)(L:List Int)(M:List Int){Q:QT}(hx:Sl (rnC L) A/\Sl (rnC M) B/\L.length<=1000000)(hq:Q (.bool (dq L M)) h):tb (e78::tl) 78 [A,B] h Q:=aV (A,B,L,M) trivial hx hq
@[simp ↓] theorem akO:TbT e78 78:=aH e78
inductive Q79(h:AH)(B:AV)(N:List (Int×Int))(A:AV)(L:List (Int×Int)):Nat->List AV->AH->Prop
 |mk {m:Nat} {h':AH} (i:Nat) (T U:AV):i+m=L.length->L.take i=N.take i->Fr h h'->h'.ab h.nx=some [T,A]->h'.ab (h.nx+1)=some [U,B]->h.nx+2<=h'.nx->Q79 h B N A L m [.ptr h.nx 0,.ptr (h.nx+1) 0,I i] h'
theorem aaR(h:AH)(T A U B:AV)(t:List Int)(L:List (Int×Int))(u:List Int)(N:List (Int×Int))(hx:Sl (rnC t) T/\Sl (chC L) A/\Sl (rnC u) U/\Sl (chC N) B/\t.length<=1000000/\L.length<=1000000):aK prog 79 [.agg [T,A],.agg [U,B]] h (.bool (dq t u&&dq L N)) h:=by
 obtain⟨hT,hA,hU,hB,ht,hL⟩:=hx;refine kM (λ_=>.bool _) (C79 (aW [e78]) ?_);have oT:=CQ hT;have oA:=CQ hA;have oU:=CQ hU;have oB:=CQ hB;have b1:fh h (.agg [T,A])=some (.ptr h.nx 0,h.add (.cells [T,A])):=by simp[fh,dj,oT,oA]
 have b2:∀h:AH,fh h (.agg [U,B])=some (.ptr h.nx 0,h.add (.cells [U,B])):=λh=>by simp[fh,dj,oU,oB]
 simp[g79,b1,b2];have fr:Fr h ((h.add (.cells [T,A])).add (.cells [U,B])):=((Fr.refl h).add _).add _;have c1:((h.add (.cells [T,A])).add (.cells [U,B])).ab h.nx=some [T,A]:=by rw[aC _ _ _ (by simp)];exact bd _ _ _ rfl
 have c2:((h.add (.cells [T,A])).add (.cells [U,B])).ab (h.nx+1)=some [U,B]:=bd _ _ _ (by simp);have hn:h.nx+2<=((h.add (.cells [T,A])).add (.cells [U,B])).nx:=by simp
 generalize(h.add (.cells [T,A])).add (.cells [U,B])=h1 at*;have l1:∀h:AH,bh h A=some (I L.length,h):=λh=>by rw[gW hA];simp[chC]
 have l2:∀h:AH,bh h B=some (I N.length,h):=λh=>by rw[gW hB];simp[chC]
 refine⟨λvs h2=>vs=[.ptr h.nx 0,.ptr (h.nx+1) 0,.bool (!(dq t u)||decide (L.length≠N.length))]/\h2=h1,?_,?_⟩
 ·simp[Tz,c1,c2];refine YC T U t u ⟨hT,hU,ht⟩ ?_;cases dq t u
  ·simp[zV,c1,c2,l1,l2];simp[Ci]
  ·by_cases hl:L.length=N.length
   ·have hl':(L.length:Int)=N.length:=by omega
    simp[zV,c1,c2,l1,l2,hl'];simp[Ci,hl,hl']
   ·have hl':¬(L.length:Int)=N.length:=by omega
    simp[zV,c1,c2,l1,l2,hl'];simp[Ci,hl,hl']
 ·rintro vs h2 ⟨rfl,rfl⟩;cases hd:dq t u
  ·simp[BJ];exact fr
  by_cases hl:L.length=N.length
  ·simp[BJ,hl];refine⟨Q79 h B N A L,L.length,.mk 0 T U (by simp) rfl fr c1 c2 hn,?_⟩;rintro m vs h' ⟨i,T,U,him,ht,fr,c1,c2,hn⟩;cases m with
   |zero=>
    have hlt:¬(i:Int)<L.length:=by omega
    simp[Gh,c1,l1,hlt];simp[IT,IQ];have:L=N:=by
     rw[anc (by omega),anc (by omega)]at ht;exact ht
    exact⟨gv this,fr⟩
   |succ m=>
    have h1:i<L.length:=by omega
    have h2:i<N.length:=by omega
    have hlt:(i:Int)<L.length:=by omega
    have i1:∀h:AH,aF h 2 A (I i)=some (.lz [I L[i].1,I L[i].2],h):=λh=>gY hA (by simp[chC,h1]) rfl
    have i2:∀h:AH,aF h 2 B (I i)=some (.lz [I N[i].1,I N[i].2],h):=λh=>gY hB (by simp[chC,h2]) rfl
    have fr2:=fr.bump (k:=h'.nx+11) (by omega);simp[Gh,c1,l1,hlt,i1];have heq:bA [.int .i64,.int .i64] [I L[i].1,I L[i].2] [I N[i].1,I N[i].2]=some (L[i].1==N[i].1&&L[i].2==N[i].2):=by simp[bA,gn]
    by_cases he:L[i]=N[i]
    ·have hb:(L[i].1==N[i].1&&L[i].2==N[i].2)=true:=by rw[he];simp
     rw[hb]at heq;simp(disch:=first|go_size|fail)[Gq,c2,i2,heq];simp(disch:=first|go_size|fail)[Si];exact⟨m,by omega,.mk (i+1) T U (show i+1+m=L.length by omega) (g_ ht h1 h2 he) fr2 c1 c2 (by simp;omega)⟩
    ·have hb:(L[i].1==N[i].1&&L[i].2==N[i].2)=false:=by
      rw[aCy];intro e;simp only[amZ,an2]at e;exact he (Prod.ext e.1 e.2)
     rw[hb]at heq;simp[Gq,c2,i2,heq];simp[IT];exact⟨dZ λe=>he (by simp only[e]),fr2⟩
  ·simp[BJ,hl];exact⟨dZ λe=>hl (by rw[e]),fr⟩
def e79:QE prog:=QE.fn 79 (λ_=>True) (fun(y:AV×AV×AV×AV×List Int×List (Int×Int)×List Int×List (Int×Int))=>match y with|⟨T,A,U,B,t,L,u,N⟩=>[.agg [T,A],.agg [U,B]]) (fun(y:AV×AV×AV×AV×List Int×List (Int×Int)×List Int×List (Int×Int)) (h:AH)=>match y with|⟨T,A,U,B,t,L,u,N⟩=>Sl (rnC t) T/\Sl (chC L) A/\Sl (rnC u) U/\Sl (chC N) B/\t.length<=1000000/\L.length<=1000000) (fun(y:AV×AV×AV×AV×List Int×List (Int×Int)×List Int×List (Int×Int))=>match y with|⟨T,A,U,B,t,L,u,N⟩=>.bool (dq t u&&dq L N)) (λh y hj hx=>match y,hx with|⟨T,A,U,B,t,L,u,N⟩,hx=>aaR h T A U B t L u N hx)
theorem afp{tl h}(T:AV)(A:AV)(U:AV)(B:AV)(t:List Int)(L:List (Int×Int))(u:List Int)(N:List (Int×Int)){Q:QT}(hx:Sl (rnC t) T/\Sl (chC L) A/\Sl (rnC u) U/\Sl (chC N) B/\t.length<=1000000/\L.length<=1000000)(hq:Q (.bool (dq t u&&dq L N)) h):tb (e79::tl) 79 [.agg [T,A],.agg [U,B]] h Q:=aV (T,A,U,B,t,L,u,N) trivial hx hq
inductive WB:Val->Prop
 |mk (k n:Int) (s:Str) (l:List Val):l.length<=2000000->(∀v∈l,WB v)->WB (.mk k n s l)
def awI(v:Val):Prop:=∀(w:Val) (h:AH),aK prog 77 [.agg (vC v),.agg (vC w)] h (.bool (dq v w)) h
def eSv(l:List Val)(hv:∀v∈l,awI v):QE prog:=
 ⟨77,λargs h Q=>∃v w,args=[.agg (vC v),.agg (vC w)]/\v∈l/\Q (.bool (dq v w)) h,λargs h Q ⟨v,w,h1,h2,h3⟩=>by
  subst h1;exact⟨_,_,hv v h2 w h,h3⟩⟩
theorem adO{l:List Val}{hv:∀v∈l,awI v}{tl h}(v w:Val){Q:QT}(hm:v∈l)(hq:Q (.bool (dq v w)) h):tb (eSv l hv::tl) 77 [.agg (vC v),.agg (vC w)] h Q:=by
 rw[dJ _ tl 77 _ _ _ rfl];exact⟨v,w,rfl,hm,hq⟩
inductive Q77(h:AH)(v w:Val)(l m:List Val):Nat->List AV->AH->Prop
 |mk {n:Nat} {h':AH} (i:Nat):i+n=l.length->l.take i=m.take i->Fr h h'->h'.ab h.nx=some (vC v)->h'.ab (h.nx+1)=some (vC w)->h.nx+2<=h'.nx->Q77 h v w l m n [.ptr h.nx 0,.ptr (h.nx+1) 0,I i] h'
theorem WM(k n:Int)(s:Str)(l:List Val)(hl:l.length<=2000000)(hv:∀v∈l,awI v):awI (.mk k n s l):=by
 rintro⟨k',n',s',l'⟩ h;refine kM (λ_=>.bool _) (C77 (aW [eSv l hv]) ?_);have hvC:vC (.mk k n s l)=[I k,I n,.str s,.psl (vCs l)]:=by simp[vC]
 have hwC:vC (.mk k' n' s' l')=[I k',I n',.str s',.psl (vCs l')]:=by simp[vC]
 simp[g77];have fr:Fr h ((h.add (.cells (vC (.mk k n s l)))).add (.cells (vC (.mk k' n' s' l')))):=((Fr.refl h).add _).add _;have c1:((h.add (.cells (vC (.mk k n s l)))).add (.cells (vC (.mk k' n' s' l')))).ab h.nx=some (vC (.mk k n s l)):=by rw[aC _ _ _ (by simp)];exact bd _ _ _ rfl
 have c2:((h.add (.cells (vC (.mk k n s l)))).add (.cells (vC (.mk k' n' s' l')))).ab (h.nx+1)=some (vC (.mk k' n' s' l')):=bd _ _ _ (by simp);have hn:h.nx+2<=((h.add (.cells (vC (.mk k n s l)))).add (.cells (vC (.mk k' n' s' l')))).nx:=by simp
 generalize(h.add (.cells (vC (.mk k n s l)))).add (.cells (vC (.mk k' n' s' l')))=h1 at*;have d1:=c1;have d2:=c2;rw[hvC]at d1;rw[hwC]at d2;obtain⟨fl,hfl⟩:∃fl,fl=decide (¬(k=k'/\n=n'/\s=s'/\l.length=l'.length)):=⟨_,rfl⟩;have l1:(vCs l).length=l.length:=dr l;have l2:(vCs l').length=l'.length:=dr l';refine⟨λvs h2=>vs=[.ptr h.nx 0,.ptr (h.nx+1) 0,.bool fl]/\h2=h1,?_,?_⟩
 ·rw[hfl];by_cases q1:k=k'
  ·subst q1;by_cases q2:n=n'
   ·subst q2;by_cases q3:s=s'
    ·subst q3;by_cases q4:l.length=l'.length
     ·have q4':(l.length:Int)=l'.length:=by omega
      simp[sS,d1,d2];simp[sH,d1,d2];simp[sE,d1,d2,l1,l2,q4];simp[sG,q4]
     ·have q4':¬(l.length:Int)=l'.length:=by omega
      simp[sS,d1,d2];simp[sH,d1,d2];simp[sE,d1,d2,l1,l2,q4'];simp[sG,q4,q4']
    ·simp[sS,d1,d2];simp[sH,d1,d2,q3];simp[sE];simp[sG,q3]
   ·simp[sS,d1,d2,q2];simp[sH,d1,d2,q2];simp[sE];simp[sG,q2]
  ·simp[sS,d1,d2,q1];simp[sH];simp[sE];simp[sG,q1]
 ·rintro vs h2 ⟨rfl,rfl⟩;by_cases hq:k=k'/\n=n'/\s=s'/\l.length=l'.length
  ·have:fl=false:=by rw[hfl];simp only[hq];simp
   rw[this];obtain⟨rfl,rfl,rfl,q4⟩:=hq;simp[HK];refine⟨Q77 h (.mk k n s l) (.mk k n s l') l l',l.length,.mk 0 (by simp) rfl fr c1 c2 hn,?_⟩;clear d1 d2 c1 c2 fr hn;rintro m vs h' ⟨i,him,ht,fr,c1,c2,hn⟩;have d1:=c1;have d2:=c2;rw[hvC]at d1;rw[hwC]at d2;cases m with
   |zero=>
    have hlt:¬(i:Int)<l.length:=by omega
    simp[IB,d1,l1,hlt];simp[FC,G4];have:l=l':=by
     rw[anc (by omega),anc (by omega)]at ht;exact ht
    exact⟨gv (by rw[this]),fr⟩
   |succ m=>
    have h1:i<l.length:=by omega
    have h2:i<l'.length:=by omega
    have hlt:(i:Int)<l.length:=by omega
    have i1:∀h:AH,aF h 4 (.psl (vCs l)) (I i)=some (.lz (vC l[i]),h):=λh=>da (nD h1) (cH _)
    have i2:∀h:AH,aF h 4 (.psl (vCs l')) (I i)=some (.lz (vC l'[i]),h):=λh=>da (nD h2) (cH _)
    have k1:cut (vC l[i]) 0 4=some (vC l[i]):=by
     have:=aM (α:=vC l[i]) (b:=[]) (n:=4) (cH _);rwa [am5]at this
    have k2:cut (vC l'[i]) 0 4=some (vC l'[i]):=by
     have:=aM (α:=vC l'[i]) (b:=[]) (n:=4) (cH _);rwa [am5]at this
    have fr2:=fr.bump (k:=h'.nx+12) (by omega);simp[IB,d1,l1,hlt,i1];simp[Th,d2,i2,k1,k2];refine adO _ _ (anL h1) ?_;refine⟨by simp,?_⟩;by_cases he:l[i]=l'[i]
    ·rw[gv he];simp(disch:=first|go_size|fail)[Rr];exact⟨m,by omega,.mk (i+1) (show i+1+m=l.length by omega) (g_ ht h1 h2 he) fr2 c1 c2 (by simp;omega)⟩
    ·rw[dZ he];simp(disch:=first|go_size|fail)[Qa];simp(disch:=first|go_size|fail)[FC];exact⟨dZ λe=>he (by cases e;rfl),fr2⟩
  ·have:fl=true:=by rw[hfl];simp only[hq];simp
   rw[this];simp(disch:=first|go_size|fail)[HK];exact⟨dZ λe=>hq (by cases e;exact⟨rfl,rfl,rfl,rfl⟩),fr⟩
theorem afP:∀ {v:Val},WB v->awI v:=λhv=>by
 induction hv with
 |mk k n s l hl _ ih=>exact WM k n s l hl ih
theorem WY(h:AH)(v w:Val)(hv:WB v):aK prog 77 [.agg (vC v),.agg (vC w)] h (.bool (dq v w)) h:=afP hv w h
def e77:QE prog:=QE.fn 77 (λ_=>True) (fun(y:Val×Val)=>match y with|⟨v,w⟩=>[.agg (vC v),.agg (vC w)]) (fun(y:Val×Val)(h:AH)=>match y with|⟨v,w⟩=>WB v) (fun(y:Val×Val)=>match y with|⟨v,w⟩=>.bool (dq v w)) (λh y hj hx=>match y,hx with|⟨v,w⟩,hx=>WY h v w hx)
theorem adX{tl h}(v:Val)(w:Val){Q:QT}(hx:WB v)(hq:Q (.bool (dq v w)) h):tb (e77::tl) 77 [.agg (vC v),.agg (vC w)] h Q:=aV (v,w) trivial hx hq
inductive Q33(h:AH)(A B:AV)(L M:List Val):Nat->List AV->AH->Prop
 |mk {m:Nat} {h':AH} (i:Nat):i+m=L.length->L.take i=M.take i->Fr h h'->Q33 h A B L M m [A,B,I i] h'
theorem W3(h:AH)(A B:AV)(L M:List Val)(hx:Sl (vCs L) A/\Sl (vCs M) B/\L.length<=2000000/\∀v∈L,WB v):aK prog 33 [A,B] h (.bool (dq L M)) h:=by
 obtain⟨hA,hB,hL,hw⟩:=hx;refine kM (λ_=>.bool _) (C33 (aW [e77]) ?_);have l1:∀h:AH,bh h A=some (I L.length,h):=λh=>by rw[gW hA,dr]
 have l2:∀h:AH,bh h B=some (I M.length,h):=λh=>by rw[gW hB,dr]
 by_cases hl:L.length=M.length
 ·have hl':(L.length:Int)=M.length:=by omega
  simp[g33,l1,l2,hl'];refine⟨Q33 h A B L M,L.length,.mk 0 (by simp) rfl (Fr.refl h),?_⟩;rintro m vs h' ⟨i,him,ht,fr⟩;cases m with
  |zero=>
   have hlt:¬(i:Int)<L.length:=by omega
   simp[GD,l1,hlt];simp[Fb,Fv];have:L=M:=by
    rw[anc (by omega),anc (by omega)]at ht;exact ht
   exact⟨gv this,fr⟩
  |succ m=>
   have h1:i<L.length:=by omega
   have h2:i<M.length:=by omega
   have hlt:(i:Int)<L.length:=by omega
   have i1:∀h:AH,aF h 4 A (I i)=some (.lz (vC L[i]),h):=λh=>gY hA (nD h1) (cH _)
   have i2:∀h:AH,aF h 4 B (I i)=some (.lz (vC M[i]),h):=λh=>gY hB (nD h2) (cH _)
   have k1:cut (vC L[i]) 0 4=some (vC L[i]):=by
    have:=aM (α:=vC L[i]) (b:=[]) (n:=4) (cH _);rwa [am5]at this
   have k2:cut (vC M[i]) 0 4=some (vC M[i]):=by
    have:=aM (α:=vC M[i]) (b:=[]) (n:=4) (cH _);rwa [am5]at this
   have fr2:=fr.bump (k:=h'.nx+10) (by omega);simp[GD,l1,hlt,i1,k1];simp[Pp,i2,k2];refine adX _ _ (hw _ (anL h1)) ?_;refine⟨by simp,?_⟩;by_cases he:L[i]=M[i]
   ·rw[gv he];simp(disch:=first|go_size|fail)[];refine⟨m,by omega,?_⟩;exact .mk (i+1) (show i+1+m=L.length by omega) (g_ ht h1 h2 he) fr2
   ·rw[dZ he];simp[];simp[Fb];exact⟨dZ λe=>he (by simp only[e]),fr2⟩
 ·have hl':¬(L.length:Int)=M.length:=by omega
  simp[g33,l1,l2,hl'];exact⟨dZ λe=>hl (by rw[e]),Fr.refl h⟩
def e33:QE prog:=QE.fn 33 (λ_=>True) (fun(y:AV×AV×List Val×List Val)=>match y with|⟨A,B,L,M⟩=>[A,B]) (fun(y:AV×AV×List Val×List Val)(h:AH)=>match y with|⟨A,B,L,M⟩=>Sl (vCs L) A/\Sl (vCs M) B/\L.length<=2000000/\∀v∈L,WB v) (fun(y:AV×AV×List Val×List Val)=>match y with|⟨A,B,L,M⟩=>.bool (dq L M)) (λh y hj hx=>match y,hx with|⟨A,B,L,M⟩,hx=>W3 h A B L M hx)
theorem ad3{tl h}(A:AV)(B:AV)(L:List Val)(M:List Val){Q:QT}(hx:Sl (vCs L) A/\Sl (vCs M) B/\L.length<=2000000/\∀v∈L,WB v)(hq:Q (.bool (dq L M)) h):tb (e33::tl) 33 [A,B] h Q:=aV (A,B,L,M) trivial hx hq
@[simp ↓] theorem akR:TbT e33 33:=aH e33
def pd(p:Prop):Bool:= @decide p (Classical.propDecidable _)
theorem pN{p:Prop}(h:p):pd p=true:=by unfold pd;simp[h]
theorem ck{p:Prop}(h:¬p):pd p=false:=by unfold pd;simp[h]
def txG(i:Inp)(T CT CR C:AV):LA:=[I i.tk,T,CT,CR,I i.unit,I i.dir,.bool i.ext,I i.n,I i.a,I i.b,I i.x,I i.y,I i.oa,C,I i.tt]
def teF(i j:Inp):Prop:=i.tk=j.tk/\i.unit=j.unit/\i.dir=j.dir/\i.ext=j.ext/\i.n=j.n/\i.a=j.a/\i.b=j.b/\(i.x=j.x/\i.y=j.y)/\i.oa=j.oa/\i.tt=j.tt
def teE(i j:Inp):Prop:=(i.cls=j.cls/\i.t=j.t/\i.ct=j.ct/\i.cr=j.cr)/\teF i j
theorem aa1{cl:CL}{h h1:AH}{i j:Inp}{T CT CR C T' CT' CR' C':AV}(fr:Fr h h1)(d1:h1.ab h.nx=some (txG i T CT CR C))(d2:h1.ab (h.nx+1)=some (txG j T' CT' CR' C')):
  jo cl (.ptr h.nx 0) (.ptr (h.nx+1) 0) h1 λv h'=>v =.bool (pd (teF i j))/\Fr h h':=by
 have heq:bA [.int .i64,.int .i64] [I i.x,I i.y] [I j.x,I j.y]=some (decide (i.x=j.x/\i.y=j.y)):=by simp[bA,gn,aob]
 have i0:(txG i T CT CR C)[0]?=some (I i.tk):=rfl;have i4:(txG i T CT CR C)[4]?=some (I i.unit):=rfl;have i5:(txG i T CT CR C)[5]?=some (I i.dir):=rfl;have i6:(txG i T CT CR C)[6]?=some (.bool i.ext):=rfl;have i7:(txG i T CT CR C)[7]?=some (I i.n):=rfl;have i8:(txG i T CT CR C)[8]?=some (I i.a):=rfl;have i9:(txG i T CT CR C)[9]?=some (I i.b):=rfl;have i12:(txG i T CT CR C)[12]?=some (I i.oa):=rfl;have i14:(txG i T CT CR C)[14]?=some (I i.tt):=rfl;have ic:cut (txG i T CT CR C) 10 2=some [I i.x,I i.y]:=rfl;have j0:(txG j T' CT' CR' C')[0]?=some (I j.tk):=rfl;have j4:(txG j T' CT' CR' C')[4]?=some (I j.unit):=rfl;have j5:(txG j T' CT' CR' C')[5]?=some (I j.dir):=rfl;have j6:(txG j T' CT' CR' C')[6]?=some (.bool j.ext):=rfl;have j7:(txG j T' CT' CR' C')[7]?=some (I j.n):=rfl;have j8:(txG j T' CT' CR' C')[8]?=some (I j.a):=rfl;have j9:(txG j T' CT' CR' C')[9]?=some (I j.b):=rfl;have j12:(txG j T' CT' CR' C')[12]?=some (I j.oa):=rfl;have j14:(txG j T' CT' CR' C')[14]?=some (I j.tt):=rfl;have jc:cut (txG j T' CT' CR' C') 10 2=some [I j.x,I j.y]:=rfl;generalize txG i T CT CR C=X at*;generalize txG j T' CT' CR' C'=Y at*;by_cases q1:i.tk=j.tk
 rotate_left
 ·simp[jo,iE,iD,ku,kD,kE,kz,ky,d1,d2,i0,i4,i5,i6,i7,i8,i9,i12,i14,j0,j4,j5,j6,j7,j8,j9,j12,j14,ic,jc,q1];exact⟨ck (by simp only[teF,q1,an3,an5,anp]),fr⟩
 by_cases q2:i.unit=j.unit
 rotate_left
 ·simp[jo,iE,iD,ku,kD,kE,kz,ky,d1,d2,i0,i4,i5,i6,i7,i8,i9,i12,i14,j0,j4,j5,j6,j7,j8,j9,j12,j14,ic,jc,q1,q2];exact⟨ck (by simp only[teF,q2,an3,an5,anp]),fr⟩
 by_cases q3:i.dir=j.dir
 rotate_left
 ·simp[jo,iE,iD,ku,kD,kE,kz,ky,d1,d2,i0,i4,i5,i6,i7,i8,i9,i12,i14,j0,j4,j5,j6,j7,j8,j9,j12,j14,ic,jc,q1,q2,q3];exact⟨ck (by simp only[teF,q3,an3,an5,anp]),fr⟩
 by_cases q4:i.ext=j.ext
 rotate_left
 ·simp[jo,iE,iD,ku,kD,kE,kz,ky,d1,d2,i0,i4,i5,i6,i7,i8,i9,i12,i14,j0,j4,j5,j6,j7,j8,j9,j12,j14,ic,jc,q1,q2,q3,q4];exact⟨ck (by simp only[teF,q4,an3,an5,anp]),fr⟩
 by_cases q5:i.n=j.n
 rotate_left
 ·simp[jo,iE,iD,ku,kD,kE,kz,ky,d1,d2,i0,i4,i5,i6,i7,i8,i9,i12,i14,j0,j4,j5,j6,j7,j8,j9,j12,j14,ic,jc,q1,q2,q3,q4,q5];exact⟨ck (by simp only[teF,q5,an3,an5,anp]),fr⟩
 by_cases q6:i.a=j.a
 rotate_left
 ·simp[jo,iE,iD,ku,kD,kE,kz,ky,d1,d2,i0,i4,i5,i6,i7,i8,i9,i12,i14,j0,j4,j5,j6,j7,j8,j9,j12,j14,ic,jc,q1,q2,q3,q4,q5,q6];exact⟨ck (by simp only[teF,q6,an3,an5,anp]),fr⟩
 by_cases q7:i.b=j.b
 rotate_left
 ·simp[jo,iE,iD,ku,kD,kE,kz,ky,d1,d2,i0,i4,i5,i6,i7,i8,i9,i12,i14,j0,j4,j5,j6,j7,j8,j9,j12,j14,ic,jc,q1,q2,q3,q4,q5,q6,q7];exact⟨ck (by simp only[teF,q7,an3,an5,anp]),fr⟩
 by_cases q8:i.x=j.x/\i.y=j.y
 rotate_left
 ·rw[anw q8]at heq;simp[jo,iE,iD,ku,kD,kE,kz,ky,d1,d2,i0,i4,i5,i6,i7,i8,i9,i12,i14,j0,j4,j5,j6,j7,j8,j9,j12,j14,ic,jc,q1,q2,q3,q4,q5,q6,q7,heq];exact⟨ck (by simp only[teF,q8,an3,an5,anp]),fr⟩
 rw[anA q8]at heq;by_cases q9:i.oa=j.oa
 rotate_left
 ·simp[jo,iE,iD,ku,kD,kE,kz,ky,d1,d2,i0,i4,i5,i6,i7,i8,i9,i12,i14,j0,j4,j5,j6,j7,j8,j9,j12,j14,ic,jc,q1,q2,q3,q4,q5,q6,q7,heq,q9];exact⟨ck (by simp only[teF,q9,an3,an5,anp]),fr⟩
 by_cases qa:i.tt=j.tt
 rotate_left
 ·simp[jo,iE,iD,ku,kD,kE,kz,ky,d1,d2,i0,i4,i5,i6,i7,i8,i9,i12,i14,j0,j4,j5,j6,j7,j8,j9,j12,j14,ic,jc,q1,q2,q3,q4,q5,q6,q7,heq,q9,qa];exact⟨by rw[ck (by simp only[teF,qa,an3,an5,anp])];simpa using qa,fr⟩
 simp[jo,iE,iD,ku,kD,kE,kz,ky,d1,d2,i0,i4,i5,i6,i7,i8,i9,i12,i14,j0,j4,j5,j6,j7,j8,j9,j12,j14,ic,jc,q1,q2,q3,q4,q5,q6,q7,heq,q9,qa];exact⟨pN ⟨q1,q2,q3,q4,q5,q6,q7,q8,q9,qa⟩,fr⟩
inductive Q34(h:AH)(X Y:List AV)(C C':AV)(L N:List (Int×Bool)):Nat->List AV->AH->Prop
 |mk {m:Nat} {h':AH} (i:Nat):i+m=L.length->L.take i=N.take i->Fr h h'->h'.ab h.nx=some X->h'.ab (h.nx+1)=some Y->h.nx+2<=h'.nx->Q34 h X Y C C' L N m [.ptr h.nx 0,.ptr (h.nx+1) 0,I i] h'
theorem TY(h:AH)(i j:Inp)(T CT CR C T' CT' CR' C':AV)(hx:(Sl (rnC i.t) T/\Sl (rnC i.ct) CT/\Sl (chC i.cr) CR/\Sl (cbC i.cls) C)/\(Sl (rnC j.t) T'/\Sl (rnC j.ct) CT'/\Sl (chC j.cr) CR'/\Sl (cbC j.cls) C')/\i.t.length<=1000000/\i.ct.length<=1000000/\i.cr.length<=1000000/\i.cls.length<=2000000):aK prog 34 [.agg (txG i T CT CR C),.agg (txG j T' CT' CR' C')] h (.bool (pd (teE i j))) h:=by
 obtain⟨⟨hT,hCT,hCR,hC⟩,⟨hT',XC,Xx,hC'⟩,b1,b2,b3,b4⟩:=hx;refine kM (λ_=>.bool _) (C34 (aW [e78,e79]) ?_);have o1:dj (txG i T CT CR C)=true:=by
  have a1:=CQ hT;have a2:=CQ hCT;have a3:=CQ hCR;have a4:=CQ hC;simp only[txG,dj,aoE,a1,a2,a3,a4];rfl
 have o2:dj (txG j T' CT' CR' C')=true:=by
  have a1:=CQ hT';have a2:=CQ XC;have a3:=CQ Xx;have a4:=CQ hC';simp only[txG,dj,aoE,a1,a2,a3,a4];rfl
 have x13:(txG i T CT CR C)[13]?=some C:=rfl;have x1:(txG i T CT CR C)[1]?=some T:=rfl;have xc:cut (txG i T CT CR C) 2 2=some [CT,CR]:=rfl;have y13:(txG j T' CT' CR' C')[13]?=some C':=rfl;have y1:(txG j T' CT' CR' C')[1]?=some T':=rfl;have yc:cut (txG j T' CT' CR' C') 2 2=some [CT',CR']:=rfl;simp[g34];have fr:Fr h ((h.add (.cells (txG i T CT CR C))).add (.cells (txG j T' CT' CR' C'))):=((Fr.refl h).add _).add _;have c1:((h.add (.cells (txG i T CT CR C))).add (.cells (txG j T' CT' CR' C'))).ab h.nx=some (txG i T CT CR C):=by rw[aC _ _ _ (by simp)];exact bd _ _ _ rfl
 have c2:((h.add (.cells (txG i T CT CR C))).add (.cells (txG j T' CT' CR' C'))).ab (h.nx+1)=some (txG j T' CT' CR' C'):=bd _ _ _ (by simp);have hn:h.nx+2<=((h.add (.cells (txG i T CT CR C))).add (.cells (txG j T' CT' CR' C'))).nx:=by simp
 generalize(h.add (.cells (txG i T CT CR C))).add (.cells (txG j T' CT' CR' C'))=h1 at*;have l1:∀h:AH,bh h C=some (I i.cls.length,h):=λh=>by rw[gW hC];simp[cbC]
 have l2:∀h:AH,bh h C'=some (I j.cls.length,h):=λh=>by rw[gW hC'];simp[cbC]
 obtain⟨fl,hfl⟩:∃fl,fl=(decide (i.cls.length≠j.cls.length)||(!(dq i.t j.t) || !(dq i.ct j.ct&&dq i.cr j.cr))):=⟨_,rfl⟩;have ajP:= @aa1 (tb [e78,e79]) h;refine⟨λvs h2=>vs=[.ptr h.nx 0,.ptr (h.nx+1) 0,.bool fl]/\h2=h1,?_,?_⟩
 ·by_cases hl:i.cls.length=j.cls.length
  ·have hl':(i.cls.length:Int)=j.cls.length:=by omega
   rw[anw (by simpa using hl),Bool.false_or]at hfl;simp[H5,c1,c2,x13,y13,l1,l2,hl'];simp[Fa,c1,c2,x1,y1];refine YC T T' i.t j.t ⟨hT,hT',b1⟩ ?_;cases hq:dq i.t j.t
   ·rw[hq]at hfl;simp[];simp[Av,hfl]
   ·rw[hq]at hfl;simp[c1,xc];simp[Av,c2,yc];refine afp CT CR CT' CR' i.ct i.cr j.ct j.cr ⟨hCT,hCR,XC,Xx,b2,b3⟩ ?_;rw[hfl];simp[]
  ·have hl':¬(i.cls.length:Int)=j.cls.length:=by omega
   rw[anA hl,Bool.true_or]at hfl;simp[H5,c1,c2,x13,y13,l1,l2,hl'];simp[Fa];simp[Av,hfl]
 ·rintro vs h2 ⟨rfl,rfl⟩;cases hf:fl
  ·rw[hf]at hfl;have hfl:=hfl.symm;simp only[anC,Bool.not_eq_false',ano,amZ,ne_eq,aos]at hfl;obtain⟨hl,ht,hct,hcr⟩:=hfl;have dqe:∀ {α:Type} {a b:α},dq a b=true->a=b:=fun {α a b} e=>by unfold dq at e;simpa using e
   have ht:=dqe ht;have hct:=dqe hct;have hcr:=dqe hcr;simp[GU];refine⟨Q34 h (txG i T CT CR C) (txG j T' CT' CR' C') C C' i.cls j.cls,i.cls.length,.mk 0 (by simp) rfl fr c1 c2 hn,?_⟩;clear c1 c2 fr hn;rintro m vs h' ⟨q,him,hq,fr,c1,c2,hn⟩;cases m with
   |zero=>
    have hlt:¬(q:Int)<i.cls.length:=by omega
    simp[Ip,c1,x13,l1,hlt];unfold atA;simp[];have xR:i.cls=j.cls:=by
     rw[anc (by omega),anc (by omega)]at hq;exact hq
    have:=ajP (i:=i) (j:=j) (T:=T) (CT:=CT) (CR:=CR) (C:=C) (T':=T') (CT':=CT') (CR':=CR') (C':=C') fr c1 c2;have e:pd (teE i j)=pd (teF i j):=by
     by_cases hp:teF i j
     ·rw[pN hp,pN ⟨⟨xR,ht,hct,hcr⟩,hp⟩]
     ·rw[ck hp,ck λe=>hp e.2]
    rw[e];exact this
   |succ m=>
    have h1:q<i.cls.length:=by omega
    have h2:q<j.cls.length:=by omega
    have hlt:(q:Int)<i.cls.length:=by omega
    have i1:∀h:AH,aF h 2 C (I q)=some (.lz [I i.cls[q].1,.bool i.cls[q].2],h):=λh=>gY hC (by simp[cbC,h1]) rfl
    have i2:∀h:AH,aF h 2 C' (I q)=some (.lz [I j.cls[q].1,.bool j.cls[q].2],h):=λh=>gY hC' (by simp[cbC,h2]) rfl
    have fr2:=fr.bump (k:=h'.nx+11) (by omega);simp[Ip,c1,x13,l1,hlt,i1];have heq:bA [.int .i64,.bool] [I i.cls[q].1,.bool i.cls[q].2] [I j.cls[q].1,.bool j.cls[q].2]=some (i.cls[q].1==j.cls[q].1&&i.cls[q].2==j.cls[q].2):=by simp[bA,gn]
    by_cases he:i.cls[q]=j.cls[q]
    ·have hb:(i.cls[q].1==j.cls[q].1&&i.cls[q].2==j.cls[q].2)=true:=by rw[he];simp
     rw[hb]at heq;simp(disch:=first|go_size|fail)[IP,c2,y13,i2,heq];simp(disch:=first|go_size|fail)[TK];exact⟨m,by omega,.mk (q+1) (show q+1+m=i.cls.length by omega) (g_ hq h1 h2 he) fr2 c1 c2 (by simp;omega)⟩
    ·have hb:(i.cls[q].1==j.cls[q].1&&i.cls[q].2==j.cls[q].2)=false:=by
      rw[aCy];intro e;simp only[amZ,an2]at e;exact he (Prod.ext e.1 e.2)
     rw[hb]at heq;simp[IP,c2,y13,i2,heq];simp[atA];exact⟨ck λe=>he (by simp only[e.1.1]),fr2⟩
  ·rw[hf]at hfl;simp[GU];refine⟨ck ?_,fr⟩;rintro⟨⟨e1,e2,e3,e4⟩,_⟩;rw[gv e2,gv e3,gv e4,e1]at hfl;simp at hfl
def e34:QE prog:=QE.fn 34 (λ_=>True) (fun(y:Inp×Inp×AV×AV×AV×AV×AV×AV×AV×AV)=>match y with|⟨i,j,T,CT,CR,C,T',CT',CR',C'⟩=>[.agg (txG i T CT CR C),.agg (txG j T' CT' CR' C')]) (fun(y:Inp×Inp×AV×AV×AV×AV×AV×AV×AV×AV)(h:AH)=>match y with|⟨i,j,T,CT,CR,C,T',CT',CR',C'⟩=>(Sl (rnC i.t) T/\Sl (rnC i.ct) CT/\Sl (chC i.cr) CR/\Sl (cbC i.cls) C)/\(Sl (rnC j.t) T'/\Sl (rnC j.ct) CT'/\Sl (chC j.cr) CR'/\Sl (cbC j.cls) C')/\i.t.length<=1000000/\i.ct.length<=1000000/\i.cr.length<=1000000/\i.cls.length<=2000000) (fun(y:Inp×Inp×AV×AV×AV×AV×AV×AV×AV×AV)=>match y with|⟨i,j,T,CT,CR,C,T',CT',CR',C'⟩=>.bool (pd (teE i j))) (λh y hj hx=>match y,hx with|⟨i,j,T,CT,CR,C,T',CT',CR',C'⟩,hx=>TY h i j T CT CR C T' CT' CR' C' hx)
theorem ad7{tl h}(i:Inp)(j:Inp)(T:AV)(CT:AV)(CR:AV)(C:AV)(T':AV)(CT':AV)(CR':AV)(C':AV){Q:QT}(hx:(Sl (rnC i.t) T/\Sl (rnC i.ct) CT/\Sl (chC i.cr) CR/\Sl (cbC i.cls) C)/\(Sl (rnC j.t) T'/\Sl (rnC j.ct) CT'/\Sl (chC j.cr) CR'/\Sl (cbC j.cls) C')/\i.t.length<=1000000/\i.ct.length<=1000000/\i.cr.length<=1000000/\i.cls.length<=2000000)(hq:Q (.bool (pd (teE i j))) h):tb (e34::tl) 34 [.agg (txG i T CT CR C),.agg (txG j T' CT' CR' C')] h Q:=aV (i,j,T,CT,CR,C,T',CT',CR',C') trivial hx hq
def eqI(i j:Inp):Prop:=i.kind=j.kind/\(i.pk=j.pk/\i.pid=j.pid/\i.px=j.px/\i.py=j.py/\i.pt=j.pt/\i.pw=j.pw)/\(i.key=j.key/\i.mM=j.mM)/\i.time=j.time/\(i.sw=j.sw/\i.sh=j.sh)/\(i.nP=j.nP/\i.high=j.high/\i.scale=j.scale)/\i.args=j.args/\(i.ver=j.ver/\i.node=j.node/\i.act=j.act/\i.frm=j.frm/\i.too=j.too/\i.rt=j.rt)/\teE i j
theorem JS(i j:Inp):eqI i j↔i=j:=by
 constructor
 ·rintro⟨h1,⟨h2,h3,h4,h5,h6,h7⟩,⟨h8,h9⟩,h10,⟨h11,h12⟩,⟨h13,h14,h15⟩,h16,⟨h17,h18,h19,h20,h21,h22⟩,⟨h23,h24,h25,h26⟩,h27,h28,h29,h30,h31,h32,h33,⟨h34,h35⟩,h36,h37⟩;cases i;cases j;simp only at*;subst h1 h2 h3 h4 h5 h6 h7 h8 h9 h10 h11 h12 h13 h14 h15 h16 h17 h18 h19 h20 h21 h22 h23 h24 h25 h26 h27 h28 h29 h30 h31 h32 h33 h34 h35 h36 h37;rfl
 ·rintro rfl;simp[eqI,teE,teF]
structure InB(i:Inp):Prop where
 args:i.args.length<=2000000
 wb:∀v∈i.args,WB v
 t:i.t.length<=1000000
 ct:i.ct.length<=1000000
 cr:i.cr.length<=1000000
 cls:i.cls.length<=2000000
theorem V7(h:AH)(i j:Inp)(cs ds:LA)(hx:InC i cs/\InC j ds/\InB i):aK prog 18 [.agg cs,.agg ds] h (.bool (dq i j)) h:=by
 obtain⟨⟨A,T,CT,CR,C,rfl,hA,hT,hCT,hCR,hC⟩,⟨A',T',CT',CR',C',rfl,hA',hT',XC,Xx,hC'⟩,hB⟩:=hx;have e0:dq i j=pd (eqI i j):=by
  by_cases he:i=j
  ·rw[gv he,pN ((JS i j).2 he)]
  ·rw[dZ he,ck λe=>he ((JS i j).1 e)]
 rw[e0];refine kM (λ_=>.bool _) (C18 (aW [e33,e34]) ?_);have zI:Sl (vCs i.args) A/\Sl (vCs j.args) A'/\i.args.length<=2000000/\∀v∈i.args,WB v:=⟨hA,hA',hB.args,hB.wb⟩;have htx:(Sl (rnC i.t) T/\Sl (rnC i.ct) CT/\Sl (chC i.cr) CR/\Sl (cbC i.cls) C)/\(Sl (rnC j.t) T'/\Sl (rnC j.ct) CT'/\Sl (chC j.cr) CR'/\Sl (cbC j.cls) C')/\i.t.length<=1000000/\i.ct.length<=1000000/\i.cr.length<=1000000/\i.cls.length<=2000000:=⟨⟨hT,hCT,hCR,hC⟩,⟨hT',XC,Xx,hC'⟩,hB.t,hB.ct,hB.cr,hB.cls⟩;simp[g18];have fr:Fr h ((h.add (.cells (inG i A T CT CR C))).add (.cells (inG j A' T' CT' CR' C'))):=((Fr.refl h).add _).add _;have d1:((h.add (.cells (inG i A T CT CR C))).add (.cells (inG j A' T' CT' CR' C'))).ab h.nx=some (inG i A T CT CR C):=by rw[aC _ _ _ (by simp)];exact bd _ _ _ rfl
 have d2:((h.add (.cells (inG i A T CT CR C))).add (.cells (inG j A' T' CT' CR' C'))).ab (h.nx+1)=some (inG j A' T' CT' CR' C'):=bd _ _ _ (by simp);generalize(h.add (.cells (inG i A T CT CR C))).add (.cells (inG j A' T' CT' CR' C'))=h1 at*;have i0:(inG i A T CT CR C)[0]?=some (I i.kind):=rfl;have i9:(inG i A T CT CR C)[9]?=some (I i.time):=rfl;have i15:(inG i A T CT CR C)[15]?=some A:=rfl;have ip:cut (inG i A T CT CR C) 1 6=some [I i.pk,I i.pid,I i.px,I i.py,I i.pt,I i.pw]:=rfl;have ik:cut (inG i A T CT CR C) 7 2=some [I i.key,I i.mM]:=rfl;have iz:cut (inG i A T CT CR C) 10 2=some [I i.sw,I i.sh]:=rfl;have im:cut (inG i A T CT CR C) 12 3=some [.bool i.nP,.bool i.high,I i.scale]:=rfl;have ir:cut (inG i A T CT CR C) 16 6=some [I i.ver,I i.node,I i.act,I i.frm,I i.too,.str i.rt]:=rfl;have it:cut (inG i A T CT CR C) 22 15=some (txG i T CT CR C):=rfl;have j0:(inG j A' T' CT' CR' C')[0]?=some (I j.kind):=rfl;have j9:(inG j A' T' CT' CR' C')[9]?=some (I j.time):=rfl;have j15:(inG j A' T' CT' CR' C')[15]?=some A':=rfl;have jp:cut (inG j A' T' CT' CR' C') 1 6=some [I j.pk,I j.pid,I j.px,I j.py,I j.pt,I j.pw]:=rfl;have jk:cut (inG j A' T' CT' CR' C') 7 2=some [I j.key,I j.mM]:=rfl;have jz:cut (inG j A' T' CT' CR' C') 10 2=some [I j.sw,I j.sh]:=rfl;have jm:cut (inG j A' T' CT' CR' C') 12 3=some [.bool j.nP,.bool j.high,I j.scale]:=rfl;have jr:cut (inG j A' T' CT' CR' C') 16 6=some [I j.ver,I j.node,I j.act,I j.frm,I j.too,.str j.rt]:=rfl;have jt:cut (inG j A' T' CT' CR' C') 22 15=some (txG j T' CT' CR' C'):=rfl
 have ep:bA [.int .i64,.int .i64,.int .i64,.int .i64,.int .i64,.int .i64] [I i.pk,I i.pid,I i.px,I i.py,I i.pt,I i.pw] [I j.pk,I j.pid,I j.px,I j.py,I j.pt,I j.pw]=some (decide (i.pk=j.pk/\i.pid=j.pid/\i.px=j.px/\i.py=j.py/\i.pt=j.pt/\i.pw=j.pw)):=by simp[bA,gn,aob]
 have ek:bA [.int .i64,.int .i64] [I i.key,I i.mM] [I j.key,I j.mM]=some (decide (i.key=j.key/\i.mM=j.mM)):=by simp[bA,gn,aob]
 have ez:bA [.int .i64,.int .i64] [I i.sw,I i.sh] [I j.sw,I j.sh]=some (decide (i.sw=j.sw/\i.sh=j.sh)):=by simp[bA,gn,aob]
 have em:bA [.bool,.bool,.int .i64] [.bool i.nP,.bool i.high,I i.scale] [.bool j.nP,.bool j.high,I j.scale]=some (decide (i.nP=j.nP/\i.high=j.high/\i.scale=j.scale)):=by simp[bA,gn,aob]
 have er:bA [.int .i64,.int .i64,.int .i64,.int .i64,.int .i64,.str] [I i.ver,I i.node,I i.act,I i.frm,I i.too,.str i.rt] [I j.ver,I j.node,I j.act,I j.frm,I j.too,.str j.rt]=some (decide (i.ver=j.ver/\i.node=j.node/\i.act=j.act/\i.frm=j.frm/\i.too=j.too/\i.rt=j.rt)):=by simp[bA,gn,aob]
 generalize inG i A T CT CR C=X at*;generalize inG j A' T' CT' CR' C'=Y at*;by_cases q1:i.kind=j.kind
 rotate_left
 ·simp[oP,oN,o9,oL,apS,mK,d1,d2,i0,i9,i15,ip,ik,iz,im,ir,it,j0,j9,j15,jp,jk,jz,jm,jr,jt,q1];exact⟨ck (by simp only[eqI,q1,an3,an5,anp]),fr⟩
 by_cases q2:i.pk=j.pk/\i.pid=j.pid/\i.px=j.px/\i.py=j.py/\i.pt=j.pt/\i.pw=j.pw
 rotate_left
 ·rw[anw q2]at ep;simp[oP,oN,o9,oL,apS,mK,d1,d2,i0,i9,i15,ip,ik,iz,im,ir,it,j0,j9,j15,jp,jk,jz,jm,jr,jt,q1,ep];exact⟨ck (by simp only[eqI,q2,an3,an5,anp]),fr⟩
 rw[anA q2]at ep;by_cases q3:i.key=j.key/\i.mM=j.mM
 rotate_left
 ·rw[anw q3]at ek;simp[oP,oN,o9,oL,apS,mK,d1,d2,i0,i9,i15,ip,ik,iz,im,ir,it,j0,j9,j15,jp,jk,jz,jm,jr,jt,q1,ep,ek];exact⟨ck (by simp only[eqI,q3,an3,an5,anp]),fr⟩
 rw[anA q3]at ek;by_cases q4:i.time=j.time
 rotate_left
 ·simp[oP,oN,o9,oL,apS,mK,d1,d2,i0,i9,i15,ip,ik,iz,im,ir,it,j0,j9,j15,jp,jk,jz,jm,jr,jt,q1,ep,ek,q4];exact⟨ck (by simp only[eqI,q4,an3,an5,anp]),fr⟩
 by_cases q5:i.sw=j.sw/\i.sh=j.sh
 rotate_left
 ·rw[anw q5]at ez;simp[oP,oN,o9,oL,apS,mK,d1,d2,i0,i9,i15,ip,ik,iz,im,ir,it,j0,j9,j15,jp,jk,jz,jm,jr,jt,q1,ep,ek,q4,ez];exact⟨ck (by simp only[eqI,q5,an3,an5,anp]),fr⟩
 rw[anA q5]at ez;by_cases q6:i.nP=j.nP/\i.high=j.high/\i.scale=j.scale
 rotate_left
 ·rw[anw q6]at em;simp[oP,oN,o9,oL,apS,mK,d1,d2,i0,i9,i15,ip,ik,iz,im,ir,it,j0,j9,j15,jp,jk,jz,jm,jr,jt,q1,ep,ek,q4,ez,em];exact⟨ck (by simp only[eqI,q6,an3,an5,anp]),fr⟩
 rw[anA q6]at em;simp[oP,oN,o9,oL,apS,d1,d2,i0,i9,i15,ip,ik,iz,im,ir,it,j0,j9,j15,jp,jk,jz,jm,jr,jt,q1,ep,ek,q4,ez,em];refine ad3 A A' i.args j.args zI ?_;by_cases q7:i.args=j.args
 rotate_left
 ·rw[dZ q7];simp[mK,d1,d2,i0,i9,i15,ip,ik,iz,im,ir,it,j0,j9,j15,jp,jk,jz,jm,jr,jt];exact⟨ck (by simp only[eqI,q7,an3,an5,anp]),fr⟩
 rw[gv q7];by_cases q8:i.ver=j.ver/\i.node=j.node/\i.act=j.act/\i.frm=j.frm/\i.too=j.too/\i.rt=j.rt
 rotate_left
 ·rw[anw q8]at er;simp[mK,d1,d2,i0,i9,i15,ip,ik,iz,im,ir,it,j0,j9,j15,jp,jk,jz,jm,jr,jt,er];exact⟨ck (by simp only[eqI,q8,an3,an5,anp]),fr⟩
 rw[anA q8]at er;simp[mK,d1,d2,i0,i9,i15,ip,ik,iz,im,ir,it,j0,j9,j15,jp,jk,jz,jm,jr,jt,er];refine ad7 i j T CT CR C T' CT' CR' C' htx ?_;by_cases q9:teE i j
 rotate_left
 ·rw[ck q9];simp[];exact⟨ck (by simp only[eqI,q9,an3,an5,anp]),fr⟩
 rw[pN q9];simp[];exact⟨pN ⟨q1,q2,q3,q4,q5,q6,q7,q8,q9⟩,fr⟩
def e18:QE prog:=QE.fn 18 (λ_=>True) (fun(y:Inp×Inp×List AV×LA)=>match y with|⟨i,j,cs,ds⟩=>[.agg cs,.agg ds]) (fun(y:Inp×Inp×List AV×LA)(h:AH)=>match y with|⟨i,j,cs,ds⟩=>InC i cs/\InC j ds/\InB i) (fun(y:Inp×Inp×List AV×LA)=>match y with|⟨i,j,cs,ds⟩=>.bool (dq i j)) (λh y hj hx=>match y,hx with|⟨i,j,cs,ds⟩,hx=>V7 h i j cs ds hx)
theorem YM{tl h}(i:Inp)(j:Inp)(cs:LA)(ds:LA){Q:QT}(hx:InC i cs/\InC j ds/\InB i)(hq:Q (.bool (dq i j)) h):tb (e18::tl) 18 [.agg cs,.agg ds] h Q:=aV (i,j,cs,ds) trivial hx hq
theorem InC.len{i:Inp}{cs:LA}(h:InC i cs):cs.length=37:=by
 obtain⟨A,T,CT,CR,C,rfl,_⟩:=h;rfl
def wi(is:List Inp)(css:List (LA)):Prop:=is.length=css.length/\∀(k:Nat) (i:Inp) (c:LA),is[k]?=some i->css[k]?=some c->InC i c
theorem ki:∀(n:Nat) (l:List UInt8),(M1 n l).length<=n
 |0,l=>by cases l<;>simp[M1]
 |n+1,[]=>by simp[M1]
 |n+1,b::l=>by
  have:=ki n;simp only[M1,am6];exact Nat.succ_le_succ (this _)
theorem Hf(l:List UInt8):(aD l).length<=l.length:=ki _ _
def qtE(c:UInt8):Str:=if c=92\/c=34 then [92,c]else if c=10 then [92,110]else [c]
def qtB:Str->Str
 |[]=>[]
 |c::s=>qtE c++qtB s
def iu(s:Str):Str:=34::(qtB s++[34])
theorem sC:∀(k u:Nat),u<10^(k+1)->(Lib.decDigits u).length<=k+1
 |0,u,h=>by
  rw[Lib.decDigits,dif_pos (by simpa using h)];simp
 |k+1,u,h=>by
  by_cases h10:u<10
  ·rw[Lib.decDigits,dif_pos h10];simp
  ·rw[Lib.decDigits,dif_neg h10,amX,am2];have:=sC k (u/10) (by
    have e:(10:Nat)^(k+1+1)=10^(k+1)*10:=Nat.pow_succ ..;rw[e]at h;exact Nat.div_lt_of_lt_mul (by omega))
   omega
def NSl(h:AH)(A:AV)(L:List Int):Prop:=∃k,A =.rsl k 0 L.length 1/\h.ab k=some (L.map λn=>I n)/\k<h.nx
mutual
def kY:Val->Str
 |.mk k n s l=>if k=1 then Lib.itoa n else if k=2 then(if n=1 then d_ else LM)else if k=3 then iu s else 91::(gE true l++[93])
def gE:Bool->List Val->Str
 |_,[]=>[]
 |b,v::r=>(if b=true then []else [32])++(kY v++gE false r)
end
open Go.Eng Go.St Tryz
def Wn(m:Int)(i:Nat):Bool:=(m.toNat >>> i)%2==1
def vM(m:Int):Nat->Str
 |0=>[]
 |i+1=>vM m i++(if Wn m i=true then dB.getD i []++[43]else [])
def lQ(k m:Int):Str:=vM m 4++gU k
theorem D9{i:Nat}:(dB.getD i []).length<=10:=by
 by_cases h:i<4
 ·have:i=0\/i=1\/i=2\/i=3:=by omega
  rcases this with rfl|rfl|rfl|rfl<;>decide
 ·have:dB.getD i []=[]:=by
   rw[anh,aoa (by show 4<=i;omega)];rfl
  rw[this];simp
theorem rS(m:Int):∀i,(vM m i).length<=11*i
 |0=>by simp[vM]
 |i+1=>by
  have h1:=rS m i;have h2:= @D9 i;simp only[vM,amX];split
  ·simp only[amX,am2];omega
  ·simp only[anr];omega
theorem Ny{k:Int}:(gU k).length<=1000:=by
 unfold gU;split
 ·by_cases h:k.toNat<24
  ·have:=am9 (gr (l:=ij) (i:=k.toNat) h);exact(by decide:∀w∈ij,w.length<=1000) _ this
  ·rw[anh,aoa (by show 24<=k.toNat;omega)];simp
 ·split
  ·decide
  ·have:=rf k;omega
theorem vW(k m:Int):(lQ k m).length<=1044:=by
 have h1:=rS m 4;have h2:= @Ny k;simp only[lQ,amX];omega
theorem Py{k m:Int}(hk:fa k m=true):gU k≠[]:=by
 rw[jJ]at hk;have hk:0<=m/\m<=15/\((1<=k/\k<=23)\/(32<=k/\k<=1114111/\(k<55296\/57343<k)/\(k<65\/90<k))):=by simpa using hk
 unfold gU;split
 ·rename_i h23;have e:∀q<24,0<q->ij.getD q []≠[]:=by decide
  exact e k.toNat (by omega) (by omega)
 ·split
  ·decide
  ·rw[pQ];have:=Lib.encodeRuneZ_length k;unfold Lib.encodeRune;intro e;have e2:=congrArg List.length e;rw[aor]at e2;simp at e2;have:=this.1;simp[e2]at this
theorem MY{k m:Int}(hk:fa k m=true):lQ k m≠[]:=λe=>by
 unfold lQ at e;exact Py hk (List.append_eq_nil_iff.1 e).2
def chF(k m:Int):Str×Int:=if fa k m=true then(lQ k m,0)else([],1)
theorem Ju(k m:Int):(chF k m).1.length<=1044:=by
 unfold chF;split
 ·exact vW k m
 ·simp
def yi(act:Int):Nat->Str
 |0=>[]
 |k+1=>if act=2^k then dI.getD k []else yi act k
def PRQ(h:AH)(s:Str):QT:=λv h'=>v =.str s/\Fr h h'
theorem Ra(h:AH)(L:List Int):NSl (h.add (.cells (L.map λn=>I n))) (.rsl h.nx 0 L.length 1) L:=⟨h.nx,rfl,bd _ _ _ rfl,by simp⟩
theorem ur(h:AH)(n:Int):NSl (h.add (.cells [I n])) (.rsl h.nx 0 1 1) [n]:=Ra h [n]
theorem Vj(h:AH)(n m:Int):NSl (h.add (.cells [I n,I m])) (.rsl h.nx 0 2 1) [n,m]:=Ra h [n,m]
structure BX(h h':AH)(cs:LA):Prop where
 fr:Fr h h'
 b:h'.ab h.nx=some cs
 nx:h.nx+1<=h'.nx
theorem BX.add{h h':AH}{cs:LA}(g:BX h h' cs)(o:dx):BX h (h'.add o) cs:=⟨g.fr.add o,by have:=g.nx;rw[aC _ _ _ (by omega)];exact g.b,by have:=g.nx;simp;omega⟩
theorem BX.bump{h h':AH}{cs:LA}(g:BX h h' cs){k:Nat}(hk:h'.nx<=k):BX h ⟨h'.H,k⟩ cs:=⟨g.fr.bump hk,g.b,ane g.nx hk⟩
theorem BX.set{h h':AH}{cs:LA}(g:BX h h' cs){k:Nat}(hk:h.nx+1<=k)(o:dx):BX h (h'.set k o) cs:=⟨g.fr.set (by omega) o,by rw[ak _ _ _ _ (by omega)];exact g.b,g.nx⟩
set_option maxRecDepth 100000
def aws(cl:CL)(v4 v7 v13 v14 v15 v32 v36:AV)(h:AH)(k:NT):=wk (aG h v32 (.bool true) v36) λv37 h=>k [v4,v7,v13,v14,v15,v37] h
def awy(cl:CL)(v4 v6 v7 v8 v9 v13 v14 v15:AV)(h:AH)(k:NT):=wk (kUn h .not v9) λv27 h=>wsp v27 λv28=>wg (gdv false v28) (λk=>k v7 h) h λv29 h=>wg (gdv false v28) (λk=>ax cl (F 29) [v29,.str [10]] h k) h λv30 h=>wk (aG h v28 (.bool true) v30) λv31 h=>wsp v31 λv32=>gB v32 (bj h 37 v6) h λv33 h=>gB v32 (bj h 37 v8) h λv34 h=>wg (gdv false v32) (λk=>ax cl (F 30) [v33,v34] h k) h λv35 h=>gB v32 (kUn h .not v35) h λv36 h=>aws cl v4 v7 v13 v14 v15 v32 v36 h k
def awN(cl:CL)(v4 v7 v13 v14 v15 v37:AV)(h:AH)(k:KT):=wif v37 (k .ret [v4,v13,v14,v15] [.str [],I 1,v4] h) (wk (ae h .add v7 (.str [10])) λv39 h=>ax cl (F 31) [v4,v39] h λv40 h=>wk (ae h .add v15 (I 1)) λv41 h=>k .nrm [v4,v13,v14,v41] [.undef,.undef,v4] h)
def awm(cl:CL)(v4 v6 v7 v13 v14 v15 v23:AV)(h:AH)(k:KT):=wk (cm h v23 0) λv24 h=>wk (cm h v23 1) λv25 h=>wk (cU h [I 0,I 0,I 0,I 0,I 0,I 0,I 0,I 0,I 0,I 0,I 0,I 0,.bool false,.bool false,I 0,.aa,I 0,I 0,I 0,I 0,I 0,.str [],I 0,.aa,.aa,.aa,I 0,I 0,.bool false,I 0,I 0,I 0,I 0,I 0,I 0,.aa,I 0]) λv8 h=>wk (kSt h 37 v8 v24) λ_ h=>aI (awy cl v4 v6 v7 v8 v25 v13 v14 v15 h) λvs h=>awN cl (ai vs 0) (ai vs 1) (ai vs 2) (ai vs 3) (ai vs 4) (ai vs 5) h k
def atE(cl:CL)(v4 v13 v14 v15:AV)(h:AH)(k:KT):=wk (ae h .lss v15 v14) λv16 h=>wif v16 (wk (aF h 37 v13 v15) λv17 h=>wk (bj h 37 v17) λv18 h=>wk (cU h [I 0,I 0,I 0,I 0,I 0,I 0,I 0,I 0,I 0,I 0,I 0,I 0,.bool false,.bool false,I 0,.aa,I 0,I 0,I 0,I 0,I 0,.str [],I 0,.aa,.aa,.aa,I 0,I 0,.bool false,I 0,I 0,I 0,I 0,I 0,I 0,.aa,I 0]) λv6 h=>wk (kSt h 37 v6 v18) λ_ h=>wk (bj h 37 v6) λv19 h=>ax cl (F 28) [v19] h λv20 h=>ax cl (F 27) [v20] h λv23 h=>awm cl v4 v6 v20 v13 v14 v15 v23 h k) (k (.exit 0) [v4,v13,v14,v15] [.undef,.undef,v4] h)
def atL(cl:CL)(v4:AV)(h:AH)(Q:QT):=ax cl (F 32) [v4] h λv42 h=>Q (.tup [v42,I 0]) h
def awn(cl:CL)(x:AX)(v2 v3 v4:AV)(h:AH)(Q:QT):=xs x (atL cl v4 h Q) (λj=>cond (Nat.beq j 0) (atL cl v4 h Q) (False)) (Q (.tup [v2,v3]) h)
def g17(cl:CL)(v0:AV)(h:AH)(Q:QT):=wk (bh h v0) λv11 h=>wk (ae h .gtr v11 (I 200)) λv12 h=>wif v12 (Q (.tup [.str [],I 2]) h) (wk (kX h (.NU 85 [.dS,.aa]) []) λv4 h=>wk (bh h v0) λv14 h=>b9 (λvs h k=>atE cl (ai vs 0) (ai vs 1) (ai vs 2) (ai vs 3) h k) [v4,v0,v14,I 0] h λx vs h=>awn cl x (ai vs 0) (ai vs 1) (ai vs 2) h Q)
theorem C17{cl}(hcl:bt prog cl){v0 h Q}(hg:g17 cl v0 h Q):aJ prog 17 [v0] h Q:=bI hcl [(7,.l [4,13,14,15] [2,3,4]),(14,.jn [4,7,13,14,15,37])] func17 (by kernel_rfl) (by kernel_rfl) hg
def av5(cl:CL)(r:Nat)(c0 c3 c5 c10 c13 c16 c19:Rec)(v1 v2 v22 v25 v28 v31 v34:AV)(h:AH)(Q:QT):=wP h (ah h 1 v1) λv35 c20 h=>wP h (ah h 5 v35) λv36 c21 h=>wR h (eK h v36) v36 λv37 c22 h=>wda (r+23) h (dC 1 5 [I 0,I 0,I 0,I 0,I 0] [(0,1,v25),(1,1,v28),(2,1,v31),(3,1,v34),(4,1,v37)]) λv38 c23 h=>wdc cl (F 65) [v38] h λv39 c24 h=>wP h (ae h .add v22 v39) λv40 c25 h=>wP h (aB h v40) λv2 c26 h=>aU c0 c3=true/\aU c0 c10=true/\aU c5 c10=true/\aU c0 c13=true/\aU c5 c13=true/\aU c0 c16=true/\aU c5 c16=true/\aU c0 c19=true/\aU c5 c19=true/\aU c0 c22=true/\aU c5 c22=true/\aU c3 c23=true/\Q v2 h
def axc(cl:CL)(r:Nat)(c0 c3 c5 c10:Rec)(v1 v2 v22 v25 v26:AV)(h:AH)(Q:QT):=wP h (ah h 2 v26) λv27 c12 h=>wR h (eK h v27) v27 λv28 c13 h=>wP h (ah h 1 v1) λv29 c14 h=>wP h (ah h 3 v29) λv30 c15 h=>wR h (eK h v30) v30 λv31 c16 h=>wP h (ah h 1 v1) λv32 c17 h=>wP h (ah h 4 v32) λv33 c18 h=>wR h (eK h v33) v33 λv34 c19 h=>av5 cl r c0 c3 c5 c10 c13 c16 c19 v1 v2 v22 v25 v28 v31 v34 h Q
def axg(cl:CL)(r:Nat)(c0 c3:Rec)(v1 v2 v15 v18:AV)(h:AH)(Q:QT):=wP h (ae h .sub v18 (I 1)) λv19 c4 h=>wdc cl (F 64) [v15,v19] h λv20 c5 h=>wP h (ae h .add (.str [112,111,105,110,116,101,114,32]) v20) λv21 c6 h=>wP h (ae h .add v21 (.str [32])) λv22 c7 h=>wP h (ah h 1 v1) λv23 c8 h=>wP h (ah h 1 v23) λv24 c9 h=>wR h (eK h v24) v24 λv25 c10 h=>wP h (ah h 1 v1) λv26 c11 h=>axc cl r c0 c3 c5 c10 v1 v2 v22 v25 v26 h Q
def awg(cl:CL)(v52 v56:AV)(h:AH)(Q:QT):=wk (ae h .add v52 v56) λv57 h=>Q v57 h
def awO(cl:CL)(v1 v47:AV)(h:AH)(Q:QT):=wk (cm h v47 0) λv48 h=>wk (cm h v47 1) λv49 h=>wk (ae h .add (.str [107,101,121,32]) v48) λv51 h=>wk (ae h .add v51 (.str [32])) λv52 h=>wk (ah h 9 v1) λv53 h=>wk (eK h v53) λv54 h=>wk (aQ h 1 1 [I 0] [(0,1,v54)]) λv55 h=>ax cl (F 65) [v55] h λv56 h=>awg cl v52 v56 h Q
def atQ(cl:CL)(v1 v46:AV)(h:AH)(Q:QT):=ax cl (F 66) [v46] h λv47 h=>awO cl v1 v47 h Q
def atN(cl:CL)(v61:AV)(h:AH)(Q:QT):=wk (aQ h 1 1 [I 0] [(0,1,v61)]) λv62 h=>ax cl (F 65) [v62] h λv63 h=>wk (ae h .add (.str [116,105,109,101,32]) v63) λv64 h=>Q v64 h
def avY(cl:CL)(v75:AV)(h:AH)(Q:QT):=Q v75 h
def atv(cl:CL)(v1 v67:AV)(h:AH)(Q:QT):=wk (ah h 0 v67) λv68 h=>wk (eK h v68) λv69 h=>wk (ah h 10 v1) λv70 h=>wk (ah h 1 v70) λv71 h=>wk (eK h v71) λv72 h=>wk (aQ h 1 2 [I 0,I 0] [(0,1,v69),(1,1,v72)]) λv73 h=>ax cl (F 65) [v73] h λv74 h=>wk (ae h .add (.str [115,105,122,101,32]) v74) λv75 h=>avY cl v75 h Q
def au8(cl:CL)(c2 c3 c8 c9 c14 c15:Rec)(v2 v89 v93:AV)(h:AH)(Q:QT):=wdc cl (F 65) [v93] h λv94 c16 h=>wP h (ae h .add v89 v94) λv95 c17 h=>wP h (aB h v95) λv2 c18 h=>aU c3 c8=true/\aU c3 c14=true/\aU c9 c14=true/\aU c2 c15=true/\aU c8 c15=true/\Q v2 h
def auL(cl:CL)(r:Nat)(c2 c3:Rec)(v1 v2 v83 v85:AV)(h:AH)(Q:QT):=wR h (eK h v85) v85 λv86 c8 h=>wdc cl (F 67) [v86,.str [110,111,114,109,97,108],.str [104,105,103,104]] h λv87 c9 h=>wP h (ae h .add v83 v87) λv88 c10 h=>wP h (ae h .add v88 (.str [32])) λv89 c11 h=>wP h (ah h 12 v1) λv90 c12 h=>wP h (ah h 2 v90) λv91 c13 h=>wR h (eK h v91) v91 λv92 c14 h=>wda (r+15) h (dC 1 1 [I 0] [(0,1,v92)]) λv93 c15 h=>au8 cl c2 c3 c8 c9 c14 c15 v2 v89 v93 h Q
def au0(cl:CL)(gF lu iW mg iL:AV)(h:AH)(k:KT):=wk (aQ h 1 1 [.str []] [(0,1,iL)]) λv109 h=>wk (dK h 1 16 mg v109) λkq h=>wk (ae h .add iW (I 1)) λgp h=>k .nrm [kq,gF,lu,gp] [kq] h
def atC(cl:CL)(v5 gF lu iW:AV)(h:AH)(k:KT):=wk (ae h .lss iW lu) λmO h=>wif mO (wk (aF h 4 gF iW) λpV h=>wk (bj h 4 pV) λv105 h=>wk (cU h [I 0,I 0,.str [],.aa]) λv7 h=>wk (kSt h 4 v7 v105) λ_ h=>wk (bj h 4 v7) λv107 h=>ax cl (F 68) [v107] h λiL h=>au0 cl gF lu iW v5 iL h k) (k (.exit 1) [v5,gF,lu,iW] [v5] h)
def atK(cl:CL)(v5:AV)(h:AH)(Q:QT):=ax cl (F 69) [v5,.str [32]] h λlx h=>Q lx h
def aw5(cl:CL)(x:AX)(v5:AV)(h:AH)(Q:QT):=xs x (atK cl v5 h Q) (λj=>cond (Nat.beq j 1) (atK cl v5 h Q) (cond (Nat.beq j 0) (Q ((.str [])) h) (False))) (Q (.undef) h)
def auh(cl:CL)(v8 v9 kJ fB:AV)(h:AH)(k:NT):=wdr h 5 λr h=>wP h (ah h 2 v8) λnf c0 h=>wR h (eK h nf) nf λv124 c1 h=>wP h (aB h fB) λni c2 h=>wP h (ae h .shl (I 1) ni) λoq c3 h=>wP h (ae h .eql v124 oq) λv127 c4 h=>wif v127 (k [v8,fB,kJ,fB] h) (k [v8,v9,kJ,fB] h)
def awl(cl:CL)(v8 v9 kJ fB:AV)(h:AH)(k:KT):=wk (ae h .add fB (I 1)) λou h=>k .nrm [v8,v9,kJ,ou] [v8,v9] h
def aue(cl:CL)(v8 v9 kJ fB:AV)(h:AH)(k:KT):=wk (ae h .lss fB kJ) λkK h=>wif kK (aI (auh cl v8 v9 kJ fB h) λvs h=>awl cl (ai vs 0) (ai vs 1) (ai vs 2) (ai vs 3) h k) (k (.exit 3) [v8,v9,kJ,fB] [v8,v9] h)
def auv(cl:CL)(c1 c3 c4 c5 c8 c10 c14 c16 c17 c18 c22:Rec)(uj I8:AV)(h:AH)(Q:QT):=wP h (ae h .add uj I8) λv154 c24 h=>wP h (aB h v154) λv2 c25 h=>aU c4 c14=true/\aU c5 c14=true/\aU c8 c14=true/\aU c10 c14=true/\aU c4 c16=true/\aU c5 c16=true/\aU c8 c16=true/\aU c10 c16=true/\aU c1 c17=true/\aU c3 c17=true/\aU c4 c22=true/\aU c5 c22=true/\aU c8 c22=true/\aU c10 c22=true/\aU c17 c22=true/\aU c18 c22=true/\Q v2 h
def auk(cl:CL)(r:Nat)(c1 c3 c4 c5 c8 c10 c14:Rec)(v8 xT xQ v145:AV)(h:AH)(Q:QT):=wR h (eK h v145) v145 λv146 c16 h=>wda (r+17) h (dC 1 2 [I 0,I 0] [(0,1,xQ),(1,1,v146)]) λCP c17 h=>wdc cl (F 65) [CP] h λv148 c18 h=>wP h (ae h .add xT v148) λug c19 h=>wP h (ae h .add ug (.str [32])) λuj c20 h=>wP h (ah h 5 v8) λCU c21 h=>wR h (eK h CU) CU λv152 c22 h=>wdc cl (F 70) [v152] h λI8 c23 h=>auv cl c1 c3 c4 c5 c8 c10 c14 c16 c17 c18 c22 uj I8 h Q
def auK(cl:CL)(r:Nat)(c1 c3 c4 c5:Rec)(v8 v9 mh:AV)(h:AH)(Q:QT):=wdc cl (F 61) [] h λv138 c8 h=>wP h (aB h v9) λv139 c9 h=>wdc cl (F 64) [v138,v139] h λpW c10 h=>wP h (ae h .add mh pW) λv141 c11 h=>wP h (ae h .add v141 (.str [32])) λxT c12 h=>wP h (ah h 3 v8) λv143 c13 h=>wR h (eK h v143) v143 λxQ c14 h=>wP h (ah h 4 v8) λv145 c15 h=>auk cl r c1 c3 c4 c5 c8 c10 c14 v8 xT xQ v145 h Q
def atm(cl:CL)(v8 v9:AV)(h:AH)(Q:QT):=wdr h 26 λr h=>wP h (ah h 0 v8) λv130 c0 h=>wR h (eK h v130) v130 λv131 c1 h=>wP h (ah h 1 v8) λgG c2 h=>wR h (eK h gG) gG λpo c3 h=>wda (r+4) h (dC 1 2 [I 0,I 0] [(0,1,v131),(1,1,po)]) λpr c4 h=>wdc cl (F 65) [pr] h λaui c5 h=>wP h (ae h .add (.str [97,99,99,101,115,115,32]) aui) λxP c6 h=>wP h (ae h .add xP (.str [32])) λmh c7 h=>auK cl r c1 c3 c4 c5 v8 v9 mh h Q
def aw6(cl:CL)(x:AX)(v8 v9:AV)(h:AH)(Q:QT):=xs x (atm cl v8 v9 h Q) (λj=>cond (Nat.beq j 3) (atm cl v8 v9 h Q) (cond (Nat.beq j 0) (Q ((.str [])) h) (False))) (Q (.undef) h)
def avi(cl:CL)(v8 v9 kJ:AV)(h:AH)(Q:QT):=b9 (λvs h k=>aue cl (ai vs 0) (ai vs 1) (ai vs 2) (ai vs 3) h k) [v8,v9,kJ,I 0] h λx vs h=>aw6 cl x (ai vs 0) (ai vs 1) h Q
def apt(cl:CL)(v1 v2 v12 v77:AV)(h:AH)(Q:QT):=wif v77 (wdr h 19 λr h=>wP h (ah h 12 v1) λv78 c0 h=>wP h (ah h 0 v78) λv79 c1 h=>wR h (eK h v79) v79 λv80 c2 h=>wdc cl (F 67) [v80,.str [108,105,103,104,116],.str [100,97,114,107]] h λv81 c3 h=>wP h (ae h .add (.str [109,111,100,101,32]) v81) λv82 c4 h=>wP h (ae h .add v82 (.str [32])) λv83 c5 h=>wP h (ah h 12 v1) λv84 c6 h=>wP h (ah h 1 v84) λv85 c7 h=>auL cl r c2 c3 v1 v2 v83 v85 h Q) (wk (ae h .eql v12 (I 6)) λv97 h=>wif v97 (wk (aQ h 1 1 [.str []] [(0,1,(.str [97,114,103,115]))]) λv98 h=>wk (ah h 15 v1) λv99 h=>wk (eK h v99) λgF h=>wk (bh h gF) λlu h=>b9 (λvs h k=>atC cl (ai vs 0) (ai vs 1) (ai vs 2) (ai vs 3) h k) [v98,gF,lu,I 0] h λx vs h=>aw5 cl x (ai vs 0) h Q) (wk (ae h .eql v12 (I 7)) λpX h=>wif pX (wk (ah h 16 v1) λjC h=>wk (bj h 6 jC) λv117 h=>wk (cU h [I 0,I 0,I 0,I 0,I 0,.str []]) λv8 h=>wk (kSt h 6 v8 v117) λ_ h=>ax cl (F 61) [] h λkG h=>wk (bh h kG) λkJ h=>avi cl v8 ((I (-1))) kJ h Q) (wk (ae h .eql v12 (I 8)) λEJ h=>wif EJ (wk (ah h 22 v1) λv157 h=>wk (bj h 15 v157) λuh h=>ax cl (F 71) [uh] h λv159 h=>wk (ae h .add (.str [99,111,109,112,111,115,101,32]) v159) λv160 h=>Q v160 h) (Q ((.str [])) h))))
def g28(cl:CL)(v0:AV)(h:AH)(Q:QT):=wk (fh h v0) λv1 h=>wk (ah h 0 v1) λv11 h=>wk (eK h v11) λv12 h=>wk (ae h .eql v12 (I 1)) λv14 h=>wif v14 (wdr h 27 λr h=>wdc cl (F 57) [] h λv15 c0 h=>wP h (ah h 1 v1) λv16 c1 h=>wP h (ah h 0 v16) λv17 c2 h=>wR h (eK h v17) v17 λv18 c3 h=>axg cl r c0 c3 v1 ((.str [])) v15 v18 h Q) (wk (ae h .eql v12 (I 2)) λv42 h=>wif v42 (wk (ah h 7 v1) λv44 h=>wk (bj h 2 v44) λv45 h=>wk (aQ h 2 1 [I 0,I 0] [(0,2,v45)]) λv46 h=>atQ cl v1 v46 h Q) (wk (ae h .eql v12 (I 3)) λv59 h=>wif v59 (wk (ah h 9 v1) λv60 h=>wk (eK h v60) λv61 h=>atN cl v61 h Q) (wk (ae h .eql v12 (I 4)) λv66 h=>wif v66 (wk (ah h 10 v1) λv67 h=>atv cl v1 v67 h Q) (wk (ae h .eql v12 (I 5)) λv77 h=>apt cl v1 ((.str [])) v12 v77 h Q))))
theorem C28{cl}(hcl:bt prog cl){v0 h Q}(hg:g28 cl v0 h Q):aJ prog 28 [v0] h Q:=bI hcl [(24,.l [5,100,101,102] [5]),(38,.l [8,9,119,120] [8,9]),(41,.jn [8,9,119,120])] func28 (by kernel_rfl) (by kernel_rfl) hg
def apZ(cl:CL)(v2 v3 v39 v41 v42:AV)(h:AH)(k:NT):=gA v39 (bj h 3 v42) h λv43 h=>gA v39 (pb h false [.bool,.bool,.int .i64] v41 v43) h λv44 h=>wk (aG h v39 v44 (.bool false)) λv45 h=>k [v2,v3,v45] h
def apN(cl:CL)(v2 v3 v32 v33:AV)(h:AH)(k:NT):=gA v32 (bj h 2 v33) h λv34 h=>gA v32 (ah h 10 v3) h λv35 h=>gA v32 (bj h 2 v35) h λv36 h=>gA v32 (pb h false [.int .i64,.int .i64] v34 v36) h λv37 h=>wk (aG h v32 v37 (.bool false)) λv38 h=>wsp v38 λv39=>gA v39 (ah h 12 v2) h λv40 h=>gA v39 (bj h 3 v40) h λv41 h=>gA v39 (ah h 12 v3) h λv42 h=>apZ cl v2 v3 v39 v41 v42 h k
def apQ(cl:CL)(v2 v3 v18 v23:AV)(h:AH)(k:NT):=wk (aG h v18 v23 (.bool false)) λv24 h=>wsp v24 λv25=>gA v25 (ah h 9 v2) h λv26 h=>gA v25 (eK h v26) h λv27 h=>gA v25 (ah h 9 v3) h λv28 h=>gA v25 (eK h v28) h λv29 h=>gA v25 (ae h .eql v27 v29) h λv30 h=>wk (aG h v25 v30 (.bool false)) λv31 h=>wsp v31 λv32=>gA v32 (ah h 10 v2) h λv33 h=>apN cl v2 v3 v32 v33 h k
def apW(cl:CL)(v2 v3 v11 v13 v14:AV)(h:AH)(k:NT):=gA v11 (bj h 6 v14) h λv15 h=>gA v11 (pb h false [.int .i64,.int .i64,.int .i64,.int .i64,.int .i64,.int .i64] v13 v15) h λv16 h=>wk (aG h v11 v16 (.bool false)) λv17 h=>wsp v17 λv18=>gA v18 (ah h 7 v2) h λv19 h=>gA v18 (bj h 2 v19) h λv20 h=>gA v18 (ah h 7 v3) h λv21 h=>gA v18 (bj h 2 v21) h λv22 h=>gA v18 (pb h false [.int .i64,.int .i64] v20 v22) h λv23 h=>apQ cl v2 v3 v18 v23 h k
def apH(cl:CL)(v2 v3:AV)(h:AH)(k:NT):=wk (ah h 0 v2) λv6 h=>wk (eK h v6) λv7 h=>wk (ah h 0 v3) λv8 h=>wk (eK h v8) λv9 h=>wk (ae h .eql v7 v9) λv10 h=>wsp v10 λv11=>gA v11 (ah h 1 v2) h λv12 h=>gA v11 (bj h 6 v12) h λv13 h=>gA v11 (ah h 1 v3) h λv14 h=>apW cl v2 v3 v11 v13 v14 h k
def arw(cl:CL)(v61 v63 v65:AV)(h:AH)(Q:QT):=wg (gdv true v61) (λk=>ax cl (F 75) [v63,v65] h k) h λv66 h=>wk (aG h v61 v66 (.bool false)) λv67 h=>Q v67 h
def asj(cl:CL)(v2 v3 v54 v56:AV)(h:AH)(Q:QT):=gA v54 (ah h 15 v3) h λv57 h=>gA v54 (eK h v57) h λv58 h=>wg (gdv true v54) (λk=>ax cl (F 73) [v56,v58,(.func (.func 74) [] [])] h k) h λv59 h=>wk (aG h v54 v59 (.bool false)) λv60 h=>wsp v60 λv61=>gA v61 (ah h 22 v2) h λv62 h=>gA v61 (bj h 15 v62) h λv63 h=>gA v61 (ah h 22 v3) h λv64 h=>gA v61 (bj h 15 v64) h λv65 h=>arw cl v61 v63 v65 h Q
def arZ(cl:CL)(v2 v3 v5:AV)(h:AH)(Q:QT):=wsp v5 λv47=>gA v47 (ah h 16 v2) h λv48 h=>gA v47 (bj h 6 v48) h λv49 h=>gA v47 (ah h 16 v3) h λv50 h=>gA v47 (bj h 6 v50) h λv51 h=>gA v47 (pb h false [.int .i64,.int .i64,.int .i64,.int .i64,.int .i64,.str] v49 v51) h λv52 h=>wk (aG h v47 v52 (.bool false)) λv53 h=>wsp v53 λv54=>gA v54 (ah h 15 v2) h λv55 h=>gA v54 (eK h v55) h λv56 h=>asj cl v2 v3 v54 v56 h Q
def g30(cl:CL)(v0 v1:AV)(h:AH)(Q:QT):=wk (fh h v0) λv2 h=>wk (fh h v1) λv3 h=>aI (apH cl v2 v3 h) λvs h=>arZ cl (ai vs 0) (ai vs 1) (ai vs 2) h Q
theorem C30{cl}(hcl:bt prog cl){v0 v1 h Q}(hg:g30 cl v0 v1 h Q):aJ prog 30 [v0,v1] h Q:=bI hcl [(1,.jn [2,3,5])] func30 (by kernel_rfl) (by kernel_rfl) hg
def asA(cl:CL)(v0 v1:AV)(h:AH)(k:NT):=wk (ae h .lss v1 (I 0)) λv6 h=>wsp v6 λv7=>wg (gdv false v7) (λk=>k v1 h) h λv8 h=>wg (gdv false v7) (λk=>k v0 h) h λv9 h=>gB v7 (bh h v9) h λv10 h=>gB v7 (ae h .geq v8 v10) h λv11 h=>wk (aG h v7 (.bool true) v11) λv12 h=>k [v0,v1,v12] h
def atn(cl:CL)(v0 v1 v12:AV)(h:AH)(Q:QT):=wif v12 (Q ((.str [])) h) (wk (aF h 1 v0 v1) λv15 h=>wk (eK h v15) λv16 h=>Q v16 h)
def g64(cl:CL)(v0 v1:AV)(h:AH)(Q:QT):=aI (asA cl v0 v1 h) λvs h=>atn cl (ai vs 0) (ai vs 1) (ai vs 2) h Q
theorem C64{cl}(hcl:bt prog cl){v0 v1 h Q}(hg:g64 cl v0 v1 h Q):aJ prog 64 [v0,v1] h Q:=bI hcl [(1,.jn [0,1,12])] func64 (by kernel_rfl) (by kernel_rfl) hg
def av1(cl:CL)(v6 v7 v8 v12 v14:AV)(h:AH)(k:KT):=wk (aQ h 1 1 [.str []] [(0,1,v14)]) λv15 h=>wk (dK h 1 16 v12 v15) λv16 h=>wk (ae h .add v8 (I 1)) λv17 h=>k .nrm [v16,v6,v7,v17] [v16] h
def atV(cl:CL)(v3 v6 v7 v8:AV)(h:AH)(k:KT):=wk (ae h .lss v8 v7) λv9 h=>wif v9 (wk (aF h 1 v6 v8) λv10 h=>wk (eK h v10) λv11 h=>ax cl (F 99) [v11] h λv14 h=>av1 cl v6 v7 v8 v3 v14 h k) (k (.exit 0) [v3,v6,v7,v8] [v3] h)
def atk(cl:CL)(v3:AV)(h:AH)(Q:QT):=ax cl (F 69) [v3,.str [32]] h λv19 h=>Q v19 h
def awq(cl:CL)(x:AX)(v3:AV)(h:AH)(Q:QT):=xs x (atk cl v3 h Q) (λj=>cond (Nat.beq j 0) (atk cl v3 h Q) (False)) (Q (.undef) h)
def g65(cl:CL)(v0:AV)(h:AH)(Q:QT):=wk (bh h v0) λv7 h=>b9 (λvs h k=>atV cl (ai vs 0) (ai vs 1) (ai vs 2) (ai vs 3) h k) [(.aa),v0,v7,I 0] h λx vs h=>awq cl x (ai vs 0) h Q
theorem C65{cl}(hcl:bt prog cl){v0 h Q}(hg:g65 cl v0 h Q):aJ prog 65 [v0] h Q:=bI hcl [(4,.l [3,6,7,8] [3])] func65 (by kernel_rfl) (by kernel_rfl) hg
def awK(cl:CL)(v4 v13 v14 v15:AV)(h:AH)(k:KT):=k .ret [v4,v13,v14,v15] [.str [],I 1,v4] h
def awW(cl:CL)(v13 v14 v15 v22 v24:AV)(h:AH)(k:KT):=wk (aQ h 1 1 [.str []] [(0,1,v24)]) λv25 h=>wk (dK h 1 16 v22 v25) λv26 h=>wk (ae h .add v15 (I 1)) λv27 h=>k .nrm [v26,v13,v14,v27] [.undef,.undef,v26] h
def awJ(cl:CL)(v4 v6 v13 v14 v15:AV)(h:AH)(k:KT):=wk (bj h 2 v6) λv23 h=>ax cl (F 101) [v23] h λv24 h=>awW cl v13 v14 v15 v4 v24 h k
def ato(cl:CL)(v4 v13 v14 v15:AV)(h:AH)(k:KT):=wk (ae h .lss v15 v14) λv16 h=>wif v16 (wk (aF h 2 v13 v15) λv17 h=>wk (bj h 2 v17) λv18 h=>wk (cU h [I 0,I 0]) λv6 h=>wk (kSt h 2 v6 v18) λ_ h=>wk (bj h 2 v6) λv19 h=>ax cl (F 100) [v19] h λv20 h=>wk (kUn h .not v20) λv21 h=>wif v21 (awK cl v4 v13 v14 v15 h k) (awJ cl v4 v6 v13 v14 v15 h k)) (k (.exit 0) [v4,v13,v14,v15] [.undef,.undef,v4] h)
def aud(cl:CL)(v4:AV)(h:AH)(Q:QT):=ax cl (F 69) [v4,.str [32]] h λv29 h=>Q (.tup [v29,I 0]) h
def atM(cl:CL)(x:AX)(v2 v3 v4:AV)(h:AH)(Q:QT):=xs x (aud cl v4 h Q) (λj=>cond (Nat.beq j 0) (aud cl v4 h Q) (False)) (Q (.tup [v2,v3]) h)
def g66(cl:CL)(v0:AV)(h:AH)(Q:QT):=wk (bh h v0) λv8 h=>wk (ae h .gtr v8 (I 3)) λv9 h=>wif v9 (Q (.tup [.str [],I 2]) h) (wk (bh h v0) λv11 h=>wk (ae h .eql v11 (I 0)) λv12 h=>wif v12 (Q (.tup [.str [],I 1]) h) (wk (bh h v0) λv14 h=>b9 (λvs h k=>ato cl (ai vs 0) (ai vs 1) (ai vs 2) (ai vs 3) h k) [(.aa),v0,v14,I 0] h λx vs h=>atM cl x (ai vs 0) (ai vs 1) (ai vs 2) h Q))
theorem C66{cl}(hcl:bt prog cl){v0 h Q}(hg:g66 cl v0 h Q):aJ prog 66 [v0] h Q:=bI hcl [(10,.l [4,13,14,15] [2,3,4])] func66 (by kernel_rfl) (by kernel_rfl) hg
def g67(cl:CL)(v0 v1 v2:AV)(h:AH)(Q:QT):=wif v0 (Q v2 h) (Q v1 h)
theorem C67{cl}(hcl:bt prog cl){v0 v1 v2 h Q}(hg:g67 cl v0 v1 v2 h Q):aJ prog 67 [v0,v1,v2] h Q:=bI hcl [] func67 (by kernel_rfl) (by kernel_rfl) hg
def avX(cl:CL)(v17:AV)(h:AH)(Q:QT):=ax cl (F 102) [v17] h λv18 h=>Q v18 h
def axf(cl:CL)(v22:AV)(h:AH)(Q:QT):=ax cl (F 70) [v22] h λv23 h=>Q v23 h
def awc(cl:CL)(v27 v28 v29 v33 v35:AV)(h:AH)(k:KT):=wk (aQ h 1 1 [.str []] [(0,1,v35)]) λv36 h=>wk (dK h 1 16 v33 v36) λv37 h=>wk (ae h .add v29 (I 1)) λv38 h=>k .nrm [v37,v27,v28,v38] [v37] h
def atI(cl:CL)(v3 v27 v28 v29:AV)(h:AH)(k:KT):=wk (ae h .lss v29 v28) λv30 h=>wif v30 (wk (aF h 4 v27 v29) λv31 h=>wk (bj h 4 v31) λv32 h=>wk (cU h [I 0,I 0,.str [],.aa]) λv5 h=>wk (kSt h 4 v5 v32) λ_ h=>wk (bj h 4 v5) λv34 h=>ax cl (F 68) [v34] h λv35 h=>awc cl v27 v28 v29 v3 v35 h k) (k (.exit 1) [v3,v27,v28,v29] [v3] h)
def avZ(cl:CL)(v40:AV)(h:AH)(Q:QT):=wk (ae h .add (.str [91]) v40) λv41 h=>wk (ae h .add v41 (.str [93])) λv42 h=>Q v42 h
def at0(cl:CL)(v3:AV)(h:AH)(Q:QT):=ax cl (F 69) [v3,.str [32]] h λv40 h=>avZ cl v40 h Q
def axo(cl:CL)(x:AX)(v3:AV)(h:AH)(Q:QT):=xs x (at0 cl v3 h Q) (λj=>cond (Nat.beq j 1) (at0 cl v3 h Q) (cond (Nat.beq j 0) (Q ((.str [])) h) (False))) (Q (.undef) h)
def axb(cl:CL)(v3 v26:AV)(h:AH)(Q:QT):=wk (eK h v26) λv27 h=>wk (bh h v27) λv28 h=>b9 (λvs h k=>atI cl (ai vs 0) (ai vs 1) (ai vs 2) (ai vs 3) h k) [v3,v27,v28,I 0] h λx vs h=>axo cl x (ai vs 0) h Q
def g68(cl:CL)(v0:AV)(h:AH)(Q:QT):=wk (fh h v0) λv1 h=>wk (ah h 0 v1) λv6 h=>wk (eK h v6) λv7 h=>wk (ae h .eql v7 (I 1)) λv9 h=>wif v9 (wk (ah h 1 v1) λv10 h=>wk (eK h v10) λv11 h=>ax cl (F 99) [v11] h λv12 h=>Q v12 h) (wk (ae h .eql v7 (I 2)) λv14 h=>wif v14 (wk (ah h 1 v1) λv15 h=>wk (eK h v15) λv16 h=>wk (ae h .eql v16 (I 1)) λv17 h=>avX cl v17 h Q) (wk (ae h .eql v7 (I 3)) λv20 h=>wif v20 (wk (ah h 2 v1) λv21 h=>wk (eK h v21) λv22 h=>axf cl v22 h Q) (wk (ae h .eql v7 (I 4)) λv25 h=>wif v25 (wk (ah h 3 v1) λv26 h=>axb cl ((.aa)) v26 h Q) (Q ((.str [])) h))))
theorem C68{cl}(hcl:bt prog cl){v0 h Q}(hg:g68 cl v0 h Q):aJ prog 68 [v0] h Q:=bI hcl [(17,.l [3,27,28,29] [3])] func68 (by kernel_rfl) (by kernel_rfl) hg
def av2(cl:CL)(v6:AV)(h:AH)(Q:QT):=wk (ae h .add (.str [34]) v6) λv7 h=>wk (ae h .add v7 (.str [34])) λv8 h=>Q v8 h
def awk(cl:CL)(v0 v4:AV)(h:AH)(Q:QT):=ax cl (F 105) [v4,v0] h λv6 h=>av2 cl v6 h Q
def g70(cl:CL)(v0:AV)(h:AH)(Q:QT):=wk (aQ h 1 6 [.str [],.str [],.str [],.str [],.str [],.str []] [(0,1,(.str [92])),(1,1,(.str [92,92])),(2,1,(.str [34])),(3,1,(.str [92,34])),(4,1,(.str [10])),(5,1,(.str [92,110]))]) λv3 h=>ax cl (F 104) [v3] h λv4 h=>awk cl v0 v4 h Q
theorem C70{cl}(hcl:bt prog cl){v0 h Q}(hg:g70 cl v0 h Q):aJ prog 70 [v0] h Q:=bI hcl [] func70 (by kernel_rfl) (by kernel_rfl) hg
def aw7(cl:CL)(v15:AV)(h:AH)(Q:QT):=wk (kX h .r2s [v15]) λv16 h=>ax cl (F 70) [v16] h λv17 h=>wk (ae h .add (.str [99,111,109,109,105,116,32]) v17) λv18 h=>Q v18 h
def axs(cl:CL)(v1 v23 v24 v25 v31 v33:AV)(h:AH)(k:NT):=wk (kUn h .neg v33) λv34 h=>wk (aQ h 1 1 [I 0] [(0,1,v34)]) λv35 h=>wk (dK h 1 8 v31 v35) λv36 h=>k [v1,v36,v23,v24,v25] h
def axm(cl:CL)(v1 v23 v24 v25 v37 v39:AV)(h:AH)(k:NT):=wk (aQ h 1 1 [I 0] [(0,1,v39)]) λv40 h=>wk (dK h 1 8 v37 v40) λv41 h=>k [v1,v41,v23,v24,v25] h
def aww(cl:CL)(v1 v3 v23 v24 v25:AV)(h:AH)(k:NT):=wk (aF h 2 v23 v25) λv27 h=>wk (bj h 2 v27) λv28 h=>wk (cU h [I 0,.bool false]) λv5 h=>wk (kSt h 2 v5 v28) λ_ h=>wk (ah h 1 v5) λv29 h=>wk (eK h v29) λv30 h=>wif v30 (wk (ah h 0 v5) λv32 h=>wk (eK h v32) λv33 h=>axs cl v1 v23 v24 v25 v3 v33 h k) (wk (ah h 0 v5) λv38 h=>wk (eK h v38) λv39 h=>axm cl v1 v23 v24 v25 v3 v39 h k)
def axu(cl:CL)(v1 v3 v23 v24 v25:AV)(h:AH)(k:KT):=wk (ae h .add v25 (I 1)) λv42 h=>k .nrm [v1,v3,v23,v24,v42] [v1,v3] h
def ats(cl:CL)(v1 v3 v23 v24 v25:AV)(h:AH)(k:KT):=wk (ae h .lss v25 v24) λv26 h=>wif v26 (aI (aww cl v1 v3 v23 v24 v25 h) λvs h=>axu cl (ai vs 0) (ai vs 1) (ai vs 2) (ai vs 3) (ai vs 4) h k) (k (.exit 1) [v1,v3,v23,v24,v25] [v1,v3] h)
def aw_(cl:CL)(v3 v46:AV)(h:AH)(Q:QT):=wk (ae h .add (.str [117,112,100,97,116,101,32]) v46) λv47 h=>wk (ae h .add v47 (.str [32])) λv48 h=>ax cl (F 65) [v3] h λv50 h=>wk (ae h .add v48 v50) λv51 h=>Q v51 h
def atJ(cl:CL)(v1 v3:AV)(h:AH)(Q:QT):=wk (ah h 1 v1) λv43 h=>wk (eK h v43) λv44 h=>wk (kX h .r2s [v44]) λv45 h=>ax cl (F 70) [v45] h λv46 h=>aw_ cl v3 v46 h Q
def axn(cl:CL)(x:AX)(v1 v3:AV)(h:AH)(Q:QT):=xs x (atJ cl v1 v3 h Q) (λj=>cond (Nat.beq j 1) (atJ cl v1 v3 h Q) (False)) (Q (.undef) h)
def awG(cl:CL)(v1 v20:AV)(h:AH)(Q:QT):=wk (aQ h 1 1 [I 0] [(0,1,v20)]) λv21 h=>wk (ah h 13 v1) λv22 h=>wk (eK h v22) λv23 h=>wk (bh h v23) λv24 h=>b9 (λvs h k=>ats cl (ai vs 0) (ai vs 1) (ai vs 2) (ai vs 3) (ai vs 4) h k) [v1,v21,v23,v24,I 0] h λx vs h=>axn cl x (ai vs 0) (ai vs 1) h Q
def g71(cl:CL)(v0:AV)(h:AH)(Q:QT):=wk (fh h v0) λv1 h=>wk (ah h 0 v1) λv6 h=>wk (eK h v6) λv7 h=>wk (ae h .eql v7 (I 14)) λv9 h=>wif v9 (Q ((.str [98,101,103,105,110])) h) (wk (ae h .eql v7 (I 17)) λv11 h=>wif v11 (Q ((.str [99,97,110,99,101,108])) h) (wk (ae h .eql v7 (I 16)) λv13 h=>wif v13 (wk (ah h 1 v1) λv14 h=>wk (eK h v14) λv15 h=>aw7 cl v15 h Q) (wk (ah h 12 v1) λv19 h=>wk (eK h v19) λv20 h=>awG cl v1 v20 h Q)))
theorem C71{cl}(hcl:bt prog cl){v0 h Q}(hg:g71 cl v0 h Q):aJ prog 71 [v0] h Q:=bI hcl [(15,.l [1,3,23,24,25] [1,3]),(18,.jn [1,3,23,24,25])] func71 (by kernel_rfl) (by kernel_rfl) hg
def awA(cl:CL)(v1 v2 v8 v9 v15 v16 v17 v25:AV)(h:AH)(k:KT):=wk (kSt h 4 v9 v25) λ_ h=>wk (bj h 4 v8) λv27 h=>wk (bj h 4 v9) λv28 h=>ax cl v2 [v27,v28] h λv29 h=>wk (kUn h .not v29) λv30 h=>wif v30 (k .ret [v1,v2,v15,v16,v17] [.bool false] h) (wk (ae h .add v17 (I 1)) λv31 h=>k .nrm [v1,v2,v15,v16,v31] [.undef] h)
def atZ(cl:CL)(v1 v2 v15 v16 v17:AV)(h:AH)(k:KT):=wk (ae h .lss v17 v16) λv18 h=>wif v18 (wk (aF h 4 v15 v17) λv20 h=>wk (bj h 4 v20) λv21 h=>wk (cU h [I 0,I 0,.str [],.aa]) λv8 h=>wk (kSt h 4 v8 v21) λ_ h=>wk (aF h 4 v1 v17) λv24 h=>wk (bj h 4 v24) λv25 h=>wk (cU h [I 0,I 0,.str [],.aa]) λv9 h=>awA cl v1 v2 v8 v9 v15 v16 v17 v25 h k) (k (.exit 0) [v1,v2,v15,v16,v17] [.undef] h)
def atx(cl:CL)(h:AH)(Q:QT):=Q ((.bool true)) h
def aua(cl:CL)(x:AX)(v6:AV)(h:AH)(Q:QT):=xs x (atx cl h Q) (λj=>cond (Nat.beq j 0) (atx cl h Q) (False)) (Q v6 h)
def g73(cl:CL)(v0 v1 v2:AV)(h:AH)(Q:QT):=wk (bh h v0) λv11 h=>wk (bh h v1) λv13 h=>wk (ae h .neq v11 v13) λv14 h=>wif v14 (Q ((.bool false)) h) (wk (bh h v0) λv16 h=>b9 (λvs h k=>atZ cl (ai vs 0) (ai vs 1) (ai vs 2) (ai vs 3) (ai vs 4) h k) [v1,v2,v0,v16,I 0] h λx vs h=>aua cl x (ai vs 0) h Q)
theorem C73{cl}(hcl:bt prog cl){v0 v1 v2 h Q}(hg:g73 cl v0 v1 v2 h Q):aJ prog 73 [v0,v1,v2] h Q:=bI hcl [(6,.l [1,2,15,16,17] [6])] func73 (by kernel_rfl) (by kernel_rfl) hg
def atO(cl:CL)(v2 v3 v6:AV)(h:AH)(Q:QT):=wk (ae h .eql v6 (I 0)) λv7 h=>wsp v7 λv8=>gA v8 (bj h 4 v2) h λv9 h=>gA v8 (bj h 4 v3) h λv10 h=>wg (gdv true v8) (λk=>ax cl (F 106) [v9,v10] h k) h λv11 h=>wk (aG h v8 v11 (.bool false)) λv12 h=>Q v12 h
def g74(cl:CL)(v0 v1:AV)(h:AH)(Q:QT):=wk (fh h v0) λv2 h=>wk (fh h v1) λv3 h=>wk (bj h 4 v2) λv5 h=>ax cl (F 97) [v5] h λv6 h=>atO cl v2 v3 v6 h Q
theorem C74{cl}(hcl:bt prog cl){v0 v1 h Q}(hg:g74 cl v0 v1 h Q):aJ prog 74 [v0,v1] h Q:=bI hcl [] func74 (by kernel_rfl) (by kernel_rfl) hg
def asd(cl:CL)(v2 v3 v19:AV)(h:AH)(k:NT):=wsp v19 λv20=>gB v20 (ah h 13 v2) h λv21 h=>gB v20 (eK h v21) h λv22 h=>gB v20 (ah h 13 v3) h λv23 h=>gB v20 (eK h v23) h λv24 h=>wg (gdv false v20) (λk=>ax cl (F 109) [v22,v24] h k) h λv25 h=>gB v20 (kUn h .not v25) h λv26 h=>wk (aG h v20 (.bool true) v26) λv27 h=>k [v2,v3,v27] h
def atu(cl:CL)(v2 v3 v10:AV)(h:AH)(k:NT):=wk (kUn h .not v10) λv11 h=>wsp v11 λv12=>gB v12 (ah h 2 v2) h λv13 h=>gB v12 (bj h 2 v13) h λv14 h=>gB v12 (ah h 2 v3) h λv15 h=>gB v12 (bj h 2 v15) h λv16 h=>wg (gdv false v12) (λk=>ax cl (F 108) [v14,v16] h k) h λv17 h=>gB v12 (kUn h .not v17) h λv18 h=>wk (aG h v12 (.bool true) v18) λv19 h=>asd cl v2 v3 v19 h k
def awT(cl:CL)(v2 v3:AV)(h:AH)(k:NT):=wk (ah h 1 v2) λv6 h=>wk (eK h v6) λv7 h=>wk (ah h 1 v3) λv8 h=>wk (eK h v8) λv9 h=>ax cl (F 107) [v7,v9] h λv10 h=>atu cl v2 v3 v10 h k
def aqi(cl:CL)(v2 v3 v54 v55:AV)(h:AH)(k:NT):=gA v54 (eK h v55) h λv56 h=>gA v54 (ah h 7 v3) h λv57 h=>gA v54 (eK h v57) h λv58 h=>gA v54 (ae h .eql v56 v58) h λv59 h=>wk (aG h v54 v59 (.bool false)) λv60 h=>k [v2,v3,v60] h
def aqe(cl:CL)(v2 v3 v40 v45:AV)(h:AH)(k:NT):=wk (aG h v40 v45 (.bool false)) λv46 h=>wsp v46 λv47=>gA v47 (ah h 6 v2) h λv48 h=>gA v47 (eK h v48) h λv49 h=>gA v47 (ah h 6 v3) h λv50 h=>gA v47 (eK h v50) h λv51 h=>gA v47 (arJ h false v49 v51) h λv52 h=>wk (aG h v47 v52 (.bool false)) λv53 h=>wsp v53 λv54=>gA v54 (ah h 7 v2) h λv55 h=>aqi cl v2 v3 v54 v55 h k
def aqh(cl:CL)(v2 v3 v33 v35 v36:AV)(h:AH)(k:NT):=gA v33 (eK h v36) h λv37 h=>gA v33 (ae h .eql v35 v37) h λv38 h=>wk (aG h v33 v38 (.bool false)) λv39 h=>wsp v39 λv40=>gA v40 (ah h 5 v2) h λv41 h=>gA v40 (eK h v41) h λv42 h=>gA v40 (ah h 5 v3) h λv43 h=>gA v40 (eK h v43) h λv44 h=>gA v40 (ae h .eql v42 v44) h λv45 h=>aqe cl v2 v3 v40 v45 h k
def ap0(cl:CL)(v2 v3:AV)(h:AH)(k:NT):=wk (ah h 0 v2) λv28 h=>wk (eK h v28) λv29 h=>wk (ah h 0 v3) λv30 h=>wk (eK h v30) λv31 h=>wk (ae h .eql v29 v31) λv32 h=>wsp v32 λv33=>gA v33 (ah h 4 v2) h λv34 h=>gA v33 (eK h v34) h λv35 h=>gA v33 (ah h 4 v3) h λv36 h=>aqh cl v2 v3 v33 v35 v36 h k
def apR(cl:CL)(v2 v3 v89:AV)(h:AH)(Q:QT):=wsp v89 λv90=>gA v90 (ah h 14 v2) h λv91 h=>gA v90 (eK h v91) h λv92 h=>gA v90 (ah h 14 v3) h λv93 h=>gA v90 (eK h v93) h λv94 h=>gA v90 (ae h .eql v92 v94) h λv95 h=>wk (aG h v90 v95 (.bool false)) λv96 h=>Q v96 h
def apM(cl:CL)(v2 v3 v76 v78 v80:AV)(h:AH)(Q:QT):=gA v76 (pb h false [.int .i64,.int .i64] v78 v80) h λv81 h=>wk (aG h v76 v81 (.bool false)) λv82 h=>wsp v82 λv83=>gA v83 (ah h 12 v2) h λv84 h=>gA v83 (eK h v84) h λv85 h=>gA v83 (ah h 12 v3) h λv86 h=>gA v83 (eK h v86) h λv87 h=>gA v83 (ae h .eql v85 v87) h λv88 h=>wk (aG h v83 v88 (.bool false)) λv89 h=>apR cl v2 v3 v89 h Q
def apT(cl:CL)(v2 v3 v69 v71:AV)(h:AH)(Q:QT):=gA v69 (ah h 9 v3) h λv72 h=>gA v69 (eK h v72) h λv73 h=>gA v69 (ae h .eql v71 v73) h λv74 h=>wk (aG h v69 v74 (.bool false)) λv75 h=>wsp v75 λv76=>gA v76 (ah h 10 v2) h λv77 h=>gA v76 (bj h 2 v77) h λv78 h=>gA v76 (ah h 10 v3) h λv79 h=>gA v76 (bj h 2 v79) h λv80 h=>apM cl v2 v3 v76 v78 v80 h Q
def apy(cl:CL)(v2 v3 v5:AV)(h:AH)(Q:QT):=wsp v5 λv62=>gA v62 (ah h 8 v2) h λv63 h=>gA v62 (eK h v63) h λv64 h=>gA v62 (ah h 8 v3) h λv65 h=>gA v62 (eK h v65) h λv66 h=>gA v62 (ae h .eql v64 v66) h λv67 h=>wk (aG h v62 v67 (.bool false)) λv68 h=>wsp v68 λv69=>gA v69 (ah h 9 v2) h λv70 h=>gA v69 (eK h v70) h λv71 h=>apT cl v2 v3 v69 v71 h Q
def atr(cl:CL)(v2 v3 v27:AV)(h:AH)(Q:QT):=wif v27 (Q ((.bool false)) h) (aI (ap0 cl v2 v3 h) λvs h=>apy cl (ai vs 0) (ai vs 1) (ai vs 2) h Q)
def g75(cl:CL)(v0 v1:AV)(h:AH)(Q:QT):=wk (fh h v0) λv2 h=>wk (fh h v1) λv3 h=>aI (awT cl v2 v3 h) λvs h=>atr cl (ai vs 0) (ai vs 1) (ai vs 2) h Q
theorem C75{cl}(hcl:bt prog cl){v0 v1 h Q}(hg:g75 cl v0 v1 h Q):aJ prog 75 [v0,v1] h Q:=bI hcl [(1,.jn [2,3,27]),(4,.jn [2,3,5])] func75 (by kernel_rfl) (by kernel_rfl) hg
def ap7(cl:CL)(v1 v11 v19:AV)(h:AH)(Q:QT):=wg (gdv true v11) (λk=>k v19 h) h λv20 h=>wsp v20 λv20=>gB v20 (ah h 0 v1) h λv21 h=>gB v20 (eK h v21) h λv22 h=>wg (gdv false v20) (λk=>ax cl (F 132) [v22] h k) h λv23 h=>gA v11 (aG h v20 (.bool true) v23) h λv24 h=>wk (aG h v11 v24 (.bool false)) λv25 h=>Q v25 h
def ap8(cl:CL)(v1 v10:AV)(h:AH)(Q:QT):=wsp v10 λv11=>gA v11 (ah h 0 v1) h λv12 h=>gA v11 (eK h v12) h λv13 h=>gA v11 (ae h .geq v13 (I 1)) h λv14 h=>wg (gdv true v11) (λk=>k v14 h) h λv15 h=>wsp v15 λv15=>gA v15 (ah h 0 v1) h λv16 h=>gA v15 (eK h v16) h λv17 h=>gA v15 (ae h .leq v17 (I 23)) h λv18 h=>gA v11 (aG h v15 v18 (.bool false)) h λv19 h=>ap7 cl v1 v11 v19 h Q
def avI(cl:CL)(v0:AV)(h:AH)(Q:QT):=wk (fh h v0) λv1 h=>wk (ah h 1 v1) λv3 h=>wk (eK h v3) λv4 h=>wk (ae h .geq v4 (I 0)) λv5 h=>wsp v5 λv6=>gA v6 (ah h 1 v1) h λv7 h=>gA v6 (eK h v7) h λv8 h=>gA v6 (ae h .leq v8 (I 15)) h λv9 h=>wk (aG h v6 v9 (.bool false)) λv10 h=>ap8 cl v1 v10 h Q
theorem aA2{cl}(hcl:bt prog cl){v0 h Q}(hg:avI cl v0 h Q):aJ prog 100 [v0] h Q:=bI hcl [] func100 (by kernel_rfl) (by kernel_rfl) hg
def aul(cl:CL)(v1 v3 v5 v6 v7 v8:AV)(h:AH)(k:NT):=wk (ae h .add v5 (.str [43])) λv20 h=>ax cl (F 31) [v3,v20] h λv21 h=>k [v1,v3,v6,v7,v8] h
def asy(cl:CL)(v1 v3 v6 v7 v8:AV)(h:AH)(k:NT):=wk (aF h 1 v6 v8) λv11 h=>wk (eK h v11) λv12 h=>wdr h 6 λr h=>wP h (ah h 1 v1) λv13 c0 h=>wR h (eK h v13) v13 λv14 c1 h=>wP h (aB h v8) λv15 c2 h=>wP h (ae h .shl (I 1) v15) λv16 c3 h=>wP h (ae h .and v14 v16) λv17 c4 h=>wP h (ae h .neq v17 (I 0)) λv18 c5 h=>wif v18 (aul cl v1 v3 v12 v6 v7 v8 h k) (k [v1,v3,v6,v7,v8] h)
def avg(cl:CL)(v1 v3 v6 v7 v8:AV)(h:AH)(k:KT):=wk (ae h .add v8 (I 1)) λv22 h=>k .nrm [v1,v3,v6,v7,v22] [v1,v3] h
def ar3(cl:CL)(v1 v3 v6 v7 v8:AV)(h:AH)(k:KT):=wk (ae h .lss v8 v7) λv9 h=>wif v9 (aI (asy cl v1 v3 v6 v7 v8 h) λvs h=>avg cl (ai vs 0) (ai vs 1) (ai vs 2) (ai vs 3) (ai vs 4) h k) (k (.exit 0) [v1,v3,v6,v7,v8] [v1,v3] h)
def auE(cl:CL)(c0 c2:Rec)(v3 v35:AV)(h:AH)(k:NT):=wR h (eK h v35) v35 λv36 c5 h=>wdc cl (F 31) [v3,v36] h λv37 c6 h=>aU c0 c2=true/\k [v3] h
def auu(cl:CL)(v3 v24:AV)(h:AH)(k:NT):=wk (cB h .i32 v24) λv25 h=>ax cl (F 135) [v3,v25] h λv26 h=>k [v3] h
def aq5(cl:CL)(v1 v3:AV)(h:AH)(k:NT):=wk (ah h 0 v1) λv28 h=>wk (eK h v28) λv29 h=>wk (ae h .leq v29 (I 23)) λv30 h=>wif v30 (wdr h 7 λr h=>wdc cl (F 134) [] h λv31 c0 h=>wP h (ah h 0 v1) λv32 c1 h=>wR h (eK h v32) v32 λv33 c2 h=>wP h (ae h .sub v33 (I 1)) λv34 c3 h=>wP h (aF h 1 v31 v34) λv35 c4 h=>auE cl c0 c2 v3 v35 h k) (wk (ah h 0 v1) λv39 h=>wk (eK h v39) λv40 h=>wk (ae h .eql v40 (I 32)) λv41 h=>wif v41 (ax cl (F 31) [v3,.str [115,112,97,99,101]] h λv42 h=>k [v3] h) (wk (ah h 0 v1) λv23 h=>wk (eK h v23) λv24 h=>auu cl v3 v24 h k))
def auS(cl:CL)(v3:AV)(h:AH)(Q:QT):=ax cl (F 32) [v3] h λv43 h=>Q v43 h
def asq(cl:CL)(v1 v3:AV)(h:AH)(Q:QT):=aI (aq5 cl v1 v3 h) λvs h=>auS cl (ai vs 0) h Q
def auw(cl:CL)(x:AX)(v1 v3:AV)(h:AH)(Q:QT):=xs x (asq cl v1 v3 h Q) (λj=>cond (Nat.beq j 0) (asq cl v1 v3 h Q) (False)) (Q (.undef) h)
def aAn(cl:CL)(v0:AV)(h:AH)(Q:QT):=wk (fh h v0) λv1 h=>wk (kX h (.NU 85 [.dS,.aa]) []) λv3 h=>ax cl (F 133) [] h λv6 h=>wk (bh h v6) λv7 h=>b9 (λvs h k=>ar3 cl (ai vs 0) (ai vs 1) (ai vs 2) (ai vs 3) (ai vs 4) h k) [v1,v3,v6,v7,I 0] h λx vs h=>auw cl x (ai vs 0) (ai vs 1) h Q
theorem aAP{cl}(hcl:bt prog cl){v0 h Q}(hg:aAn cl v0 h Q):aJ prog 101 [v0] h Q:=bI hcl [(4,.l [1,3,6,7,8] [1,3]),(7,.jn [1,3,6,7,8]),(13,.jn [3])] func101 (by kernel_rfl) (by kernel_rfl) hg
def aq0(cl:CL)(v13 v16:AV)(h:AH)(Q:QT):=wk (aG h v13 v16 (.bool false)) λv17 h=>Q v17 h
def ar4(cl:CL)(v2 v3 v6:AV)(h:AH)(Q:QT):=wk (ae h .eql v6 (I 0)) λv7 h=>wsp v7 λv8=>gA v8 (bj h 4 v3) h λv9 h=>wg (gdv true v8) (λk=>ax cl (F 97) [v9] h k) h λv10 h=>gA v8 (ae h .eql v10 (I 0)) h λv11 h=>wk (aG h v8 v11 (.bool false)) λv12 h=>wsp v12 λv13=>gA v13 (bj h 4 v2) h λv14 h=>gA v13 (bj h 4 v3) h λv15 h=>wg (gdv true v13) (λk=>ax cl (F 140) [v14,v15] h k) h λv16 h=>aq0 cl v13 v16 h Q
def az0(cl:CL)(v0 v1:AV)(h:AH)(Q:QT):=wk (fh h v0) λv2 h=>wk (fh h v1) λv3 h=>wk (bj h 4 v2) λv5 h=>ax cl (F 97) [v5] h λv6 h=>ar4 cl v2 v3 v6 h Q
theorem aA3{cl}(hcl:bt prog cl){v0 v1 h Q}(hg:az0 cl v0 v1 h Q):aJ prog 106 [v0,v1] h Q:=bI hcl [] func106 (by kernel_rfl) (by kernel_rfl) hg
def asa(cl:CL)(v0 v1 v12 v13 v19 v22:AV)(h:AH)(k:KT):=wR h (eK h v22) v22 λv23 c7 h=>wP h (ae h .neq v19 v23) λv24 c8 h=>wif v24 (k .ret [v0,v1,v12,v13] [.bool false] h) (wk (ae h .add v13 (I 1)) λv25 h=>k .nrm [v0,v1,v12,v25] [.undef] h)
def aqZ(cl:CL)(v0 v1 v12 v13:AV)(h:AH)(k:KT):=wk (ae h .lss v13 v12) λv14 h=>wif v14 (wdr h 9 λr h=>wP h (aB h v0) λv16 c0 h=>wP h (aB h v13) λv17 c1 h=>wP h (aF h 1 v16 v17) λv18 c2 h=>wR h (eK h v18) v18 λv19 c3 h=>wP h (aB h v1) λv20 c4 h=>wP h (aB h v13) λv21 c5 h=>wP h (aF h 1 v20 v21) λv22 c6 h=>asa cl v0 v1 v12 v13 v19 v22 h k) (k (.exit 0) [v0,v1,v12,v13] [.undef] h)
def asb(cl:CL)(h:AH)(Q:QT):=Q ((.bool true)) h
def asz(cl:CL)(x:AX)(v4:AV)(h:AH)(Q:QT):=xs x (asb cl h Q) (λj=>cond (Nat.beq j 0) (asb cl h Q) (False)) (Q v4 h)
def ay4(cl:CL)(v0 v1:AV)(h:AH)(Q:QT):=wk (bh h v0) λv7 h=>wk (bh h v1) λv9 h=>wk (ae h .neq v7 v9) λv10 h=>wif v10 (Q ((.bool false)) h) (wk (bh h v0) λv12 h=>b9 (λvs h k=>aqZ cl (ai vs 0) (ai vs 1) (ai vs 2) (ai vs 3) h k) [v0,v1,v12,I 0] h λx vs h=>asz cl x (ai vs 0) h Q)
theorem aAV{cl}(hcl:bt prog cl){v0 v1 h Q}(hg:ay4 cl v0 v1 h Q):aJ prog 107 [v0,v1] h Q:=bI hcl [(6,.l [0,1,12,13] [4])] func107 (by kernel_rfl) (by kernel_rfl) hg
def aq2(cl:CL)(v2 v3 v16 v17:AV)(h:AH)(k:NT):=gB v16 (eK h v17) h λv18 h=>gB v16 (bh h v18) h λv19 h=>gB v16 (ah h 1 v3) h λv20 h=>gB v16 (eK h v20) h λv21 h=>gB v16 (bh h v21) h λv22 h=>gB v16 (ae h .neq v19 v22) h λv23 h=>wk (aG h v16 (.bool true) v23) λv24 h=>k [v2,v3,v24] h
def aq3(cl:CL)(v2 v3:AV)(h:AH)(k:NT):=wk (ah h 0 v2) λv9 h=>wk (eK h v9) λv10 h=>wk (bh h v10) λv11 h=>wk (ah h 0 v3) λv12 h=>wk (eK h v12) λv13 h=>wk (bh h v13) λv14 h=>wk (ae h .neq v11 v14) λv15 h=>wsp v15 λv16=>gB v16 (ah h 1 v2) h λv17 h=>aq2 cl v2 v3 v16 v17 h k
def auZ(cl:CL)(v2 v3 v26 v27 v28:AV)(h:AH)(k:KT):=k .ret [v2,v3,v26,v27,v28] [v2,v3,.bool false] h
def au2(cl:CL)(v2 v3 v26 v27 v28:AV)(h:AH)(k:KT):=wk (ae h .add v28 (I 1)) λv40 h=>k .nrm [v2,v3,v26,v27,v40] [v2,v3,.undef] h
def aqY(cl:CL)(v2 v3 v26 v27 v28:AV)(h:AH)(k:KT):=wk (ae h .lss v28 v27) λv29 h=>wif v29 (wk (aF h 1 v26 v28) λv31 h=>wk (eK h v31) λv32 h=>wk (ah h 0 v3) λv33 h=>wk (eK h v33) λv34 h=>wk (aF h 1 v34 v28) λv36 h=>wk (eK h v36) λv37 h=>wk (ae h .neq v37 v32) λv39 h=>wif v39 (auZ cl v2 v3 v26 v27 v28 h k) (au2 cl v2 v3 v26 v27 v28 h k)) (k (.exit 0) [v2,v3,v26,v27,v28] [v2,v3,.undef] h)
def asn(cl:CL)(v3 v8 v42 v43 v44 v50 v51:AV)(h:AH)(k:KT):=wP h (aF h 2 v50 v51) λv52 c3 h=>wR h (bj h 2 v52) v52 λv53 c4 h=>wR h (bj h 2 v8) v8 λv54 c5 h=>wP h (pb h true [.int .i64,.int .i64] v53 v54) λv55 c6 h=>wif v55 (k .ret [v3,v42,v43,v44] [.bool false] h) (wk (ae h .add v44 (I 1)) λv56 h=>k .nrm [v3,v42,v43,v56] [.undef] h)
def ar1(cl:CL)(v3 v42 v43 v44:AV)(h:AH)(k:KT):=wk (ae h .lss v44 v43) λv45 h=>wif v45 (wk (aF h 2 v42 v44) λv47 h=>wk (bj h 2 v47) λv48 h=>wk (cU h [I 0,I 0]) λv8 h=>wk (kSt h 2 v8 v48) λ_ h=>wdr h 7 λr h=>wP h (ah h 1 v3) λv49 c0 h=>wR h (eK h v49) v49 λv50 c1 h=>wP h (aB h v44) λv51 c2 h=>asn cl v3 v8 v42 v43 v44 v50 v51 h k) (k (.exit 2) [v3,v42,v43,v44] [.undef] h)
def ar_(cl:CL)(h:AH)(Q:QT):=Q ((.bool true)) h
def ar9(cl:CL)(x:AX)(v4:AV)(h:AH)(Q:QT):=xs x (ar_ cl h Q) (λj=>cond (Nat.beq j 2) (ar_ cl h Q) (False)) (Q v4 h)
def ast(cl:CL)(v2 v3:AV)(h:AH)(Q:QT):=wk (ah h 1 v2) λv41 h=>wk (eK h v41) λv42 h=>wk (bh h v42) λv43 h=>b9 (λvs h k=>ar1 cl (ai vs 0) (ai vs 1) (ai vs 2) (ai vs 3) h k) [v3,v42,v43,I 0] h λx vs h=>ar9 cl x (ai vs 0) h Q
def arY(cl:CL)(x:AX)(v2 v3 v4:AV)(h:AH)(Q:QT):=xs x (ast cl v2 v3 h Q) (λj=>cond (Nat.beq j 0) (ast cl v2 v3 h Q) (False)) (Q v4 h)
def asp(cl:CL)(v2 v3 v24:AV)(h:AH)(Q:QT):=wif v24 (Q ((.bool false)) h) (wk (ah h 0 v2) λv25 h=>wk (eK h v25) λv26 h=>wk (bh h v26) λv27 h=>b9 (λvs h k=>aqY cl (ai vs 0) (ai vs 1) (ai vs 2) (ai vs 3) (ai vs 4) h k) [v2,v3,v26,v27,I 0] h λx vs h=>arY cl x (ai vs 0) (ai vs 1) (ai vs 2) h Q)
def az8(cl:CL)(v0 v1:AV)(h:AH)(Q:QT):=wk (fh h v0) λv2 h=>wk (fh h v1) λv3 h=>aI (aq3 cl v2 v3 h) λvs h=>asp cl (ai vs 0) (ai vs 1) (ai vs 2) h Q
theorem aA1{cl}(hcl:bt prog cl){v0 v1 h Q}(hg:az8 cl v0 v1 h Q):aJ prog 108 [v0,v1] h Q:=bI hcl [(1,.jn [2,3,24]),(6,.l [2,3,26,27,28] [2,3,4]),(17,.l [3,42,43,44] [4])] func108 (by kernel_rfl) (by kernel_rfl) hg
def ash(cl:CL)(v0 v1 v12 v13 v19 v22:AV)(h:AH)(k:KT):=wR h (bj h 2 v22) v22 λv23 c7 h=>wP h (pb h true [.int .i64,.bool] v19 v23) λv24 c8 h=>wif v24 (k .ret [v0,v1,v12,v13] [.bool false] h) (wk (ae h .add v13 (I 1)) λv25 h=>k .nrm [v0,v1,v12,v25] [.undef] h)
def aq4(cl:CL)(v0 v1 v12 v13:AV)(h:AH)(k:KT):=wk (ae h .lss v13 v12) λv14 h=>wif v14 (wdr h 9 λr h=>wP h (aB h v0) λv16 c0 h=>wP h (aB h v13) λv17 c1 h=>wP h (aF h 2 v16 v17) λv18 c2 h=>wR h (bj h 2 v18) v18 λv19 c3 h=>wP h (aB h v1) λv20 c4 h=>wP h (aB h v13) λv21 c5 h=>wP h (aF h 2 v20 v21) λv22 c6 h=>ash cl v0 v1 v12 v13 v19 v22 h k) (k (.exit 0) [v0,v1,v12,v13] [.undef] h)
def ar6(cl:CL)(h:AH)(Q:QT):=Q ((.bool true)) h
def ar5(cl:CL)(x:AX)(v4:AV)(h:AH)(Q:QT):=xs x (ar6 cl h Q) (λj=>cond (Nat.beq j 0) (ar6 cl h Q) (False)) (Q v4 h)
def ayW(cl:CL)(v0 v1:AV)(h:AH)(Q:QT):=wk (bh h v0) λv7 h=>wk (bh h v1) λv9 h=>wk (ae h .neq v7 v9) λv10 h=>wif v10 (Q ((.bool false)) h) (wk (bh h v0) λv12 h=>b9 (λvs h k=>aq4 cl (ai vs 0) (ai vs 1) (ai vs 2) (ai vs 3) h k) [v0,v1,v12,I 0] h λx vs h=>ar5 cl x (ai vs 0) h Q)
theorem aA0{cl}(hcl:bt prog cl){v0 v1 h Q}(hg:ayW cl v0 v1 h Q):aJ prog 109 [v0,v1] h Q:=bI hcl [(6,.l [0,1,12,13] [4])] func109 (by kernel_rfl) (by kernel_rfl) hg
def aqo(cl:CL)(v24 v29:AV)(h:AH)(Q:QT):=wk (aG h v24 v29 (.bool false)) λv30 h=>Q v30 h
def aqm(cl:CL)(v2 v3 v17 v19 v20:AV)(h:AH)(Q:QT):=gA v17 (eK h v20) h λv21 h=>gA v17 (ae h .eql v19 v21) h λv22 h=>wk (aG h v17 v22 (.bool false)) λv23 h=>wsp v23 λv24=>gA v24 (ah h 3 v2) h λv25 h=>gA v24 (eK h v25) h λv26 h=>gA v24 (ah h 3 v3) h λv27 h=>gA v24 (eK h v27) h λv28 h=>wg (gdv true v24) (λk=>ax cl (F 73) [v26,v28,(.func (.func 140) [] [])] h k) h λv29 h=>aqo cl v24 v29 h Q
def aqk(cl:CL)(v2 v3 v10 v11:AV)(h:AH)(Q:QT):=gA v10 (eK h v11) h λv12 h=>gA v10 (ah h 1 v3) h λv13 h=>gA v10 (eK h v13) h λv14 h=>gA v10 (ae h .eql v12 v14) h λv15 h=>wk (aG h v10 v15 (.bool false)) λv16 h=>wsp v16 λv17=>gA v17 (ah h 2 v2) h λv18 h=>gA v17 (eK h v18) h λv19 h=>gA v17 (ah h 2 v3) h λv20 h=>aqm cl v2 v3 v17 v19 v20 h Q
def az1(cl:CL)(v0 v1:AV)(h:AH)(Q:QT):=wk (fh h v0) λv2 h=>wk (fh h v1) λv3 h=>wk (ah h 0 v2) λv5 h=>wk (eK h v5) λv6 h=>wk (ah h 0 v3) λv7 h=>wk (eK h v7) λv8 h=>wk (ae h .eql v6 v8) λv9 h=>wsp v9 λv10=>gA v10 (ah h 1 v2) h λv11 h=>aqk cl v2 v3 v10 v11 h Q
theorem aAU{cl}(hcl:bt prog cl){v0 v1 h Q}(hg:az1 cl v0 v1 h Q):aJ prog 140 [v0,v1] h Q:=bI hcl [] func140 (by kernel_rfl) (by kernel_rfl) hg
def ayw(cl:CL)(v0 v5 v7 v28 v30:AV)(h:AH)(k:KT):=wk (aQ h 37 1 [I 0,I 0,I 0,I 0,I 0,I 0,I 0,I 0,I 0,I 0,I 0,I 0,.bool false,.bool false,I 0,.aa,I 0,I 0,I 0,I 0,I 0,.str [],I 0,.aa,.aa,.aa,I 0,I 0,.bool false,I 0,I 0,I 0,I 0,I 0,I 0,.aa,I 0] [(0,37,v30)]) λv31 h=>wk (dK h 37 376 v28 v31) λv32 h=>wk (ae h .sub v7 (I 1)) λv27 h=>k .nrm [v0,v5,v32,v27] [v0,v5,v32] h
def aw0(cl:CL)(v0 v5 v6 v7:AV)(h:AH)(k:KT):=wk (ae h .gtr v7 (I 0)) λv25 h=>wif v25 (ax cl (F 9) [v5] h λv30 h=>ayw cl v0 v5 v7 v6 v30 h k) (k (.exit 0) [v0,v5,v6,v7] [v0,v5,v6] h)
def ayC(cl:CL)(v0 v5 v8 v54 v55 v56:AV)(h:AH)(k:NT):=wg (gdv false v54) (λk=>ax cl (F 14) [v55,v56] h k) h λv57 h=>gB v54 (kUn h .not v57) h λv58 h=>wk (aG h v54 (.bool true) v58) λv59 h=>k [v0,v5,v8,v59] h
def ayE(cl:CL)(v0 v5 v6 v8 v10 v11 v12:AV)(h:AH)(k:NT):=wk (ae h .neq v12 (I 0)) λv47 h=>wsp v47 λv48=>wg (gdv false v48) (λk=>k v11 h) h λv49 h=>wg (gdv false v48) (λk=>k v6 h) h λv50 h=>gB v48 (bh h v50) h λv51 h=>gB v48 (ae h .neq v49 v51) h λv52 h=>wk (aG h v48 (.bool true) v52) λv53 h=>wsp v53 λv54=>wg (gdv false v54) (λk=>k v10 h) h λv55 h=>wg (gdv false v54) (λk=>k v6 h) h λv56 h=>ayC cl v0 v5 v8 v54 v55 v56 h k
def aym(cl:CL)(v13 v14 v15 v16:AV)(h:AH)(k:NT):=wk (ae h .neq v16 (I 0)) λv91 h=>wsp v91 λv92=>wg (gdv false v92) (λk=>k v15 h) h λv93 h=>wg (gdv false v92) (λk=>k v13 h) h λv94 h=>wg (gdv false v92) (λk=>k v14 h) h λv95 h=>gB v92 (aF h 1 v94 v95) h λv96 h=>gB v92 (eK h v96) h λv97 h=>gB v92 (ae h .neq v93 v97) h λv98 h=>wk (aG h v92 (.bool true) v98) λv99 h=>k [v13,v14,v99] h
def ayh(cl:CL)(v13 v14 v99:AV)(h:AH)(k:JT):=wif v99 (k .ret [.bool false,v13,v14] h) (k .nrm [.undef,v13,v14] h)
def ayA(cl:CL)(v13 v14 v87:AV)(h:AH)(k:JT):=wk (cm h v87 0) λv88 h=>wk (cm h v87 1) λv89 h=>aI (aym cl v13 v14 v88 v89 h) λvs h=>ayh cl (ai vs 0) (ai vs 1) (ai vs 2) h k
def awS(cl:CL)(v13 v14 v79:AV)(h:AH)(k:JT):=wk (cm h v79 0) λv80 h=>wk (cm h v79 1) λv81 h=>wk (cm h v79 2) λv82 h=>wk (ae h .neq v82 (I 0)) λv84 h=>wif v84 (k .nrm [.undef,v13,v14] h) (ax cl (F 17) [v80] h λv87 h=>ayA cl v13 v14 v87 h k)
def ayj(cl:CL)(v13 v14:AV)(h:AH)(k:JT):=wk (aF h 1 v13 v14) λv77 h=>wk (eK h v77) λv78 h=>ax cl (F 12) [v78] h λv79 h=>awS cl v13 v14 v79 h k
def ayg(cl:CL)(x:AX)(v4 v13 v14:AV)(h:AH)(k:KT):=xs x (wk (ae h .add v14 (I 1)) λv73 h=>k .nrm [v13,v73] [v4] h) (λj=>k (.exit j) [v13,v14] [v4] h) (k .ret [v13,v14] [v4] h)
def auy(cl:CL)(v13 v14:AV)(h:AH)(k:KT):=wk (bh h v13) λv70 h=>wk (ae h .lss v14 v70) λv71 h=>wif v71 (vJ (ayj cl v13 v14 h) λx vs h=>ayg cl x (ai vs 0) (ai vs 1) (ai vs 2) h k) (k (.exit 2) [v13,v14] [.undef] h)
def aw3(cl:CL)(h:AH)(Q:QT):=ax cl (F 15) [] h λgF h=>Q gF h
def axe(cl:CL)(x:AX)(v4:AV)(h:AH)(Q:QT):=xs x (aw3 cl h Q) (λj=>cond (Nat.beq j 2) (aw3 cl h Q) (False)) (Q v4 h)
def ayz(cl:CL)(v5 v8 v60 v63:AV)(h:AH)(Q:QT):=ax cl (F 11) [v5,v8] h λv66 h=>wk (aQ h 1 3 [.str [],.str [],.str []] [(0,1,v60),(1,1,v63),(2,1,v66)]) λv67 h=>b9 (λvs h k=>auy cl (ai vs 0) (ai vs 1) h k) [v67,I 0] h λx vs h=>axe cl x (ai vs 0) h Q
def awp(cl:CL)(v0 v5 v8 v59:AV)(h:AH)(Q:QT):=wif v59 (Q ((.bool false)) h) (ax cl (F 11) [v5,v8] h λv63 h=>ayz cl v5 v8 v0 v63 h Q)
def ayn(cl:CL)(v0 v5 v6 v8 v42:AV)(h:AH)(Q:QT):=wk (cm h v42 0) λv43 h=>wk (cm h v42 1) λv44 h=>wk (cm h v42 2) λv45 h=>aI (ayE cl v0 v5 v6 v8 v43 v44 v45 h) λvs h=>awp cl (ai vs 0) (ai vs 1) (ai vs 2) (ai vs 3) h Q
def ayp(cl:CL)(v0 v5 v6 v35:AV)(h:AH)(Q:QT):=wk (cm h v35 0) λv36 h=>wk (cm h v35 1) λv37 h=>wk (ae h .neq v37 (I 0)) λv39 h=>wif v39 (Q ((.bool false)) h) (ax cl (F 12) [v36] h λv42 h=>ayn cl v0 v5 v6 v36 v42 h Q)
def aug(cl:CL)(v0 v5 v6:AV)(h:AH)(Q:QT):=ax cl (F 17) [v6] h λv35 h=>ayp cl v0 v5 v6 v35 h Q
def aw4(cl:CL)(x:AX)(v0 v5 v6:AV)(h:AH)(Q:QT):=xs x (aug cl v0 v5 v6 h Q) (λj=>cond (Nat.beq j 0) (aug cl v0 v5 v6 h Q) (False)) (Q (.undef) h)
def g5(cl:CL)(v0 v1:AV)(h:AH)(Q:QT):=wk (cL h v0) λv18 h=>wk (ae h .gtr v18 (I 300)) λv19 h=>wif v19 (Q ((.bool true)) h) (ax cl (F 7) [v1] h λv21 h=>ax cl (F 8) [v21,I 6] h λv23 h=>b9 (λvs h k=>aw0 cl (ai vs 0) (ai vs 1) (ai vs 2) (ai vs 3) h k) [v0,v21,(.aa),v23] h λx vs h=>aw4 cl x (ai vs 0) (ai vs 1) (ai vs 2) h Q)
theorem C5{cl}(hcl:bt prog cl){v0 v1 h Q}(hg:g5 cl v0 v1 h Q):aJ prog 5 [v0,v1] h Q:=bI hcl [(8,.l [0,5,6,7] [0,5,6]),(19,.jn [0,5,8,59]),(25,.l [13,14] [4]),(28,.j [4,13,14]),(33,.jn [13,14,99])] func5 (by kernel_rfl) (by kernel_rfl) hg
def avb(cl:CL)(v0 v6:AV)(h:AH)(k:NT):=wif v6 (wk (kX h (.arH 9) [.str [115,116,114,105,110,103,115,46,78,101,119,82,101,112,108,97,99,101,114,58,32,111,100,100,32,97,114,103,117,109,101,110,116,32,99,111,117,110,116]]) λv7 h=>False) (k [v0] h)
def avj(cl:CL)(v0:AV)(h:AH)(Q:QT):=wk (dK h 1 16 (.aa) v0) λv9 h=>wk (aO h [.int .u32 0,.int .i32 0,.int .u32 0,.gf,.aa] [(4,1,v9)]) λv10 h=>wk (fh h v10) λv11 h=>Q v11 h
def azV(cl:CL)(v0:AV)(h:AH)(Q:QT):=wk (bh h v0) λv4 h=>wk (ae h .rem v4 (I 2)) λv5 h=>wk (ae h .eql v5 (I 1)) λv6 h=>aI (avb cl v0 v6 h) λvs h=>avj cl (ai vs 0) h Q
theorem aA5{cl}(hcl:bt prog cl){v0 h Q}(hg:azV cl v0 h Q):aJ prog 104 [v0] h Q:=bI hcl [(2,.jn [0])] func104 (by kernel_rfl) (by kernel_rfl) hg
def au9(cl:CL)(v3:AV)(h:AH)(k:NT):=wk (bh h v3) λv20 h=>wk (ae h .eql v20 (I 2)) λv21 h=>wsp v21 λv22=>wg (gdv true v22) (λk=>k v3 h) h λv23 h=>gA v22 (aF h 1 v23 (I 0)) h λv24 h=>gA v22 (eK h v24) h λv25 h=>gA v22 (cL h v25) h λv26 h=>gA v22 (ae h .gtr v26 (I 1)) h λv27 h=>wk (aG h v22 v27 (.bool false)) λv28 h=>k [v3,v28] h
def ax2(cl:CL)(v36:AV)(h:AH)(Q:QT):=wP h (aB h v36) λv2 c8 h=>Q v2 h
def auW(cl:CL)(v3 v4 v5 v57:AV)(h:AH)(k:JT):=wk (ae h .neq v57 (I 1)) λv58 h=>wif v58 (k .nrm [.undef,v3,.bool false,v5] h) (k .nrm [.undef,v3,v4,v5] h)
def auz(cl:CL)(v3 v4 v5:AV)(h:AH)(k:JT):=wk (aF h 1 v3 v5) λv45 h=>wk (eK h v45) λv46 h=>wk (cL h v46) λv47 h=>wk (ae h .neq v47 (I 1)) λv48 h=>wif v48 (ax cl (F 182) [v3] h λv50 h=>wk (kX h (.arH 224) [v50]) λv51 h=>k .ret [v51,v3,v4,v5] h) (wk (ae h .add v5 (I 1)) λv54 h=>wk (aF h 1 v3 v54) λv55 h=>wk (eK h v55) λv56 h=>wk (cL h v56) λv57 h=>auW cl v3 v4 v5 v57 h k)
def au6(cl:CL)(x:AX)(v2 v3 v4 v5:AV)(h:AH)(k:KT):=xs x (wk (ae h .add v5 (I 2)) λv42 h=>k .nrm [v3,v4,v42] [v2,v3,v4] h) (λj=>k (.exit j) [v3,v4,v5] [v2,v3,v4] h) (k .ret [v3,v4,v5] [v2,v3,v4] h)
def aso(cl:CL)(v3 v4 v5:AV)(h:AH)(k:KT):=wk (bh h v3) λv39 h=>wk (ae h .lss v5 v39) λv40 h=>wif v40 (vJ (auz cl v3 v4 v5 h) λx vs h=>au6 cl x (ai vs 0) (ai vs 1) (ai vs 2) (ai vs 3) h k) (k (.exit 0) [v3,v4,v5] [.undef,v3,v4] h)
def ax8(cl:CL)(v3 v6 v61:AV)(h:AH)(k:KT):=wk (ae h .lss v61 (I 256)) λv62 h=>wif v62 (wk (cB h .u8 v61) λv66 h=>wk (fv h 256 1 v6 v61) λv67 h=>wk (kSt h 1 v67 v66) λ_ h=>wk (ae h .add v61 (I 1)) λv68 h=>k .nrm [v3,v6,v68] [v3,v6] h) (k (.exit 2) [v3,v6,v61] [v3,v6] h)
def axD(cl:CL)(v3 v6 v8 v9 v86:AV)(h:AH)(k:KT):=wk (fv h 256 1 v6 v9) λv89 h=>wk (kSt h 1 v89 v86) λ_ h=>wk (ae h .sub v8 (I 2)) λv75 h=>k .nrm [v3,v6,v75] [v6] h
def ax6(cl:CL)(v3 v6 v8:AV)(h:AH)(k:KT):=wk (ae h .geq v8 (I 0)) λv73 h=>wif v73 (wk (aF h 1 v3 v8) λv78 h=>wk (eK h v78) λv79 h=>wk (dH h v79 (I 0)) λv80 h=>wk (ae h .add v8 (I 1)) λv83 h=>wk (aF h 1 v3 v83) λv84 h=>wk (eK h v84) λv85 h=>wk (dH h v85 (I 0)) λv86 h=>axD cl v3 v6 v8 v80 v86 h k) (k (.exit 4) [v3,v6,v8] [v6] h)
def ave(cl:CL)(v6:AV)(h:AH)(Q:QT):=wk (kX h (.arH 227) [v6]) λv90 h=>Q v90 h
def ayc(cl:CL)(x:AX)(v6:AV)(h:AH)(Q:QT):=xs x (ave cl v6 h Q) (λj=>cond (Nat.beq j 4) (ave cl v6 h Q) (False)) (Q (.undef) h)
def auI(cl:CL)(v3 v6:AV)(h:AH)(Q:QT):=wk (bh h v3) λv70 h=>wk (ae h .sub v70 (I 2)) λv71 h=>b9 (λvs h k=>ax6 cl (ai vs 0) (ai vs 1) (ai vs 2) h k) [v3,v6,v71] h λx vs h=>ayc cl x (ai vs 0) h Q
def avV(cl:CL)(x:AX)(v3 v6:AV)(h:AH)(Q:QT):=xs x (auI cl v3 v6 h Q) (λj=>cond (Nat.beq j 2) (auI cl v3 v6 h Q) (False)) (Q (.undef) h)
def asW(cl:CL)(v3 v11 v12 v13 v14 v117:AV)(h:AH)(k:NT):=wif v117 (wk (ah h 256 v11) λkG h=>wk (eK h kG) λkJ h=>wk (aQ h 1 1 [.int .u8 0] [(0,1,v13)]) λkK h=>wk (kX h .b2s [kK]) λow h=>wk (aQ h 1 1 [.str []] [(0,1,ow)]) λnf h=>wk (dK h 1 16 kJ nf) λv124 h=>wk (ah h 256 v11) λni h=>wk (kSt h 1 ni v124) λ_ h=>k [v3,v11,v12,v13,v14] h) (k [v3,v11,v12,v13,v14] h)
def asK(cl:CL)(v3 v11 v12 v13 v14:AV)(h:AH)(k:KT):=wk (kX h .s2b [v14]) λnh h=>wk (ah h 0 v11) λou h=>wk (fv h 256 1 ou v13) λv130 h=>wk (kSt h 1 v130 nh) λ_ h=>wk (ae h .sub v12 (I 2)) λiW h=>k .nrm [v3,v11,iW] [v11] h
def avc(cl:CL)(v3 v11 v12 v13 v14 lx iV:AV)(h:AH)(k:KT):=wk (fv h 256 1 iV lx) λpX h=>wk (eK h pX) λjC h=>wk (NF h .sl false jC (.aa)) λv117 h=>aI (asW cl v3 v11 v12 v13 v14 v117 h) λvs h=>asK cl (ai vs 0) (ai vs 1) (ai vs 2) (ai vs 3) (ai vs 4) h k
def aqn(cl:CL)(v3 v11 v12:AV)(h:AH)(k:KT):=wk (ae h .geq v12 (I 0)) λgF h=>wif gF (wk (aF h 1 v3 v12) λv105 h=>wk (eK h v105) λmg h=>wk (dH h mg (I 0)) λv107 h=>wk (ae h .add v12 (I 1)) λkq h=>wk (aF h 1 v3 kq) λgp h=>wk (eK h gp) λjD h=>wk (ah h 0 v11) λiV h=>avc cl v3 v11 v12 v107 jD v107 iV h k) (k (.exit 6) [v3,v11,v12] [v11] h)
def arh(cl:CL)(v11:AV)(h:AH)(Q:QT):=wk (kX h (.arH 231) [v11]) λv131 h=>Q v131 h
def asJ(cl:CL)(x:AX)(v11:AV)(h:AH)(Q:QT):=xs x (arh cl v11 h Q) (λj=>cond (Nat.beq j 6) (arh cl v11 h Q) (False)) (Q (.undef) h)
def ar8(cl:CL)(v3 v11 v98:AV)(h:AH)(Q:QT):=b9 (λvs h k=>aqn cl (ai vs 0) (ai vs 1) (ai vs 2) h k) [v3,v11,v98] h λx vs h=>asJ cl x (ai vs 0) h Q
def aql(cl:CL)(v3 v4:AV)(h:AH)(Q:QT):=wif v4 (wk (aO h [.int .u8 0,.int .u8 0,.int .u8 0,.int .u8 0,.int .u8 0,.int .u8 0,.int .u8 0,.int .u8 0,.int .u8 0,.int .u8 0,.int .u8 0,.int .u8 0,.int .u8 0,.int .u8 0,.int .u8 0,.int .u8 0,.int .u8 0,.int .u8 0,.int .u8 0,.int .u8 0,.int .u8 0,.int .u8 0,.int .u8 0,.int .u8 0,.int .u8 0,.int .u8 0,.int .u8 0,.int .u8 0,.int .u8 0,.int .u8 0,.int .u8 0,.int .u8 0,.int .u8 0,.int .u8 0,.int .u8 0,.int .u8 0,.int .u8 0,.int .u8 0,.int .u8 0,.int .u8 0,.int .u8 0,.int .u8 0,.int .u8 0,.int .u8 0,.int .u8 0,.int .u8 0,.int .u8 0,.int .u8 0,.int .u8 0,.int .u8 0,.int .u8 0,.int .u8 0,.int .u8 0,.int .u8 0,.int .u8 0,.int .u8 0,.int .u8 0,.int .u8 0,.int .u8 0,.int .u8 0,.int .u8 0,.int .u8 0,.int .u8 0,.int .u8 0,.int .u8 0,.int .u8 0,.int .u8 0,.int .u8 0,.int .u8 0,.int .u8 0,.int .u8 0,.int .u8 0,.int .u8 0,.int .u8 0,.int .u8 0,.int .u8 0,.int .u8 0,.int .u8 0,.int .u8 0,.int .u8 0,.int .u8 0,.int .u8 0,.int .u8 0,.int .u8 0,.int .u8 0,.int .u8 0,.int .u8 0,.int .u8 0,.int .u8 0,.int .u8 0,.int .u8 0,.int .u8 0,.int .u8 0,.int .u8 0,.int .u8 0,.int .u8 0,.int .u8 0,.int .u8 0,.int .u8 0,.int .u8 0,.int .u8 0,.int .u8 0,.int .u8 0,.int .u8 0,.int .u8 0,.int .u8 0,.int .u8 0,.int .u8 0,.int .u8 0,.int .u8 0,.int .u8 0,.int .u8 0,.int .u8 0,.int .u8 0,.int .u8 0,.int .u8 0,.int .u8 0,.int .u8 0,.int .u8 0,.int .u8 0,.int .u8 0,.int .u8 0,.int .u8 0,.int .u8 0,.int .u8 0,.int .u8 0,.int .u8 0,.int .u8 0,.int .u8 0,.int .u8 0,.int .u8 0,.int .u8 0,.int .u8 0,.int .u8 0,.int .u8 0,.int .u8 0,.int .u8 0,.int .u8 0,.int .u8 0,.int .u8 0,.int .u8 0,.int .u8 0,.int .u8 0,.int .u8 0,.int .u8 0,.int .u8 0,.int .u8 0,.int .u8 0,.int .u8 0,.int .u8 0,.int .u8 0,.int .u8 0,.int .u8 0,.int .u8 0,.int .u8 0,.int .u8 0,.int .u8 0,.int .u8 0,.int .u8 0,.int .u8 0,.int .u8 0,.int .u8 0,.int .u8 0,.int .u8 0,.int .u8 0,.int .u8 0,.int .u8 0,.int .u8 0,.int .u8 0,.int .u8 0,.int .u8 0,.int .u8 0,.int .u8 0,.int .u8 0,.int .u8 0,.int .u8 0,.int .u8 0,.int .u8 0,.int .u8 0,.int .u8 0,.int .u8 0,.int .u8 0,.int .u8 0,.int .u8 0,.int .u8 0,.int .u8 0,.int .u8 0,.int .u8 0,.int .u8 0,.int .u8 0,.int .u8 0,.int .u8 0,.int .u8 0,.int .u8 0,.int .u8 0,.int .u8 0,.int .u8 0,.int .u8 0,.int .u8 0,.int .u8 0,.int .u8 0,.int .u8 0,.int .u8 0,.int .u8 0,.int .u8 0,.int .u8 0,.int .u8 0,.int .u8 0,.int .u8 0,.int .u8 0,.int .u8 0,.int .u8 0,.int .u8 0,.int .u8 0,.int .u8 0,.int .u8 0,.int .u8 0,.int .u8 0,.int .u8 0,.int .u8 0,.int .u8 0,.int .u8 0,.int .u8 0,.int .u8 0,.int .u8 0,.int .u8 0,.int .u8 0,.int .u8 0,.int .u8 0,.int .u8 0,.int .u8 0,.int .u8 0,.int .u8 0,.int .u8 0,.int .u8 0,.int .u8 0,.int .u8 0,.int .u8 0,.int .u8 0,.int .u8 0,.int .u8 0,.int .u8 0,.int .u8 0,.int .u8 0,.int .u8 0,.int .u8 0,.int .u8 0,.int .u8 0,.int .u8 0,.int .u8 0,.int .u8 0,.int .u8 0,.int .u8 0,.int .u8 0,.int .u8 0,.int .u8 0] []) λv60 h=>wk (cU h [.int .u8 0,.int .u8 0,.int .u8 0,.int .u8 0,.int .u8 0,.int .u8 0,.int .u8 0,.int .u8 0,.int .u8 0,.int .u8 0,.int .u8 0,.int .u8 0,.int .u8 0,.int .u8 0,.int .u8 0,.int .u8 0,.int .u8 0,.int .u8 0,.int .u8 0,.int .u8 0,.int .u8 0,.int .u8 0,.int .u8 0,.int .u8 0,.int .u8 0,.int .u8 0,.int .u8 0,.int .u8 0,.int .u8 0,.int .u8 0,.int .u8 0,.int .u8 0,.int .u8 0,.int .u8 0,.int .u8 0,.int .u8 0,.int .u8 0,.int .u8 0,.int .u8 0,.int .u8 0,.int .u8 0,.int .u8 0,.int .u8 0,.int .u8 0,.int .u8 0,.int .u8 0,.int .u8 0,.int .u8 0,.int .u8 0,.int .u8 0,.int .u8 0,.int .u8 0,.int .u8 0,.int .u8 0,.int .u8 0,.int .u8 0,.int .u8 0,.int .u8 0,.int .u8 0,.int .u8 0,.int .u8 0,.int .u8 0,.int .u8 0,.int .u8 0,.int .u8 0,.int .u8 0,.int .u8 0,.int .u8 0,.int .u8 0,.int .u8 0,.int .u8 0,.int .u8 0,.int .u8 0,.int .u8 0,.int .u8 0,.int .u8 0,.int .u8 0,.int .u8 0,.int .u8 0,.int .u8 0,.int .u8 0,.int .u8 0,.int .u8 0,.int .u8 0,.int .u8 0,.int .u8 0,.int .u8 0,.int .u8 0,.int .u8 0,.int .u8 0,.int .u8 0,.int .u8 0,.int .u8 0,.int .u8 0,.int .u8 0,.int .u8 0,.int .u8 0,.int .u8 0,.int .u8 0,.int .u8 0,.int .u8 0,.int .u8 0,.int .u8 0,.int .u8 0,.int .u8 0,.int .u8 0,.int .u8 0,.int .u8 0,.int .u8 0,.int .u8 0,.int .u8 0,.int .u8 0,.int .u8 0,.int .u8 0,.int .u8 0,.int .u8 0,.int .u8 0,.int .u8 0,.int .u8 0,.int .u8 0,.int .u8 0,.int .u8 0,.int .u8 0,.int .u8 0,.int .u8 0,.int .u8 0,.int .u8 0,.int .u8 0,.int .u8 0,.int .u8 0,.int .u8 0,.int .u8 0,.int .u8 0,.int .u8 0,.int .u8 0,.int .u8 0,.int .u8 0,.int .u8 0,.int .u8 0,.int .u8 0,.int .u8 0,.int .u8 0,.int .u8 0,.int .u8 0,.int .u8 0,.int .u8 0,.int .u8 0,.int .u8 0,.int .u8 0,.int .u8 0,.int .u8 0,.int .u8 0,.int .u8 0,.int .u8 0,.int .u8 0,.int .u8 0,.int .u8 0,.int .u8 0,.int .u8 0,.int .u8 0,.int .u8 0,.int .u8 0,.int .u8 0,.int .u8 0,.int .u8 0,.int .u8 0,.int .u8 0,.int .u8 0,.int .u8 0,.int .u8 0,.int .u8 0,.int .u8 0,.int .u8 0,.int .u8 0,.int .u8 0,.int .u8 0,.int .u8 0,.int .u8 0,.int .u8 0,.int .u8 0,.int .u8 0,.int .u8 0,.int .u8 0,.int .u8 0,.int .u8 0,.int .u8 0,.int .u8 0,.int .u8 0,.int .u8 0,.int .u8 0,.int .u8 0,.int .u8 0,.int .u8 0,.int .u8 0,.int .u8 0,.int .u8 0,.int .u8 0,.int .u8 0,.int .u8 0,.int .u8 0,.int .u8 0,.int .u8 0,.int .u8 0,.int .u8 0,.int .u8 0,.int .u8 0,.int .u8 0,.int .u8 0,.int .u8 0,.int .u8 0,.int .u8 0,.int .u8 0,.int .u8 0,.int .u8 0,.int .u8 0,.int .u8 0,.int .u8 0,.int .u8 0,.int .u8 0,.int .u8 0,.int .u8 0,.int .u8 0,.int .u8 0,.int .u8 0,.int .u8 0,.int .u8 0,.int .u8 0,.int .u8 0,.int .u8 0,.int .u8 0,.int .u8 0,.int .u8 0,.int .u8 0,.int .u8 0,.int .u8 0,.int .u8 0,.int .u8 0,.int .u8 0,.int .u8 0,.int .u8 0,.int .u8 0,.int .u8 0,.int .u8 0,.int .u8 0,.int .u8 0,.int .u8 0,.int .u8 0,.int .u8 0,.int .u8 0,.int .u8 0,.int .u8 0,.int .u8 0,.int .u8 0,.int .u8 0,.int .u8 0,.int .u8 0]) λv6 h=>wk (kSt h 256 v6 v60) λ_ h=>b9 (λvs h k=>ax8 cl (ai vs 0) (ai vs 1) (ai vs 2) h k) [v3,v6,I 0] h λx vs h=>avV cl x (ai vs 0) (ai vs 1) h Q) (wk (bh h v3) λv92 h=>wk (ae h .quo v92 (I 2)) λv93 h=>wk (nZ h 1 16 [.str []] (I 0) v93) λv94 h=>wk (aO h [.aa,.aa,.aa,.aa,.aa,.aa,.aa,.aa,.aa,.aa,.aa,.aa,.aa,.aa,.aa,.aa,.aa,.aa,.aa,.aa,.aa,.aa,.aa,.aa,.aa,.aa,.aa,.aa,.aa,.aa,.aa,.aa,.aa,.aa,.aa,.aa,.aa,.aa,.aa,.aa,.aa,.aa,.aa,.aa,.aa,.aa,.aa,.aa,.aa,.aa,.aa,.aa,.aa,.aa,.aa,.aa,.aa,.aa,.aa,.aa,.aa,.aa,.aa,.aa,.aa,.aa,.aa,.aa,.aa,.aa,.aa,.aa,.aa,.aa,.aa,.aa,.aa,.aa,.aa,.aa,.aa,.aa,.aa,.aa,.aa,.aa,.aa,.aa,.aa,.aa,.aa,.aa,.aa,.aa,.aa,.aa,.aa,.aa,.aa,.aa,.aa,.aa,.aa,.aa,.aa,.aa,.aa,.aa,.aa,.aa,.aa,.aa,.aa,.aa,.aa,.aa,.aa,.aa,.aa,.aa,.aa,.aa,.aa,.aa,.aa,.aa,.aa,.aa,.aa,.aa,.aa,.aa,.aa,.aa,.aa,.aa,.aa,.aa,.aa,.aa,.aa,.aa,.aa,.aa,.aa,.aa,.aa,.aa,.aa,.aa,.aa,.aa,.aa,.aa,.aa,.aa,.aa,.aa,.aa,.aa,.aa,.aa,.aa,.aa,.aa,.aa,.aa,.aa,.aa,.aa,.aa,.aa,.aa,.aa,.aa,.aa,.aa,.aa,.aa,.aa,.aa,.aa,.aa,.aa,.aa,.aa,.aa,.aa,.aa,.aa,.aa,.aa,.aa,.aa,.aa,.aa,.aa,.aa,.aa,.aa,.aa,.aa,.aa,.aa,.aa,.aa,.aa,.aa,.aa,.aa,.aa,.aa,.aa,.aa,.aa,.aa,.aa,.aa,.aa,.aa,.aa,.aa,.aa,.aa,.aa,.aa,.aa,.aa,.aa,.aa,.aa,.aa,.aa,.aa,.aa,.aa,.aa,.aa,.aa,.aa,.aa,.aa,.aa,.aa,.aa,.aa,.aa,.aa,.aa,.aa,.aa,.aa,.aa,.aa,.aa,.aa,.aa] [(256,1,v94)]) λv95 h=>wk (cU h [.aa,.aa,.aa,.aa,.aa,.aa,.aa,.aa,.aa,.aa,.aa,.aa,.aa,.aa,.aa,.aa,.aa,.aa,.aa,.aa,.aa,.aa,.aa,.aa,.aa,.aa,.aa,.aa,.aa,.aa,.aa,.aa,.aa,.aa,.aa,.aa,.aa,.aa,.aa,.aa,.aa,.aa,.aa,.aa,.aa,.aa,.aa,.aa,.aa,.aa,.aa,.aa,.aa,.aa,.aa,.aa,.aa,.aa,.aa,.aa,.aa,.aa,.aa,.aa,.aa,.aa,.aa,.aa,.aa,.aa,.aa,.aa,.aa,.aa,.aa,.aa,.aa,.aa,.aa,.aa,.aa,.aa,.aa,.aa,.aa,.aa,.aa,.aa,.aa,.aa,.aa,.aa,.aa,.aa,.aa,.aa,.aa,.aa,.aa,.aa,.aa,.aa,.aa,.aa,.aa,.aa,.aa,.aa,.aa,.aa,.aa,.aa,.aa,.aa,.aa,.aa,.aa,.aa,.aa,.aa,.aa,.aa,.aa,.aa,.aa,.aa,.aa,.aa,.aa,.aa,.aa,.aa,.aa,.aa,.aa,.aa,.aa,.aa,.aa,.aa,.aa,.aa,.aa,.aa,.aa,.aa,.aa,.aa,.aa,.aa,.aa,.aa,.aa,.aa,.aa,.aa,.aa,.aa,.aa,.aa,.aa,.aa,.aa,.aa,.aa,.aa,.aa,.aa,.aa,.aa,.aa,.aa,.aa,.aa,.aa,.aa,.aa,.aa,.aa,.aa,.aa,.aa,.aa,.aa,.aa,.aa,.aa,.aa,.aa,.aa,.aa,.aa,.aa,.aa,.aa,.aa,.aa,.aa,.aa,.aa,.aa,.aa,.aa,.aa,.aa,.aa,.aa,.aa,.aa,.aa,.aa,.aa,.aa,.aa,.aa,.aa,.aa,.aa,.aa,.aa,.aa,.aa,.aa,.aa,.aa,.aa,.aa,.aa,.aa,.aa,.aa,.aa,.aa,.aa,.aa,.aa,.aa,.aa,.aa,.aa,.aa,.aa,.aa,.aa,.aa,.aa,.aa,.aa,.aa,.aa,.aa,.aa,.aa,.aa,.aa,.aa,.aa]) λv11 h=>wk (kSt h 257 v11 v95) λ_ h=>wk (bh h v3) λv97 h=>wk (ae h .sub v97 (I 2)) λv98 h=>ar8 cl v3 v11 v98 h Q)
def as2(cl:CL)(x:AX)(v2 v3 v4:AV)(h:AH)(Q:QT):=xs x (aql cl v3 v4 h Q) (λj=>cond (Nat.beq j 0) (aql cl v3 v4 h Q) (False)) (Q v2 h)
def as7(cl:CL)(v3 v28:AV)(h:AH)(Q:QT):=wif v28 (wdr h 9 λr h=>wP h (aB h v3) λv29 c0 h=>wP h (aF h 1 v29 (I 0)) λv30 c1 h=>wR h (eK h v30) v30 λv31 c2 h=>wP h (aB h v3) λv32 c3 h=>wP h (aF h 1 v32 (I 1)) λv33 c4 h=>wR h (eK h v33) v33 λv34 c5 h=>wdc cl (F 181) [v31,v34] h λv35 c6 h=>wdp h (kX h (.arH 222) [v35]) (rdK (xRd (.arH 222) [v35])) λv36 c7 h=>ax2 cl v36 h Q) (b9 (λvs h k=>aso cl (ai vs 0) (ai vs 1) (ai vs 2) h k) [v3,.bool true,I 0] h λx vs h=>as2 cl x (ai vs 0) (ai vs 1) (ai vs 2) h Q)
def azY(cl:CL)(v0:AV)(h:AH)(Q:QT):=wk (aq h v0) λv16 h=>wk (ah h 4 v16) λv17 h=>wk (eK h v17) λv18 h=>aI (au9 cl v18 h) λvs h=>as7 cl (ai vs 0) (ai vs 1) h Q
theorem aAO{cl}(hcl:bt prog cl){v0 h Q}(hg:azY cl v0 h Q):aJ prog 157 [v0] h Q:=bI hcl [(2,.jn [3,28]),(8,.l [3,4,5] [2,3,4]),(11,.j [2,3,4,5]),(24,.l [3,6,61] [3,6]),(33,.l [3,6,8] [6]),(45,.l [3,11,12] [11]),(52,.jn [3,11,12,13,14])] func157 (by kernel_rfl) (by kernel_rfl) hg
def avh(cl:CL)(v0 v2 v4:AV)(h:AH)(Q:QT):=wk (aq h v2) λv5 h=>wk (ah h 3 v5) λv6 h=>wk (kSt h 1 v6 v4) λ_ h=>wk (aq h v0) λv8 h=>wk (ah h 4 v8) λv9 h=>wk (kSt h 1 v9 (.aa)) λ_ h=>Q (.tup []) h
def aAc(cl:CL)(v0:AV)(h:AH)(Q:QT):=ax cl (F 157) [v0] h λv4 h=>avh cl v0 v0 v4 h Q
theorem aA6{cl}(hcl:bt prog cl){v0 h Q}(hg:aAc cl v0 h Q):aJ prog 139 [v0] h Q:=bI hcl [] func139 (by kernel_rfl) (by kernel_rfl) hg
