/- What strings.Replacer writes for three bytes. -/
import Derived.Test.YtndpneieplopaaaGreatDoorStSm
set_option linter.unusedSimpArgs false
set_option linter.unusedVariables false
noncomputable section
namespace Go.Proofs.YtndpneieplopaaaGreatDoor
open Go.Eng Go.St Go.RowKit Tryz
theorem El:rpR.length=257:=nX _ _
theorem aaX(H:AH):Frz H false (.ai rpR) (.ai rpR):=by
 refine .ai rfl _ _ rfl λi c d a e=>?_
 rw[a]at e;cases e;unfold rpR at a;by_cases hi:i<256
 ·rw[qd _ _ hi]at a;cases a;exact N8 _ _ _
 by_cases b:i=256
 ·subst b;rw[rJ]at a;cases a;exact Ae λy f j c a=>by
   obtain⟨s,_,rfl⟩:=eK.1 f;match j with
   |0=>simp at a;subst a;exact .str _
   |j+1=>simp at a
 rw[j_ (by rw[nX];omega)]at a;cases a
theorem abx(h:AH)(s:Str)(c:UInt8)(_:True):ab prog 164 [.str s,.str [c]] h (I (s.count c)) h:=by
 refine ab.lib G0 λown β wd a hs b=>?_
 have:=wu b;subst this;refine(Zd ⟨s.toArray⟩ c wd).mono ?_;rintro e w' ⟨rfl,rfl⟩;exact⟨_,rfl,.int _ _,Below.refl _ _⟩
variable {h:AH}{Q:QT}
theorem acJ(s:Str)(c:UInt8)(a:Q (I (s.count c)) h):tU prog 164 [.str s,.str [c]] h Q:=sD (abx h s c trivial) a
def jW(c:UInt8):Bool:=c==92||c==34||c==10
def spN(s:Str):Nat:=s.countP jW
variable {c:UInt8}
theorem BI(h:jW c=true):∃x:UInt8,mX c=[92,x]/\rpF 0 c.toNat=by2 92 x.toNat:=by
 unfold jW at h;simp only[iY,fR]at h;rcases h with(rfl|rfl)|rfl
 ·exact⟨92,rfl,rfl⟩
 ·exact⟨34,rfl,rfl⟩
 exact⟨110,rfl,rfl⟩
theorem A6(h:jW c=false):mX c=[c]/\rpF 0 c.toNat =.D:=by
 unfold jW at h;simp only[kh,beq_eq_false_iff_ne]at h;obtain⟨⟨a,h2⟩,b⟩:=h;refine⟨by unfold mX;rw[O a,O h2,O b],?_⟩;have t:∀d:UInt8,c≠d->c.toNat≠d.toNat:=λd h e=>h (UInt8.toNat_inj.1 e)
 have a:=t 92 a;have h2:=t 34 h2;have b:=t 10 b;unfold rpF;rw[O (λe=>a e.1),O (λe=>h2 e.1),O (λe=>b e.1)]
theorem pa:∀s:Str,(bP s).length=s.length+spN s
 |[]=>rfl
 |c::s=>by
  have a:=pa s;unfold spN at a ⊢;simp only[bP,au,a,aF,List.countP_cons];cases h:jW c with
  |true=>obtain⟨x,b,_⟩:=BI h;rw[b];simp;omega
  |false=>rw[(A6 h).1];simp;omega
theorem a!:∀s:Str,spN s=0->bP s=s
 |[],_=>rfl
 |c::s,h=>by
  unfold spN at h;rw[List.countP_cons]at h;cases a:jW c with
  |true=>rw[a]at h;simp at h
  |false=>
   have:=a! s (by unfold spN;rw[a]at h;simpa using h);simp[bP,(A6 a).1,this]
theorem ZT(s:Str):spN s=s.count 10+s.count 34+s.count 92:=by
 induction s with
 |nil=>rfl
 |cons c s a=>
  unfold spN at a ⊢;rw[List.countP_cons,List.count_cons,List.count_cons,List.count_cons,a];by_cases b:c=92
  ·subst b;simp[jW];omega
  by_cases h2:c=34
  ·subst h2;simp[jW];omega
  by_cases d:c=10
  ·subst d;simp[jW];omega
  simp[jW,b,h2,d]
theorem n8(s:Str):spN s<=s.length:=List.countP_le_length
variable {s:Str}{i:Nat}
theorem abo(h:s[i]?=some c):spN (s.take (i+1))=spN (s.take i)+(if jW c=true then 1 else 0):=by
 unfold spN;rw[rp,h];simp only[zL,List.countP_append,List.countP_singleton]
theorem D!(h:s[i]?=some c):bP (s.take (i+1))=bP (s.take i)++mX c:=by
 rw[rp,h];simp only[zL,L0,bP,bO]
theorem Iq:gv h 256 1 (.ai rpR) (.int .u8 c.toNat)=some (.ai (rpR.drop c.toNat),h):=l! c.toNat_lt (by rw[El];have:=c.toNat_lt;omega)
theorem IB{c:UInt8}:(rpR.drop c.toNat)[0]?=some (rpF 0 c.toNat):=by
 rw[ew,p6];exact qd _ _ c.toNat_lt
theorem Qn:(rpR.drop 256)[0]?=some (.psl (rpT.map λs=>[.str s])):=by
 rw[ew];exact rJ _ _
def ctN(s:Str)(m:Nat):Nat:=((rpT.take m).map λw=>s.count (w.headD 0)).sum
inductive RA1(h:AH)(s:Str):Nat->List AV->AH->Prop
 |mk {m:Nat} {h':AH} (i:Nat):i+m=3->h'.H=h.H->h.nx<=h'.nx->RA1 h s m [.ai rpR,.str s,I (s.length+ctN s i:Int),.bool (!decide (ctN s i=0)),.psl (rpT.map λs=>[.str s]),I 3,I i] h'
inductive RA2(h:AH)(s:Str):Nat->List AV->AH->Prop
 |mk {m:Nat} {h':AH} (i:Nat):i+m=s.length->h'.H=h.H->h.nx<=h'.nx->RA2 h s m [.ai rpR,.str s,I (s.length+spN (s.take i):Int),.bool (!decide (spN (s.take i)=0)),I i] h'
variable {w:Str}
theorem af2(s:Str)(i:Nat)(h:rpT[i]?=some w):ctN s (i+1)=ctN s i+s.count (w.headD 0):=by
 unfold ctN;rw[rp,h];simp
theorem ahi(s:Str):ctN s 3=spN s:=by
 rw[ZT];simp[ctN,rpT];omega
theorem ae0(s:Str)(i:Nat)(a:i<=3):ctN s i<=spN s:=by
 have:i=0\/i=1\/i=2\/i=3:=by omega
 rw[ZT];rcases this with rfl|rfl|rfl|rfl<;>simp[ctN,rpT]<;>omega
variable {K:NT}
theorem agY(g h:AH)(s:Str)(hs:s.length<=1000000000)(S:h.H=g.H)(T:g.nx<=h.nx)(b:Bool)
  (U:∀h2:AH,h2.H=g.H->g.nx<=h2.nx->K [.ai rpR,.str s,I (s.length+spN s:Int),.bool (!decide (spN s=0))] h2):
  AA (.ai rpR) (.str s) (I s.length) (.bool false) (.bool b) h K:=by
 have hle:=n8 s;have L:∀h:AH,k_ h (.ai rpR)=some (.ai rpR,h):=λh=>rfl
 cases b with
 |true=>
  have hf:gZ h 256 (.ai rpR)=some (.ai (rpR.drop 256),h):=vX (by rw[El];omega);have a:=Qn;simp[AA,L,hf,a];refine⟨RA1 g s,3,.mk 0 (by omega) S T,?_⟩;rintro m v M ⟨i,N,d,e⟩;cases m with
  |zero=>
   obtain rfl:i=3:=by omega
   simp[DY,PW,Ck,ahi];have:=U M d e;simpa using this
  |succ m=>
   obtain⟨c,G,f⟩:∃c:UInt8,rpT[i]?=some [c]/\jW c=true:=by
    have:i=0\/i=1\/i=2:=by omega
    rcases this with rfl|rfl|rfl
    ·exact⟨10,rfl,rfl⟩
    ·exact⟨34,rfl,rfl⟩
    exact⟨92,rfl,rfl⟩
   obtain⟨x,_,j⟩:=BI f;have n:=af2 s i G;simp only[List.headD_cons]at n;have o:(i:Int)<3:=by omega
   have P:(rpT.map λs=>[AV.str s])[i]?=some [.str [c]]:=by rw[cA,G];rfl
   have q:∀h:AH,aC h 1 (.psl (rpT.map λs=>[.str s])) (I i)=some (.ai [.str [c]],h):=λh=>gQ P rfl
   have af:=ae0 s (i+1) (by omega);generalize R:(rpT.map λs=>[AV.str s])=TT at*;simp[DY,o];refine⟨λv h2=>v=[.ai rpR,.str s,I (s.length+ctN s (i+1):Int),.bool (!decide (ctN s (i+1)=0)),.psl TT,I 3,I i]/\h2.H=g.H/\g.nx<=h2.nx,?_,?_⟩
   ·simp[PE,q];refine acJ s c ?_;by_cases J:s.count c=0
    ·rw[J]at n ⊢;rw[n];simp(disch:=first|go_size|fail)[];exact⟨d,e⟩
    have s0:∀h:AH,jl h (.str [c]) (I 0)=some (.int .u8 c.toNat,h):=λh=>dA (s:=[c]) (p:=0) rfl
    have V:¬((s.count c:Nat):Int)=0:=by omega
    have a:= @IB c;rw[j]at a;have t:∀h:AH,gZ h 0 (.ai rpR)=some (.ai rpR,h):=λh=>vX (by omega)
    have l:∀h:AH,gv h 256 1 (.ai rpR) (.int .u8 c.toNat)=some (.ai (rpR.drop c.toNat),h):=λh=>Iq
    have y:∀h:AH,bn h (by2 92 x.toNat)=some (I 2,h):=λh=>rfl
    rw[n];have aj:s.count c<=1000000000:=bf List.count_le_length hs;have al:¬ctN s i+s.count c=0:=by omega
    simp(disch:=first|go_size|fail)[J,QV,s0,L,t,l,a,y,Qm];exact⟨by omega,d,by omega⟩
   rintro v h2 ⟨rfl,A,B⟩;simp(disch:=first|go_size|fail)[Q2];refine⟨m,by omega,?_⟩;have b:=RA1.mk (h:=g) (s:=s) (m:=m) (i+1) (by omega) A B;rw[R]at b;exact b
 |false=>
  simp(disch:=first|go_size|fail)[AA];refine⟨RA2 g s,s.length,.mk 0 (by omega) S T,?_⟩;rintro m v M ⟨i,N,d,e⟩;cases m with
  |zero=>
   obtain rfl:i=s.length:=by omega
   have o:¬(s.length:Int)<s.length:=by omega
   rw[oM];simp(disch:=first|go_size|fail)[B3,Nh,CD];have:=U M d e;simpa using this
  |succ m=>
   have hi:i<s.length:=by omega
   have o:(i:Int)<s.length:=by omega
   obtain⟨c,G⟩:∃c,s[i]?=some c:=⟨s[i],bF hi⟩;have u:=abo G;have W:=n8 (s.take i);have ad:(s.take i).length<=s.length:=by simp;omega
   have t:∀h:AH,gZ h 0 (.ai rpR)=some (.ai rpR,h):=λh=>vX (by omega)
   have l:∀h:AH,gv h 256 1 (.ai rpR) (.int .u8 c.toNat)=some (.ai (rpR.drop c.toNat),h):=λh=>Iq
   have a:= @IB c;have q:∀h:AH,jl h (.str s) (I i)=some (.int .u8 c.toNat,h):=λh=>dA G
   simp(disch:=first|go_size|fail)[B3,o];refine⟨λv h2=>v=[.ai rpR,.str s,I (s.length+spN (s.take (i+1)):Int),.bool (!decide (spN (s.take (i+1))=0)),I i]/\h2.H=g.H/\g.nx<=h2.nx,?_,?_⟩
   ·cases f:jW c with
    |true=>
     obtain⟨x,_,j⟩:=BI f;rw[j]at a;rw[f]at u;have y:∀h:AH,bn h (by2 92 x.toNat)=some (I 2,h):=λh=>rfl
     have C:∀h:AH,lx h .sl true (by2 92 x.toNat) .D=some (.bool true,h):=λh=>rfl
     rw[u];simp(disch:=first|go_size|fail)[CB,q,L,t,l,a,C,PC,l,a,y];exact⟨by omega,d,e⟩
    |false=>
     obtain⟨_,j⟩:=A6 f;rw[j]at a;rw[f]at u;have C:∀h:AH,lx h .sl true .D .D=some (.bool false,h):=λh=>rfl
     rw[u];simp(disch:=first|go_size|fail)[CB,q,L,t,l,a,C];exact⟨d,e⟩
   rintro v h2 ⟨rfl,A,B⟩;simp(disch:=first|go_size|fail)[Qi];refine⟨m,by omega,?_⟩;exact RA2.mk (h:=g) (s:=s) (m:=m) (i+1) (by omega) A B
variable {r:Nat}{z:AV}
theorem Z0{A B:LA}(h:B.length<=r):aP (A++List.replicate r z) A.length B=some (A++B++List.replicate (r-B.length) z):=by
 rw[nJ (by simp;omega)];unfold stN;congr 1
 rw[tV rfl,List.drop_append,gp (by omega)];simp
theorem S'{b j:Nat}{a c:Int}{f d:LA}(m:2<=r)(g:h.E b=some f)(l:aP f j [.int .u8 a,.int .u8 c]=some d):od h 1 (.rsl b j r 1) (by2 a c)=some (I 2,h.set b (.cells d)):=by
 have e:min 2 r=2:=by omega
 simp[od,yY,by2,cU,cj,e,aM,AV.one,g,l]
inductive RB(h:AH)(s:Str)(b:Nat):Nat->List AV->AH->Prop
 |mk {m:Nat} {h':AH} (i:Nat):i+m=s.length->Fr h h'->b<h'.nx->h.nx<=b->h'.E b=some (aK (bP (s.take i))++List.replicate ((bP s).length-(bP (s.take i)).length) (.int .u8 0))->
   RB h s b m [.ai rpR,.str s,.rsl b 0 (bP s).length 1,I (bP (s.take i)).length,I i] h'
theorem Lc(s:Str)(i:Nat):(bP (s.take i)).length<=(bP s).length:=by
 conv=>rhs;rw[<-pV i s]
 rw[L0,au];omega
theorem O!(h:AH)(s:Str)(hs:s.length<=1000000000):ab prog 251 [.ai rpR,.str s] h (.str (bP s)) h:=by
 refine dj (λ_=>.str _) (aih ?_);have R:∀h:AH,k_ h (.ai rpR)=some (.ai rpR,h):=λh=>rfl
 have hf:∀h:AH,gZ h 256 (.ai rpR)=some (.ai (rpR.drop 256),h):=λh=>vX (by rw[El];omega)
 have f:=Qn;have U:∀h:AH,bn h (.psl (rpT.map λs=>[AV.str s]))=some (I 3,h):=λh=>rfl
 simp[Yo,R,hf,f,U];refine⟨λy h2=>y=[.ai rpR,.str s,I (s.length+spN s:Int),.bool (!decide (spN s=0))]/\h2.H=h.H/\h.nx<=h2.nx,?_,?_⟩
 ·exact agY h h s hs rfl (ay _) _ λh2 C h4=>⟨rfl,C,h4⟩
 rintro y h2 ⟨rfl,j,l⟩;have G:=pa s;have n:=n8 s;by_cases T:spN s=0
 ·rw[a! s T];simp[KR,T];exact⟨l,λi _=>by rw[j]⟩
 have g:Fr h h2:=⟨l,λi _=>by rw[j]⟩;have e:(s.length+spN s:Int)=((bP s).length:Nat):=by omega
 rw[e];have J:kz h2 1 1 [.int .u8 0] (I (bP s).length) (I (bP s).length)=some (.rsl h2.nx 0 (bP s).length 1,h2.add (.cells (List.replicate (bP s).length (.int .u8 0)))):=by
  have q1:((bP s).length:Int)<=9223372036854775807:=by omega
  have q2:(bP s).length<=140737488355328:=by omega
  simp[kz,fI,q1,q2]
 simp[KR,T,J];refine⟨RB h s h2.nx,s.length,.mk 0 (by omega) (g.add _) (by simp) (by omega) (by simp[bP,aK]),?_⟩;generalize h2.nx=b at*;clear J j l g;rintro m y C ⟨i,al,fr,hb,hbn,S⟩;have P:=Lc s i;cases m with
 |zero=>
  obtain rfl:i=s.length:=by omega
  have L:¬(s.length:Int)<s.length:=by omega
  rw[oM,rm,List.replicate_zero,bO]at S;have o:=xm S;simp[KO,N9,Kt];rw[o];simp[];exact⟨fr.nx,fr.get⟩
 |succ m=>
  have hi:i<s.length:=by omega
  have L:(i:Int)<s.length:=by omega
  obtain⟨c,M⟩:∃c,s[i]?=some c:=⟨s[i],bF hi⟩;have V:=D! M;have a:=Lc s (i+1);have p:∀h:AH,gZ h 0 (.ai rpR)=some (.ai rpR,h):=λh=>vX (by omega)
  have q:∀h:AH,gv h 256 1 (.ai rpR) (.int .u8 c.toNat)=some (.ai (rpR.drop c.toNat),h):=λh=>Iq
  have f:= @IB c;have N:∀h:AH,jl h (.str s) (I i)=some (.int .u8 c.toNat,h):=λh=>dA M
  have hA:(aK (bP (s.take i))).length=(bP (s.take i)).length:=by simp[aK]
  simp[KO,L];refine⟨λy h2=>y=[.ai rpR,.str s,.rsl b 0 (bP s).length 1,I (bP (s.take (i+1))).length,I i]/\Fr h h2/\b<h2.nx/\h2.E b=some (aK (bP (s.take (i+1)))++List.replicate ((bP s).length-(bP (s.take (i+1))).length) (.int .u8 0)),?_,?_⟩
  ·rw[V]at a ⊢;generalize bP (s.take i)=A at*;generalize bP s=W at*;cases n:jW c with
   |true=>
    obtain⟨x,t,u⟩:=BI n;rw[u]at f;rw[t]at a ⊢;have v:∀h:AH,lx h .sl true (by2 92 x.toNat) .D=some (.bool true,h):=λh=>rfl
    have G:∀h:AH,kSl h 1 (.rsl b 0 W.length 1) (some (I A.length)) none none=some (.rsl b A.length (W.length-A.length) 1,h):=λh=>by
     have:=nP h b 0 W.length A.length P;rwa [j4]at this
    simp only[au,aF,bz]at a;have d:=Z0 (A:=aK A) (B:=[.int .u8 92,.int .u8 x.toNat]) (r:=W.length-A.length) (z:=.int .u8 0) (by simp;omega);rw[hA]at d;simp[Kr,N,R,p,q,f,v,Qt,G,R,p,q,f];unfold Qf;have ad:∀k,(AH.mk C.H k).E b=some (aK A++List.replicate (W.length-A.length) (.int .u8 0)):=λ_=>S
    refine gS (S' (by omega) (ad _) d) (by simp) ?_;simp(disch:=first|go_size|fail)[];refine⟨(fr.bump (by omega)).set hbn _,by omega,?_⟩;simp[aK];omega
   |false=>
    obtain⟨t,u⟩:=A6 n;rw[u]at f;rw[t]at a ⊢;have v:∀h:AH,lx h .sl true .D .D=some (.bool false,h):=λh=>rfl
    simp only[au,aF,bz]at a;have d:=Z0 (A:=aK A) (B:=[.int .u8 c.toNat]) (r:=W.length-A.length) (z:=.int .u8 0) (by simp;omega);rw[hA]at d;have af:aC C 1 (.rsl b 0 W.length 1) (I A.length)=some (.ptr b A.length,C):=by
     have:=gO (h:=C) (z:=1) (id:=b) (off:=0) (len:=W.length) (i:=(A.length:Int)) (by omega) (by omega);simpa using this
    simp(disch:=first|go_size|fail)[Kr,N,R,p,q,f,v,af,S,d,QC];refine⟨fr.set hbn _,hb,?_⟩;simp[aK];omega
  rintro y h2 ⟨rfl,g,o,aj⟩;simp(disch:=first|go_size|fail)[MU];refine⟨m,by omega,?_⟩;exact RB.mk (h:=h) (s:=s) (b:=b) (m:=m) (i+1) (by omega) g o hbn aj
def rpH(x y z:Int)(r o:AV):LA:=[.int .u32 x,.int .i32 y,.int .u32 z,r,o]
def rpI:AV:=.iface 231 (.ai rpR)
theorem R?(x y z:Int):qv (rpH x y z rpI .D):=λH=>by
 unfold rpH rpI;exact⟨.int _ _,.int _ _,.int _ _,.iface _ _ _ (aaX H),.fo,trivial⟩
theorem R'(h:AH)(a k:Nat)(x y z:Int)(d:AV)(e:h.E a=some (rpH x y z d (.rsl k 0 6 1)))(n:h.E k=some fG)(b:a<h.nx)(f:k<h.nx):
  ab prog 139 [.ptr a 0] h (.tup []) (h.set a (.cells (rpH x y z rpI .D))):=by
 refine fD b (R? x y z) (aht ?_);simp[Yv];refine sD (v:=rpI) (adt e n b f) ?_;have g:h.E a=some [.int .u32 x,.int .i32 y,.int .u32 z,d,.rsl k 0 6 1]:=e;have j:aP [AV.int .u32 x,.int .i32 y,.int .u32 z,d,.rsl k 0 6 1] 3 [rpI]=some [.int .u32 x,.int .i32 y,.int .u32 z,rpI,.rsl k 0 6 1]:=rfl;have l:aP [AV.int .u32 x,.int .i32 y,.int .u32 z,rpI,.rsl k 0 6 1] 4 [.D]=some [.int .u32 x,.int .i32 y,.int .u32 z,rpI,.D]:=rfl;have o:rpI.one=true:=rfl;have p:dG rpI=true:=rfl;have m:rpI.cells=[rpI]:=rfl;generalize rpI=R at*;simp(disch:=first|go_size|fail)[PF,g,j,l,o,m];exact((Ob.start e).set _).set _
variable {k:Nat}
theorem abG(f:h.E k=some fG)(g:k<h.nx):ab prog 104 [.rsl k 0 6 1] h (.ptr (h.nx+1) 0) ((h.add (.cells fG)).add (.cells (rpH 0 0 0 .bR (.rsl h.nx 0 6 1)))):=by
 refine aip ?_;have a:aG h .rem (I 6) (I 2)=some (I 0,h):=rfl;have q1:cut fG 0 6=some fG:=rfl;have q2:aM fG=true:=rfl;have b:aQ [AV.int .u32 0,.int .i32 0,.int .u32 0,.bR,.D] [(4,1,.rsl h.nx 0 6 1)]=some (rpH 0 0 0 .bR (.rsl h.nx 0 6 1)):=rfl;simp[Yl,a];refine⟨λd e=>d=[.rsl k 0 6 1]/\e=h,?_,?_⟩
 ·simp[PH]
 rintro d e ⟨rfl,rfl⟩;simp[Q3,f,q1,q2,b]
