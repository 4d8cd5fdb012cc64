/- The reference's numerals. -/
import Derived.Test.YtndpneieplopaaaGreatDoorStW
set_option linter.unusedSimpArgs false
set_option linter.unusedVariables false
noncomputable section
namespace Go.Proofs.YtndpneieplopaaaGreatDoor
open Go.Eng Go.St Tryz
def muD(n:Int):Nat:=if n<0 then 2*n.natAbs+1 else 2*n.natAbs
def yX(k:Nat):Prop:=∀(n:Int) (h:AH),muD n<k -> -1000000000000000000<=n/\n<=1000000000000000000->ab prog 81 [I n] h (.str (Lib.itoa n)) h
variable {k:Nat}{h:AH}{Q:QT}
theorem YK(e:yX k){n:Int}(f:muD n<k)(h2 : -1000000000000000000<=n/\n<=1000000000000000000)(g:Q (.str (Lib.itoa n)) h):tU prog 81 [I n] h Q:=sD (e n h f h2) g
theorem aU{a b:Str}(e:a.length+b.length<=9223372036854775807):aG h .add (.str a) (.str b)=some (.str (a++b),h):=by
 simp[aG,eG,xu,e]
theorem M1(u:Nat):(Lib.decDigits u).length<=u+1:=by
 induction u using Nat.strongRecOn with
 |_ u e=>
  by_cases h:u<10
  ·rw[Lib.decDigits,dif_pos h];simp
  rw[Lib.decDigits,dif_neg h,au,dP];have:=e (u/10) (by omega);omega
theorem xm{l:Str}(e:h.E k=some (aK l)):kX h .b2s [.rsl k 0 l.length 1]=some (.str l,h):=by
 have f:cut (aK l) 0 l.length=some (aK l):=by
  have:=cS (α:=aK l) (b:=[]) (n:=l.length) (by simp[aK]);rwa [bO]at this
 have hb:=KD l;simp[kX,cU,cj,e,f,hb]
theorem Y5{n:Int}(e:0<=n)(f:n<10):IntKind.u8.wrap (48+n)=((UInt8.ofNat (48+n.toNat)).toNat:Int):=by
 have:=x8 n.toNat (by omega);rw[this];simp only[IntKind.wrap,IntKind.bits,IntKind.signed];simp;omega
theorem ab4(r:yX k):yX (k+1):=by
 intro n h hm hb;refine nM (C81 ?_);by_cases e:n<0
 ·simp(disch:=first|go_size|fail)[g81,e];have g:Lib.itoa n=[45]++Lib.itoa (-n):=by
   unfold Lib.itoa;rw[Z e,ifn,show(-n).toNat=n.natAbs by omega];rfl
  have v:=M1 (-n).toNat;have o:(Lib.itoa (-n)).length<=1000000000000000001:=by unfold Lib.itoa;rw[ifn];omega
  refine YK r (n:= -n) (by unfold muD at hm ⊢; rw[Z e]at hm;rw[ifn];omega) (by omega) ?_;rw[aU (by simp;omega),g];simp(disch:=first|go_size|fail)[]
 by_cases f:n<10
 ·have g:Lib.itoa n=[UInt8.ofNat (48+n.toNat)]:=by unfold Lib.itoa;rw[O e,Lib.decDigits,dif_pos (by omega)]
  simp(disch:=first|go_size|fail)[g81,e,f];rw[Y5 (by omega) f];have j:(h.add (.cells [.int .u8 (UInt8.ofNat (48+n.toNat)).toNat])).E h.nx=some (aK [UInt8.ofNat (48+n.toNat)]):=cas;have:=xm j;rw[dP]at this;rw[this,g];simp(disch:=first|go_size|fail)[];intro i hi;rw[gan]
 have g:Lib.itoa n=Lib.itoa (n/10)++[UInt8.ofNat (48+(n%10).toNat)]:=by
  unfold Lib.itoa;rw[O e,ifn,Lib.decDigits,dif_neg (by omega),show(n/10).toNat=n.toNat/10 by omega,show(n%10).toNat=n.toNat%10 by omega]
 have eq:n.tdiv 10=n/10:=Int.tdiv_eq_ediv_of_nonneg (by omega);have z:n.tmod 10=n%10:=Int.tmod_eq_emod_of_nonneg (by omega);have v:=M1 (n/10).toNat;have o:(Lib.itoa (n/10)).length<=1000000000000000001:=by unfold Lib.itoa;rw[ifn];omega
 simp[g81,e,f];rw[x! _ _ _ (by omega) (by rw[eq];omega) (by rw[eq];omega),eq];simp[];refine YK r (n:=n/10) (by unfold muD at hm ⊢; rw[O e]at hm;rw[ifn];omega) (by omega) ?_;refine⟨by simp,?_⟩;rw[ZN _ _ _ _ (by omega),z];simp(disch:=first|go_size|fail)[T9];rw[Y5 (by omega) (by omega)];have j:((AH.mk h.H (h.nx+11)).set (h.nx+7) (.cells [.int .u8 (UInt8.ofNat (48+(n%10).toNat)).toNat])).E (h.nx+7)=some (aK [UInt8.ofNat (48+(n%10).toNat)]):=cse;have hb:=xm j;rw[dP]at hb;rw[hb];simp(disch:=first|go_size|fail)[];rw[aU (by simp;omega),g];simp(disch:=first|go_size|fail)[xRd,rdK];intro i hi;rw[gsn]
theorem Pr:∀k,yX k
 |0=>λn h hm _=>by omega
 |k+1=>ab4 (Pr k)
theorem J2(n:Int)(e : -1000000000000000000<=n/\n<=1000000000000000000):ab prog 81 [I n] h (.str (Lib.itoa n)) h:=Pr (muD n+1) n h (by omega) e
theorem Te(s:Str)(e:s.length<=1000000000):ab prog 117 [.str s] h (.bool (Lib.validD s)) h:=by
 refine nM (ahZ ?_);simp[Yn];rw[sk h s e];have f:(h.add (.cells ((ak s).map az))).E h.nx=some ((ak s).map az):=cas;have g:cU (h.add (.cells ((ak s).map az))) 1 (.rsl h.nx 0 (ak s).length 1)=some ((ak s).map az):=by
  have:=cS (α:=(ak s).map az) (b:=[]) (n:=(ak s).length) (by simp);rw[bO]at this;simp[cU,f,this]
 have h2:=Et (m:=(ak s).length) g (by simp[cj]);simp[h2,NL];intro i hi;rw[gan]
variable {s:Str}{p:Nat}{c:UInt8}
theorem Aa(h:s[p]?=some c):s.drop p=c::s.drop (p+1):=by
 obtain⟨e,he⟩:=aL.1 h;rw[ig e,he]
theorem drop_nil(h:s.length<=p):s.drop p=[]:=gp h
theorem ZX:∀(l:Str) (n:Nat),(n:Int)<=10*bh+9->((eZ l n).1:Int)<=10*bh+9
 |[],n,h=>h
 |c::t,n,h=>by
  simp only[eZ];split
  ·rename_i e;refine ZX t _ ?_;have f:bh=1099511627776:=rfl;simp only[fv,aI,ck]at e;omega
  exact h
theorem aet(h:AH)(a b:Int)(f:0<=a-b)(h2:a-b<=255):aG h .sub (.int .u8 a) (.int .u8 b)=some (.int .u8 (a-b),h):=by
 have e:IntKind.u8.wrap (a-b)=a-b:=by
  simp only[IntKind.wrap,IntKind.bits,IntKind.signed];simp;omega
 simp[aG,eG,iq,jf,e]
def goD(s:Str)(q n:Nat):Bool:=match s[q]? with|some c=>fv c&&decide ((n:Int)<=bh)|none=>false
variable {q n:Nat}
theorem acK:goD s q n=true↔∃c,s[q]?=some c/\fv c=true/\(n:Int)<=bh:=by
 unfold goD;cases s[q]? with
 |none=>simp
 |some c=>simp
theorem acj(h:s[q]?=some c)(e:fv c=true)(f:(n:Int)<=bh):eZ (s.drop q) n=eZ (s.drop (q+1)) (10*n+(c.toNat-48)):=by
 rw[Aa h,eZ,Z ⟨e,f⟩]
theorem acV(h:goD s q n=false):eZ (s.drop q) n=(n,s.drop q):=by
 unfold goD at h;cases e:s[q]? with
 |none=>rw[drop_nil (jO.1 e)];rfl
 |some c=>
  rw[e]at h;simp only[pW,jx]at h;rw[Aa e,eZ,O (by rintro⟨f,h2⟩;rcases h with h|h;(rw[f]at h;cases h);exact h h2)]
variable {id:Nat}{x:Rd}
theorem Ng(hc:h.E id=some (rdC x))(a6:id<h.nx)(hx:x.Ok):ab prog 85 [.ptr id 0] h (I (eg (x.s.drop x.t.pos))) (h.set id (.cells (rdC ⟨x.s,ef x.s x.t⟩))):=by
 obtain⟨s,⟨p,b⟩⟩:=x;have hs:s.length<=1000000000:=hx.1;have hp:p<=s.length+1:=hx.2;have W:bh=1099511627776:=rfl;refine fD a6 (nK _) (C85 ?_);have B:h.E id=some [.str s,I p,.bool b]:=hc;have S:isM (s.drop p)=(s[p]?== some 45)/\fw (s.drop p)=s.drop (if s[p]?=some 45 then p+1 else p):=by
  cases h0:s[p]? with
  |none=>
   have:s.length<=p:=jO.1 h0;rw[drop_nil this];simp[isM,fw,drop_nil this]
  |some c=>
   rw[Aa h0];by_cases T:c=45
   ·subst T;simp[isM,fw]
   simp[isM,fw,T,Aa h0]
 obtain⟨a7,ad⟩:=S;simp[g85,B];refine⟨λj h'=>j=[.ptr id 0,I p,.bool false,.bool (s[p]?== some 45)]/\Ob h h' id (rdC ⟨s,⟨p,b⟩⟩),?_,?_⟩
 ·by_cases af:p<s.length
  ·obtain⟨c,f⟩:∃c,s[p]?=some c:=⟨s[p],bF af⟩;have g:(p:Int)<s.length:=by omega
   have k1:=ahd c;rw[f];simp[HZ,B,FN,B,g,HG,B,dA f,k1];exact(Ob.start hc).bump _ (by simp)
  have g:¬(p:Int)<s.length:=by omega
  have hn:s[p]?=none:=by rw[jO];omega
  rw[hn];simp[HZ,B,FN,g,HG];exact(Ob.start hc).bump _ (by simp)
 rintro j P ⟨rfl,aj⟩;simp[P_];have a8:P.E id=some [.str s,I p,.bool b]:=aj.c;generalize ar:(s[p]?== some 45)=mi at*;generalize C:(if s[p]?=some 45 then p+1 else p)=o at*;have M:o<=s.length+1/\p<=o/\(p<=s.length->o<=s.length):=by
  subst C;split
  ·rename_i G;have:=(aL.1 G).1;omega
  omega
 refine⟨λj h2=>j=[.ptr id 0,I p,.bool mi]/\Ob h h2 id (rdC ⟨s,⟨o,b⟩⟩),?_,?_⟩
 ·cases mi
  ·have G:¬s[p]?=some 45:=by simpa using ar
   rw[O G]at C;subst C;simp(disch:=first|go_size|fail)[H8];exact aj
  have G:s[p]?=some 45:=by simpa using ar
  rw[Z G]at C;subst C;simp(disch:=first|go_size|fail)[H8,a8];exact aj.set _
 rintro j h2 ⟨rfl,av⟩;have ba:h2.E id=some [.str s,I o,.bool b]:=av.c;simp(disch:=first|go_size|fail)[So,ba];refine⟨λm j h'=>∃(q n:Nat),j=[.ptr id 0,I p,.bool mi,I n,I o]/\Ob h h' id (rdC ⟨s,⟨q,b⟩⟩)/\o<=q/\q<=s.length+1/\(p<=s.length->q<=s.length)/\(n:Int)<=10*bh+9/\eZ (s.drop q) n=eZ (s.drop o) 0/\m=s.length+1-q,s.length+1-o,?_,?_⟩
 ·exact⟨o,0,rfl,av.bump _ (by simp),by omega,M.1,M.2.2,by omega,rfl,rfl⟩
 rintro m j h' ⟨q,n,rfl,ho,b0,b1,bb,hn,U,rfl⟩;have v:h'.E id=some [.str s,I q,.bool b]:=ho.c;simp(disch:=first|go_size|fail)[Wq];refine⟨λj h2=>j=[.ptr id 0,I p,.bool mi,I n,I o,.bool (goD s q n)]/\Ob h h2 id (rdC ⟨s,⟨q,b⟩⟩),?_,?_⟩
 ·by_cases af:q<s.length
  ·obtain⟨c,f⟩:∃c,s[q]?=some c:=⟨s[q],bF af⟩;have g:(q:Int)<s.length:=by omega
   have e:goD s q n=(decide (48<=c.toNat)&&decide (c.toNat<=57)&&decide ((n:Int)<=bh)):=by unfold goD;rw[f];rfl
   rw[e];simp[FB,v,Gp,v,g];by_cases P:48<=c.toNat
   ·have z:¬(c.toNat:Int)<48:=by omega
    have al:(48:Int)<=c.toNat:=by omega
    simp[xW,v,dA f,al,ye,v,dA f,P];by_cases h2:c.toNat<=57
    ·have r:(c.toNat:Int)<=57:=by omega
     by_cases h3:(n:Int)<=1099511627776
     ·simp[uM,h2,r,W,h3];exact ho.bump _ (by simp)
     simp[uM,h2,r,W,h3];exact ho.bump _ (by simp)
    have r:¬(c.toNat:Int)<=57:=by omega
    simp[uM,h2,r,W];exact ho.bump _ (by simp)
   have z:(c.toNat:Int)<48:=by omega
   have al:¬(48:Int)<=c.toNat:=by omega
   simp[xW,v,dA f,al,ye,P,uM];exact ho.bump _ (by simp)
  have g:¬(q:Int)<s.length:=by omega
  have e:goD s q n=false:=by unfold goD;rw[jO.2 (by omega)]
  rw[e];simp[FB,v,Gp,g,xW,ye,uM];exact ho.bump _ (by simp)
 rintro j h3 ⟨rfl,R⟩;have an:h3.E id=some [.str s,I q,.bool b]:=R.c;cases aw:goD s q n
 ·simp[F0,Q5,D3];have hd:=acV aw;rw[U]at hd;have eR:fq (s.drop p)=s.drop q:=by unfold fq;rw[ad,hd]
  have eN:eg (s.drop p)=if mi=true then -(n:Int)else n:=by unfold eg;rw[ad,hd,a7]
  refine⟨λj h4=>j=[.ptr id 0,I p,I (eg (s.drop p)),I o]/\Ob h h4 id (rdC ⟨s,⟨q,b⟩⟩),?_,?_⟩
  ·rw[eN];cases mi
   ·simp(disch:=first|go_size|fail)[EN];exact R
   simp(disch:=first|go_size|fail)[EN];exact R
  rintro j h4 ⟨rfl,A⟩;have J:h4.E id=some [.str s,I q,.bool b]:=A.c;simp(disch:=first|go_size|fail)[OH];refine⟨λj h5=>j=[.ptr id 0,I (eg (s.drop p)),.bool !(jG (s.drop p))]/\Ob h h5 id (rdC ⟨s,⟨q,b⟩⟩),?_,?_⟩
  ·have hB:jG (s.drop p)=(decide ((s.drop q).length≠(s.drop o).length)&&decide (-bh<=eg (s.drop p))&&decide (eg (s.drop p)<=bh)&&(Lib.itoa (eg (s.drop p))==(s.drop p).take ((s.drop p).length-(s.drop q).length))):=by unfold jG;rw[ad,eR]
   generalize eg (s.drop p)=N at*;by_cases bd:q=o
   ·have K:(q:Int)=o:=by omega
    have:jG (s.drop p)=false:=by rw[hB,bd];simp
    rw[this];simp(disch:=first|go_size|fail)[GC,J,K,wO,xb,uP];exact A.bump _ (by simp)
   have K:¬(q:Int)=o:=by omega
   have bk:p<=s.length:=by omega
   have aS:=bb bk;have bp:decide ((s.drop q).length≠(s.drop o).length)=true:=by
    rw[decide_eq_true_iff,bW,bW];omega
   have hlen:(s.drop p).length-(s.drop q).length=q-p:=by
    rw[bW,bW];omega
   rw[bp,hlen,p5]at hB;rw[hB];simp(disch:=first|go_size|fail)[GC,J,K];by_cases P:N<=1099511627776
   ·have z:¬(1099511627776:Int)<N:=by omega
    by_cases h2 : -1099511627776<=N
    ·have r:¬N < -1099511627776:=by omega
     simp(disch:=first|go_size|fail)[wO,z,r,xb];refine sD (J2 (n:=N) (by omega)) ?_;simp(disch:=first|go_size|fail)[J];by_cases hi:Lib.itoa N=(s.drop p).take (q-p)
     ·simp(disch:=first|go_size|fail)[uP,J,uD (show p<=q by omega) aS,hi,W,P,h2];exact A.bump _ (by simp)
     simp(disch:=first|go_size|fail)[uP,J,uD (show p<=q by omega) aS,W,P,h2];exact A.bump _ (by simp)
    have r:N < -1099511627776:=by omega
    simp(disch:=first|go_size|fail)[wO,z,r,h2,W,P,xb,uP];exact A.bump _ (by simp)
   have z:(1099511627776:Int)<N:=by omega
   simp(disch:=first|go_size|fail)[wO,z,P,W,xb,uP];exact A.bump _ (by simp)
  rintro j h5 ⟨rfl,ao⟩;have aT:h5.E id=some [.str s,I q,.bool b]:=ao.c;simp(disch:=first|go_size|fail)[Pc];refine⟨λj h6=>j=[I (eg (s.drop p))]/\Ob h h6 id (rdC ⟨s,ef s ⟨p,b⟩⟩),?_,?_⟩
  ·have eT:ef s ⟨p,b⟩=⟨q,b || !(jG (s.drop p))⟩:=by
    unfold ef;simp only[eR,bW];congr 1
    omega
   rw[eT];cases jG (s.drop p)
   ·simp(disch:=first|go_size|fail)[Fz,aT];exact ao.set _
   simp(disch:=first|go_size|fail)[Fz,aT];exact ao
  rintro j h6 ⟨rfl,bs⟩;simp(disch:=first|go_size|fail)[VT];exact bs
 obtain⟨c,f,a1,bx⟩:=acK.1 aw;have bY:48<=c.toNat/\c.toNat<=57:=by simpa[fv]using a1
 simp(disch:=first|go_size|fail)[F0,an,Xb,an,dA f,aet];have w1:IntKind.i64.wrap ((c.toNat:Int)-48)=(c.toNat:Int)-48:=lW (by omega) (by omega);have w2:IntKind.i64.wrap (10*n+((c.toNat:Int)-48))=10*n+((c.toNat:Int)-48):=lW (by omega) (by omega);rw[w1];simp(disch:=first|go_size|fail)[VO,an];exact⟨s.length+1-(q+1),by have:=(aL.1 f).1;omega,q+1,10*n+(c.toNat-48),by omega,(R.bump _ (by simp)).set _,by omega,by have:=(aL.1 f).1;omega,by have:=(aL.1 f).1;omega,by omega,by rw[<-acj f a1 bx];exact U,rfl⟩
theorem Kj{x:Rd}(g:h.E id=some (rdC x))(e:id<h.nx)(f:x.Ok):ab prog 49 [.ptr id 0] h (I (dR x.s x.t)) (h.set id (.cells (rdC ⟨x.s,bA x.s x.t⟩))):=by
 refine fD e (nK _) (C49 ?_);simp[g49];refine sD (s_ g e f) ?_;refine sD (Ng (x:=⟨x.s,ae x.s x.t⟩) cse e ⟨f.1,Bc f.2⟩) ?_;exact⟨rfl,((Ob.start g).set _).set _⟩
theorem xH(s:Str)(c:UInt8)(t:RS)(e:s[t.pos]?=some c):(rQ1 s c t).2.pos<=s.length/\t.pos+1<=(rQ1 s c t).2.pos:=by
 have g:=(aL.1 e).1;unfold rQ1;split
 ·split
  ·rename_i d f;have:=(aL.1 f).1;exact⟨by simp only;omega,by simp only;omega⟩
  exact⟨by simp only;omega,by simp⟩
 exact⟨by simp only;omega,by simp⟩
theorem Ox(hc:h.E id=some (rdC x))(C:id<h.nx)(hx:x.Ok):ab prog 88 [.ptr id 0] h (.str (mD x.s x.t)) (h.set id (.cells (rdC ⟨x.s,iQ x.s x.t⟩))):=by
 obtain⟨s,⟨p,b⟩⟩:=x;have hs:s.length<=1000000000:=hx.1;have hp:p<=s.length+1:=hx.2;refine fD C (nK _) (C88 ?_);have ao:h.E id=some [.str s,I p,.bool b]:=hc;simp(disch:=first|go_size|fail)[g88];refine⟨λj h'=>j=[.ptr id 0,.bool (!(s[p]?== some 34))]/\Ob h h' id (rdC ⟨s,⟨p,b⟩⟩),?_,?_⟩
 ·by_cases G:p<s.length
  ·obtain⟨c,g⟩:∃c,s[p]?=some c:=⟨s[p],bF G⟩;have v:¬(s.length:Int)<=p:=by omega
   have k1:=xN c;rw[g];simp(disch:=first|go_size|fail)[Fo,ao,EF,ao,v,HR,ao,dA g,k1];exact⟨rfl,(Ob.start hc).bump _ (by simp)⟩
  have v:(s.length:Int)<=p:=by omega
  have hn:s[p]?=none:=by rw[jO];omega
  rw[hn];simp(disch:=first|go_size|fail)[Fo,ao,EF,v,HR];exact(Ob.start hc).bump _ (by simp)
 rintro j h1 ⟨rfl,a6⟩;have a7:h1.E id=some [.str s,I p,.bool b]:=a6.c;by_cases M:s[p]?=some 34
 ·have b2:=(aL.1 M).1;have eb:(!(s[p]?== some 34))=false:=by simp[M]
  rw[eb];have eV:mD s ⟨p,b⟩=(rQL s s.length [] ⟨p+1,b⟩).1:=by unfold mD;rw[Z M]
  have eT:iQ s ⟨p,b⟩=⟨(rQL s s.length [] ⟨p+1,b⟩).2.pos+1,((rQL s s.length [] ⟨p+1,b⟩).2.bad||decide (s.length<=(rQL s s.length [] ⟨p+1,b⟩).2.pos)) || !(Lib.validD (rQL s s.length [] ⟨p+1,b⟩).1)⟩:=by unfold iQ;rw[Z M]
  rw[eV,eT];generalize hR:rQL s s.length [] ⟨p+1,b⟩=R at*;simp(disch:=first|go_size|fail)[CZ,a7];refine⟨λm j h'=>∃out t lv,j=[.ptr id 0,lv]/\Ob h h' id (rdC ⟨s,t⟩)/\OL 1 h h' lv out.length (aK out)/\t.pos<=s.length/\s.length-t.pos<=m/\rQL s m out t=R/\out.length<=t.pos,s.length,?_,?_⟩
  ·exact⟨[],⟨p+1,b⟩,.D,rfl,a6.set _,OL.start _ _ _,by simp only;omega,by omega,hR,by simp⟩
  rintro m j h' ⟨out,⟨q,f⟩,lv,rfl,ho,hl,hq,hm,a8,hlen⟩;simp only at hq hm hlen;have ar:h'.E id=some [.str s,I q,.bool f]:=ho.c;simp(disch:=first|go_size|fail)[Sn];refine⟨λj h2=>j=[.ptr id 0,lv,.bool (decide (q<s.length) && !(s[q]?== some 34))]/\Ob h h2 id (rdC ⟨s,⟨q,f⟩⟩)/\OL 1 h h2 lv out.length (aK out),?_,?_⟩
  ·by_cases G:q<s.length
   ·obtain⟨c,g⟩:∃c,s[q]?=some c:=⟨s[q],bF G⟩;have v:(q:Int)<s.length:=by omega
    have k1:=xN c;rw[g];simp(disch:=first|go_size|fail)[HK,ar,Ig,ar,v,Ew,ar,dA g,k1,G];exact⟨rfl,ho.bump _ (by simp),hl.bump (by simp)⟩
   have v:¬(q:Int)<s.length:=by omega
   simp(disch:=first|go_size|fail)[HK,ar,Ig,v,Ew,G];exact⟨ho.bump _ (by simp),hl.bump (by simp)⟩
  rintro j h3 ⟨rfl,T,ad⟩;have o:h3.E id=some [.str s,I q,.bool f]:=T.c;cases z:(decide (q<s.length) && !(s[q]?== some 34))
  ·have aS:rQL s m out ⟨q,f⟩=(out,⟨q,f⟩):=by
    cases m with
    |zero=>rfl
    |succ m=>
     unfold rQL;cases g:s[q]? with
     |none=>simp[]
     |some c=>
      have G:=(aL.1 g).1;rw[g]at z;simp[G]at z;simp[z]
   rw[a8]at aS;subst aS;simp(disch:=first|go_size|fail)[Gv,O6,DK];refine⟨λj A=>j=[.ptr id 0,lv]/\Ob h A id (rdC ⟨s,⟨q,f||decide (s.length<=q)⟩⟩)/\OL 1 h A lv out.length (aK out),?_,?_⟩
   ·cases f
    ·simp(disch:=first|go_size|fail)[Ct,o,CI,o,Dv,o];exact⟨(T.bump _ (by simp)).set _,(ad.bump (by simp)).set C _⟩
    simp(disch:=first|go_size|fail)[Ct,o,CI,Dv,o];exact⟨(T.bump _ (by simp)).set _,(ad.bump (by simp)).set C _⟩
   rintro j A ⟨rfl,N,af⟩;generalize(f||decide (s.length<=q))=be at*;have aj:A.E id=some [.str s,I q,.bool be]:=N.c;simp(disch:=first|go_size|fail)[Qg,aj];have r:Ob h (A.set id (.cells (rdC ⟨s,⟨q+1,be⟩⟩))) id (rdC ⟨s,⟨q+1,be⟩⟩):=N.set _;have P:OL 1 h (A.set id (.cells (rdC ⟨s,⟨q+1,be⟩⟩))) lv out.length (aK out):=af.set C _;have al:A.set id (.cells [.str s,I ((q:Int)+1),.bool be])=A.set id (.cells (rdC ⟨s,⟨q+1,be⟩⟩)):=rfl;rw[al];generalize A.set id (.cells (rdC ⟨s,⟨q+1,be⟩⟩))=h5 at*;have U:h5.E id=some [.str s,I (q+1:Nat),.bool be]:=r.c;rw[Hr P];simp(disch:=first|go_size|fail)[RX];refine⟨λj h6=>j=[.str out]/\Ob h h6 id (rdC ⟨s,⟨q+1,be || !(Lib.validD out)⟩⟩),?_,?_⟩
   ·cases be
    ·simp(disch:=first|go_size|fail)[CF,U];refine sD (Te (s:=out) (by omega)) ?_;simp(disch:=first|go_size|fail)[Dq,U];exact r.set _
    simp(disch:=first|go_size|fail)[CF,U,Dq,U];exact r.set _
   rintro j h6 ⟨rfl,J⟩;simp(disch:=first|go_size|fail)[R1];exact J
  simp only[aI,j7,ck]at z;obtain⟨G,aT⟩:=z;obtain⟨c,g⟩:∃c,s[q]?=some c:=⟨s[q],bF G⟩;have bs:c≠34:=by rintro rfl;rw[g]at aT;simp at aT
  obtain⟨m,rfl⟩:∃k,m=k+1:=⟨m-1,by omega⟩;have bx:rQL s m (out++[(rQ1 s c ⟨q,f⟩).1]) (rQ1 s c ⟨q,f⟩).2=R:=by
   rw[<-a8];conv=>rhs;unfold rQL
   simp[g,bs]
  have ba:=xH s c ⟨q,f⟩ g;simp(disch:=first|go_size|fail)[Gv,o,V9,dA g];have bb:=zb c;refine⟨λj A=>j=[.ptr id 0,lv,.int .u8 c.toNat,.bool (c==92&&decide (q+1<s.length))]/\Ob h A id (rdC ⟨s,⟨q,f⟩⟩)/\OL 1 h A lv out.length (aK out),?_,?_⟩
  ·by_cases K:c=92
   ·by_cases B:q+1<s.length
    ·have S:(q:Int)+1<s.length:=by omega
     simp(disch:=first|go_size|fail)[yS,o,K,xK,o,B,S];exact⟨T.bump _ (by omega),ad.bump (by omega)⟩
    have S:¬(q:Int)+1<s.length:=by omega
    simp(disch:=first|go_size|fail)[yS,o,K,xK,o,B,S];exact⟨T.bump _ (by omega),ad.bump (by omega)⟩
   simp(disch:=first|go_size|fail)[yS,o,bb,K];simp(disch:=first|go_size|fail)[xK];exact⟨λh=>absurd h K,T.bump _ (by omega),ad.bump (by omega)⟩
  rintro j A ⟨rfl,N,af⟩;have aj:A.E id=some [.str s,I q,.bool f]:=N.c;simp(disch:=first|go_size|fail)[VL];refine⟨λj h5=>j=[.ptr id 0,lv,.int .u8 (rQ1 s c ⟨q,f⟩).1.toNat]/\Ob h h5 id (rdC ⟨s,⟨(rQ1 s c ⟨q,f⟩).2.pos-1,(rQ1 s c ⟨q,f⟩).2.bad⟩⟩)/\OL 1 h h5 lv out.length (aK out),?_,?_⟩
  ·by_cases K:c=92
   ·subst K;by_cases B:q+1<s.length
    ·obtain⟨d,hd⟩:∃d,s[q+1]?=some d:=⟨s[q+1],bF B⟩;have e:rQ1 s 92 ⟨q,f⟩=(if d=110 then 10 else d,⟨q+2,f || !(jI d)⟩):=by unfold rQ1;simp[hd]
     rw[e];simp(disch:=first|go_size|fail)[yl,aj,B];have r:Ob h (A.set id (.cells (rdC ⟨s,⟨q+1,f⟩⟩))) id (rdC ⟨s,⟨q+1,f⟩⟩):=N.set _;have P:OL 1 h (A.set id (.cells (rdC ⟨s,⟨q+1,f⟩⟩))) lv out.length (aK out):=af.set C _;have al:A.set id (.cells [.str s,I ((q:Int)+1),.bool f])=A.set id (.cells (rdC ⟨s,⟨q+1,f⟩⟩)):=rfl;try rw[al]
     have W:(A.set id (.cells (rdC ⟨s,⟨q+1,f⟩⟩))).nx=A.nx:=rfl;have kI:∀h:AH,jl h (.str s) (I ((q:Int)+1))=some (.int .u8 d.toNat,h):=λh=>dA (p:=q+1) hd
     generalize A.set id (.cells (rdC ⟨s,⟨q+1,f⟩⟩))=h5 at*;have U:h5.E id=some [.str s,I (q+1:Nat),.bool f]:=r.c;simp(disch:=first|go_size|fail)[W5,U,kI];have bk:=WJ d;have bY:=xN d;have bp:=aeK d;by_cases an:d=110
     ·subst an;have he:jI 110=true:=rfl;simp(disch:=first|go_size|fail)[FQ,he];exact⟨r.bump _ (by rw[W];simp),P.bump (by rw[W];simp)⟩
     simp(disch:=first|go_size|fail)[FQ,bk,an];refine⟨λj h6=>j=[.ptr id 0,lv,.int .u8 d.toNat,.bool (d != 34&&d != 92)]/\Ob h h6 id (rdC ⟨s,⟨q+1,f⟩⟩)/\OL 1 h h6 lv out.length (aK out),?_,?_⟩
     ·by_cases a1:d=34
      ·simp(disch:=first|go_size|fail)[GR,a1];exact⟨r.bump _ (by rw[W];simp),P.bump (by rw[W];simp)⟩
      simp(disch:=first|go_size|fail)[GR,bY,a1,bp];exact⟨r.bump _ (by rw[W];simp),P.bump (by rw[W];simp)⟩
     rintro j h6 ⟨rfl,J,av⟩;have aw:h6.E id=some [.str s,I (q+1:Nat),.bool f]:=J.c;have he:jI d = !(d != 34&&d != 92):=by
      have:(d==110)=false:=by simp[an]
      unfold jI bne;rw[this];cases(d==34)<;>cases(d==92)<;>rfl
     rw[he];cases(d != 34&&d != 92)
     ·simp(disch:=first|go_size|fail)[Fk];exact⟨J,av⟩
     simp(disch:=first|go_size|fail)[Fk,aw];exact⟨J.set _,av.set C _⟩
    have hn:s[q+1]?=none:=by rw[jO];omega
    have e:rQ1 s 92 ⟨q,f⟩=(92,⟨q+1,true⟩):=by unfold rQ1;simp[hn]
    rw[e];simp(disch:=first|go_size|fail)[yl,aj,B];exact⟨N.set _,af.set C _⟩
   have e:rQ1 s c ⟨q,f⟩=(c,⟨q+1,f⟩):=by unfold rQ1;rw[O K]
   rw[e];simp(disch:=first|go_size|fail)[yl,aj,K,bb];exact⟨N,af⟩
  rintro j h5 ⟨rfl,r,P⟩;obtain⟨b3,h6,hk,av,b4,b0⟩:=kt (bytes:=1) (tc:=[.int .u8 (rQ1 s c ⟨q,f⟩).1.toNat]) P r.nx rfl rfl (by omega) (by omega);have J:=r.app C (by omega) b0;have aw:h6.E id=some [.str s,I ((rQ1 s c ⟨q,f⟩).2.pos-1:Nat),.bool (rQ1 s c ⟨q,f⟩).2.bad]:=J.c;simp(disch:=first|go_size|fail)[Tk,hk,aw];simp(disch:=first|go_size|fail)[S_,aw];have b1:(out++[(rQ1 s c ⟨q,f⟩).1]).length=out.length+1:=by simp
  have b5:(rQ1 s c ⟨q,f⟩).2.pos-1+1=(rQ1 s c ⟨q,f⟩).2.pos:=by omega
  simp only at ba;refine⟨m,by omega,out++[(rQ1 s c ⟨q,f⟩).1],(rQ1 s c ⟨q,f⟩).2,?_,?_,ba.1,by omega,bx,by omega⟩
  ·have:=J.set (rdC ⟨s,(rQ1 s c ⟨q,f⟩).2⟩);have e:(((rQ1 s c ⟨q,f⟩).2.pos-1:Nat):Int)+1=((rQ1 s c ⟨q,f⟩).2.pos:Int):=by omega
   rw[e];exact this
  rw[b1];have:aK (out++[(rQ1 s c ⟨q,f⟩).1])=aK out++[.int .u8 (rQ1 s c ⟨q,f⟩).1.toNat]:=by simp[aK]
  rw[this];exact av.set C _
 have eb:(!(s[p]?== some 34))=true:=by simp[M]
 have eV:mD s ⟨p,b⟩=[]:=by unfold mD;rw[O M]
 have eT:iQ s ⟨p,b⟩=⟨p,true⟩:=by unfold iQ;rw[O M]
 rw[eb,eV,eT];simp(disch:=first|go_size|fail)[CZ,a7];exact a6.set _
theorem Ce{x:Rd}(g:h.E id=some (rdC x))(e:id<h.nx)(f:x.Ok):ab prog 53 [.ptr id 0] h (.str (jT x.s x.t)) (h.set id (.cells (rdC ⟨x.s,jF x.s x.t⟩))):=by
 refine fD e (nK _) (C53 ?_);simp[g53];refine sD (s_ g e f) ?_;refine sD (Ox (x:=⟨x.s,ae x.s x.t⟩) cse e ⟨f.1,Bc f.2⟩) ?_;exact⟨rfl,((Ob.start g).set _).set _⟩
def cP(s w:Str)(t:RS):Bool:=decide (t.pos+w.length<=s.length)&&((s.drop t.pos).take w.length==w)
def bE(s w:Str)(t:RS):RS:=if cP s w t=true then⟨t.pos+w.length,t.bad⟩else t
variable {w:Str}{t:RS}
theorem abV(h:t.pos<=s.length+1):(bE s w t).pos<=s.length+1:=by
 unfold bE;split
 ·rename_i hb;simp only[cP,aI,ck]at hb;simp only;omega
 exact h
theorem Ay{h:AH}(w:Str)(j:h.E id=some (rdC x))(r:id<h.nx)(A:x.Ok/\w.length<=100):ab prog 87 [.ptr id 0,.str w] h (.bool (cP x.s w x.t)) (h.set id (.cells (rdC ⟨x.s,bE x.s w x.t⟩))):=by
 obtain⟨s,⟨p,b⟩⟩:=x;obtain⟨⟨hs,hp⟩,hw⟩:=A;simp only at hs hp;refine fD r (nK _) (C87 ?_);have f:h.E id=some [.str s,I p,.bool b]:=j;simp[g87];refine⟨λz h'=>z=[.ptr id 0,.str w,.bool (!(cP s w ⟨p,b⟩))]/\Ob h h' id (rdC ⟨s,⟨p,b⟩⟩),?_,?_⟩
 ·by_cases hle:p+w.length<=s.length
  ·have g:¬(s.length:Int)-p<w.length:=by omega
   have e:cP s w ⟨p,b⟩=((s.drop p).take w.length==w):=by simp[cP,hle]
   rw[e];have B:∀h:AH,iD h (.str s) (some (I p)) (some (I ((p:Int)+w.length)))=some (.str ((s.drop p).take w.length),h):=λh=>by
    have:=uD (h:=h) (s:=s) (a:=p) (b:=p+w.length) (by omega) hle;rwa [show p+w.length-p=w.length by omega]at this
   simp(disch:=first|go_size|fail)[H_,f,Fh,f,g,G4,f,GU,f,B,HC];exact(Ob.start j).bump _ (by simp)
  have g:(s.length:Int)-p<w.length:=by omega
  have e:cP s w ⟨p,b⟩=false:=by simp[cP,hle]
  rw[e];simp(disch:=first|go_size|fail)[H_,f,Fh,f,g,G4,GU,HC];exact(Ob.start j).bump _ (by simp)
 rintro z C ⟨rfl,o⟩;have v:C.E id=some [.str s,I p,.bool b]:=o.c;unfold bE;cases cP s w ⟨p,b⟩
 ·simp[H5];exact o
 simp(disch:=first|go_size|fail)[H5,v,W3];exact o.set _
def fA(l:List Str)(w:Str):Int:=if w=[]then -1 else idx l w
theorem N7(l:List Str)(w:Str)(G:l.length<=1000):ab prog 48 [cV l,.str w] h (I (fA l w)) h:=by
 refine wv (C48 ?_);simp[g48];refine⟨λm v h'=>∃i:Nat,v=[cV l,.str w,I i]/\h'=h/\i<=l.length/\(w≠[]->∀j,j<i->∀s,l[j]?=some s->s≠w)/\m=l.length-i,l.length,?_,?_⟩
 ·exact⟨0,rfl,rfl,by omega,λ_ j B=>by omega,by omega⟩
 rintro m v h' ⟨i,rfl,rfl,hi,o,rfl⟩;by_cases z:i<l.length
 ·have g:(i:Int)<l.length:=by omega
  obtain⟨s,hs⟩:∃s,l[i]?=some s:=⟨l[i],bF z⟩;simp[E5,wo,g];refine⟨λv h2=>v=[cV l,.str w,I i,.bool (s==w&&w != [])]/\h2=h',?_,?_⟩
  ·by_cases he:s=w
   ·subst he;simp[HI,ki h' l i s hs];cases s<;>rfl
   simp[HI,ki h' l i s hs,he]
  rintro v h2 ⟨rfl,rfl⟩;cases f:(s==w&&w != [])
  ·simp(disch:=first|go_size|fail)[EJ];refine⟨l.length-(i+1),by omega,i+1,by omega,by omega,λhw j B C r=>?_,rfl⟩;by_cases A:j=i
   ·subst A;rw[hs]at r;cases r;rintro rfl;simp[hw]at f
   exact o hw j (by omega) C r
  simp only[aI,fR,bne_iff_ne]at f;obtain⟨rfl,hw⟩:=f;have e:fA l s=i:=by unfold fA;rw[O hw,WD hs (o hw)]
  simp[EJ,Gf];rw[e]
 have g:¬(i:Int)<l.length:=by omega
 have e:fA l w = -1:=by
  unfold fA;split
  ·rfl
  rename_i hw;exact wy λj B=>o hw j (by omega)
 simp[E5,wo,g,Gf,Gm];rw[e]
variable {h':AH}{l:List Str}
theorem o_{n k:Nat}(g:h'.E k=some (l.map .str))(r:n<=k):Frz (fresh h' n) false (.rsl k 0 l.length 1) (cV l):=by
 have v:(fresh h' n).E k=some (l.map .str):=by rw[tX r];exact g
 have:=Frz.rsl (h:=fresh h' n) (n:=false) k 0 1 (l.map .str) (l.map λs=>[.str s]) v (by simp) (λi y e=>by
  rw[cA]at e;cases f:l[i]? with
  |none=>rw[f]at e;simp at e
  |some s=>rw[f]at e;simp at e;subst e;rfl) (λi y j c d e o g=>by
  rw[cA]at e;cases f:l[i]? with
  |none=>rw[f]at e;simp at e
  |some s=>
   rw[f]at e;simp at e;subst e;match j with
   |0=>
    simp at o;subst o;rw[show 0+i*1+0=i by omega,cA,f]at g;simp at g;subst g;exact .str _
   |j+1=>simp at o)
 rwa [kK]at this
def gz:List Str:=[[],Xp,Xh,YN,kj,T0,Qx]
def dY:List Str:=[abW,acP,y?,E?,M!,abQ,A?,n?,N?]
theorem IA(_:True):ab prog 39 [] h (cV gz) h:=by
 refine fU (C39 ?_);simp[g39];refine⟨?_,?_⟩
 ·exact o_ (l:=gz) cas (ay _)
 intro i hi;rw[gan]
theorem yZ(_:True):ab prog 44 [] h (cV dY) h:=by
 refine fU (C44 ?_);simp[g44];refine⟨?_,?_⟩
 ·exact o_ (l:=dY) cas (ay _)
 intro i hi;rw[gan]
def iu(s:Str)(V:RS->Val×RS):Nat->List Val->RS->List Val×RS
 |0,acc,t=>(acc,t)
 |n+1,acc,t=>if t.bad=true then(acc,t)else if cP s [93] t=true then(acc,bE s [93] t)else iu s V n (acc++[(V (if acc=[]then t else ae s t)).1]) (V (if acc=[]then t else ae s t)).2
def mM(s:Str)(V:RS->Val×RS)(t:RS):List Val×RS:=iu s V (s.length+3) [] t
def mN(s:Str)(L:RS->Val×RS)(t:RS):Val×RS:=
 if t.bad=true then(Val.zero,t)
 else if cP s eI t=true then(.mk 2 1 [] [],bE s eI t)
 else if cP s ed t=true then(.mk 2 0 [] [],bE s ed t)
 else if s[t.pos]?=some 34 then(.mk 3 0 (mD s t) [],iQ s t)
 else if cP s [91] t=true then L (bE s [91] t)
 else(.mk 1 (eg (s.drop t.pos)) [] [],ef s t)
def dF(s:Str):Nat->RS->Val×RS
 |0=>mN s λt=>(.mk 4 0 [] [],⟨t.pos,true⟩)
 |k+1=>mN s λt=>(.mk 4 0 [] (mM s (dF s k) t).1,(mM s (dF s k) t).2)
structure cq(s:Str)(t u:RS):Prop where
 le:t.pos<=u.pos
 lt:u.pos<=s.length+1
 ok:u.bad=false->t.bad=false
variable {u:RS}
theorem cq.trans{v:RS}(a:cq s t u)(b:cq s u v):cq s t v:=⟨bf a.le b.le,b.lt,λh=>a.ok (b.ok h)⟩
theorem cq.refl(h:t.pos<=s.length+1):cq s t t:=⟨ay _,h,id⟩
theorem gu(s:Str)(t:RS)(e:t.pos<=s.length+1):cq s t (ae s t):=by
 refine⟨?_,Bc e,?_⟩
 ·unfold ae;split<;>simp
 unfold ae;split
 ·exact id
 intro h;cases h
theorem ry(s w:Str)(t:RS)(e:t.pos<=s.length+1):cq s t (bE s w t):=by
 refine⟨?_,abV e,?_⟩
 ·unfold bE;split<;>simp
 unfold bE;split<;>exact id
theorem Ai(h:cP s w t=true)(e:0<w.length):t.pos<(bE s w t).pos:=by
 unfold bE;rw[Z h];simp only;omega
theorem Mq(s:Str)(t:RS)(f:t.pos<=s.length+1):cq s t (ef s t)/\((ef s t).bad=false->t.pos<(ef s t).pos):=by
 unfold ef;have g:(s.drop t.pos).length=s.length-t.pos:=bW;refine⟨⟨by simp,by simp only;omega,λh=>?_⟩,λh=>?_⟩
 ·simp only[kh]at h;exact h.1
 simp only[kh,vO]at h;have h2:=h.2;unfold jG at h2;simp only[aI,ck]at h2;have j:(fq (s.drop t.pos)).length<=(fw (s.drop t.pos)).length:=MO _ _;have o:(fw (s.drop t.pos)).length<=(s.drop t.pos).length:=by
  cases r:s.drop t.pos with
  |nil=>simp[fw]
  |cons c l=>
   by_cases e:c=45
   ·subst e;simp[fw]
   simp[fw,e]
 have v:=h2.1.1.1;simp only;omega
theorem Lj(s:Str)(c:UInt8)(t:RS)(e:s[t.pos]?=some c):cq s t (rQ1 s c t).2:=by
 have h:=xH s c t e;refine⟨by omega,by omega,?_⟩;unfold rQ1;split
 ·split
  ·simp only[kh];exact λh=>h.1
  intro h;cases h
 exact id
theorem J4(s:Str):∀(n:Nat) (out:Str) (t:RS),t.pos<=s.length->cq s t (rQL s n out t).2/\(rQL s n out t).2.pos<=s.length
 |0,out,t,e=>⟨cq.refl (Nat.le_succ_of_le e),e⟩
 |n+1,out,t,e=>by
  unfold rQL;cases f:s[t.pos]? with
  |none=>exact⟨cq.refl (by omega),e⟩
  |some c=>
   simp only;split
   ·exact⟨cq.refl (by omega),e⟩
   have g:=Lj s c t f;have h2:=J4 s n (out++[(rQ1 s c t).1]) (rQ1 s c t).2 (xH s c t f).1;exact⟨g.trans h2.1,h2.2⟩
theorem zX(s:Str)(t:RS)(f:t.pos<=s.length+1):cq s t (iQ s t)/\((iQ s t).bad=false->t.pos<(iQ s t).pos):=by
 unfold iQ;split
 ·rename_i e;have j:=(aL.1 e).1;have h2:=J4 s s.length [] ⟨t.pos+1,t.bad⟩ (by simp only;omega);have g:=h2.1.le;simp only at g;refine⟨⟨by simp only;omega,by have:=h2.2;simp only;omega,λh=>?_⟩,λ_=>by simp only;omega⟩;simp only[kh]at h;exact h2.1.ok h.1.1
 exact⟨⟨ay _,f,λh=>by cases h⟩,λh=>by cases h⟩
def wM(s:Str)(V:RS->Val×RS):Prop:=∀t,t.pos<=s.length+1->cq s t (V t).2/\((V t).2.bad=false->t.pos<(V t).2.pos)
variable {V:RS->Val×RS}
theorem rr(hV:wM s V):∀(n:Nat) (acc:List Val) (t:RS),t.pos<=s.length+1->cq s t (iu s V n acc t).2
 |0,acc,t,e=>cq.refl e
 |n+1,acc,t,e=>by
  unfold iu;split
  ·exact cq.refl e
  split
  ·exact ry s [93] t e
  have f:cq s t (if acc=[]then t else ae s t):=by
   split
   ·exact cq.refl e
   exact gu s t e
  have h2:=(hV _ f.lt).1;exact(f.trans h2).trans (rr hV n _ _ h2.lt)
variable {L:RS->Val×RS}
theorem ZH(g:∀t,t.pos<=s.length+1->cq s t (L t).2):wM s (mN s L):=by
 intro t e;unfold mN;split
 ·rename_i hb;exact⟨cq.refl e,λh=>by simp only at h;rw[hb]at h;cases h⟩
 split
 ·rename_i hs;exact⟨ry s _ t e,λ_=>Ai hs (by decide)⟩
 split
 ·rename_i hs;exact⟨ry s _ t e,λ_=>Ai hs (by decide)⟩
 split
 ·exact zX s t e
 split
 ·rename_i hs;have f:=ry s [91] t e;have h2:=g _ f.lt;exact⟨f.trans h2,λ_=>gq (Ai hs (by decide)) h2.le⟩
 exact Mq s t e
theorem oV(s:Str):∀k,wM s (dF s k)
 |0=>ZH λt e=>⟨ay _,e,λh=>by cases h⟩
 |k+1=>ZH λt e=>rr (oV s k) _ _ _ e
def ky(s:Str)(t:RS):Nat:=if t.bad=true then 0 else s.length+2-t.pos
def xD(s:Str)(V:RS->Val×RS)(d:Int):Prop:=∀(h:AH) (id:Nat) (t:RS),h.E id=some (rdC ⟨s,t⟩)->id<h.nx->(Rd.mk s t).Ok->ab prog 52 [.ptr id 0,I d] h (.agg (vC (V t).1)) (h.set id (.cells (rdC ⟨s,(V t).2⟩)))
variable {d:Int}
theorem afZ(f:xD s V d)(g:h.E id=some (rdC ⟨s,t⟩))(e:id<h.nx)(j:(Rd.mk s t).Ok)
  (o:Q (.agg (vC (V t).1)) (h.set id (.cells (rdC ⟨s,(V t).2⟩)))):tU prog 52 [.ptr id 0,I d] h Q:=sD (f h id t g e j) o
structure RI(h h':AH)(id:Nat)(s:Str)(t:RS):Prop where
 ob:Ob h h' id (rdC ⟨s,t⟩)
 r0:h'.E h.nx=some z4
 nx:h.nx+1<=h'.nx
theorem RI.set(l:RI h h' id s t)(e:id<h.nx)(u:RS):RI h (h'.set id (.cells (rdC ⟨s,u⟩))) id s u:=
 ⟨l.ob.set _,by rw[csn];exact l.r0,l.nx⟩
theorem RI.bump(l:RI h h' id s t)(e:h'.nx<=k):RI h ⟨h'.H,k⟩ id s t:=⟨l.ob.bump _ e,l.r0,bf l.nx e⟩
theorem RI.fin(l:RI h h' id s t)(e:id<h.nx)(o:bg):Ob h (h'.set h.nx o) id (rdC ⟨s,t⟩):=l.ob.app e (ay _) λi hi=>by rw[gsn]
def RQ(h:AH)(id:Nat)(s:Str)(r:Val×RS):QT:=λx h'=>Frz (fresh h' h.nx) false x (.agg (vC r.1))/\Ob h h' id (rdC ⟨s,r.2⟩)
theorem Z2(hc:h.E id=some (rdC ⟨s,t⟩))(e:id<h.nx)(B:(Rd.mk s t).Ok)
  (hq:∀h2,t.bad=false->RI h h2 id s (bE s [91] t)->(bE s [91] t).bad=false/\1<=(bE s [91] t).pos->qz (xI (.ptr id 0) (I d) (.ptr h.nx 0) h2) λK W=>Bz (aa K 0) (aa K 1) (aa K 2) W (RQ h id s (L (bE s [91] t)))):g52 (.ptr id 0) (I d) h (RQ h id s (mN s L t)):=by
 have hs:=B.1;have hp:=B.2;simp only at hs hp;have P:id≠h.nx:=by omega
 have hl:RI h (h.add (.cells z4)) id s t:=⟨(Ob.start hc).new e (by simp) λi hi=>by rw[gan],cas,by simp⟩;have J:h.add (.cells [I 0,I 0,.str [],.D])=h.add (.cells z4):=rfl;have v:h.E id=some [.str s,I t.pos,.bool t.bad]:=hc;unfold mN;cases hb:t.bad
 ·rw[hb]at v;simp[g52,v,P];rw[J];generalize h.add (.cells z4)=h1 at*;refine sD (Ay (x:=⟨s,t⟩) (w:=eI) hl.ob.c (hl.ob.lt e) ⟨B,by decide⟩) ?_;have g:=hl.set e (bE s eI t);have ar:=ry s eI t hp;simp only at g ⊢;have R:(h1.set id (.cells (rdC ⟨s,bE s eI t⟩))).E h.nx=some [I 0,I 0,.str [],.D]:=g.r0;cases ad:cP s eI t
  ·have N:bE s eI t=t:=by unfold bE;rw[ad];rfl
   rw[N]at g R ⊢;generalize h1.set id (.cells (rdC ⟨s,t⟩))=h2 at*;simp[];refine sD (Ay (x:=⟨s,t⟩) (w:=ed) g.ob.c (g.ob.lt e) ⟨B,by decide⟩) ?_;have j:=g.set e (bE s ed t);simp only at j ⊢;have S:(h2.set id (.cells (rdC ⟨s,bE s ed t⟩))).E h.nx=some [I 0,I 0,.str [],.D]:=j.r0;cases af:cP s ed t
   ·have N:bE s ed t=t:=by unfold bE;rw[af];rfl
    rw[N]at j S ⊢;generalize h2.set id (.cells (rdC ⟨s,t⟩))=W at*;simp[];have z:W.E id=some [.str s,I t.pos,.bool t.bad]:=j.ob.c;refine⟨λK M=>K=[.ptr id 0,I d,.ptr h.nx 0,.bool (s[t.pos]?== some 34)]/\RI h M id s t,?_,?_⟩
    ·by_cases aj:t.pos<s.length
     ·obtain⟨c,T⟩:∃c,s[t.pos]?=some c:=⟨s[t.pos],bF aj⟩;have r:(t.pos:Int)<s.length:=by omega
      have k1:=za c;rw[T];simp[F2,z,Fp,z,r,Ff,z,dA T,k1];exact j.bump (by simp)
     have r:¬(t.pos:Int)<s.length:=by omega
     have hn:s[t.pos]?=none:=by rw[jO];omega
     rw[hn];simp[F2,z,Fp,r,Ff];exact j.bump (by simp)
    rintro K M ⟨rfl,o⟩;by_cases A:s[t.pos]?=some 34
    ·rw[Z A,A];simp[D5];refine sD (Ox (x:=⟨s,t⟩) o.ob.c (o.ob.lt e) B) ?_;have f:=o.set e (iQ s t);simp only at f ⊢;have al:(M.set id (.cells (rdC ⟨s,iQ s t⟩))).E h.nx=some [I 0,I 0,.str [],.D]:=f.r0;generalize M.set id (.cells (rdC ⟨s,iQ s t⟩))=h5 at*;simp[al];exact⟨qn il,f.fin e _⟩
    have U:(s[t.pos]?== some 34)=false:=by simp[A]
    rw[O A,U];simp[D5];refine sD (Ay (x:=⟨s,t⟩) (w:=[91]) o.ob.c (o.ob.lt e) ⟨B,by decide⟩) ?_;have f:=o.set e (bE s [91] t);simp only at f ⊢;cases C:cP s [91] t
    ·have N:bE s [91] t=t:=by unfold bE;rw[C];rfl
     rw[N]at f ⊢;generalize M.set id (.cells (rdC ⟨s,t⟩))=h5 at*;simp[];refine sD (Ng (x:=⟨s,t⟩) f.ob.c (f.ob.lt e) B) ?_;have G:=f.set e (ef s t);simp only at G ⊢;have an:(h5.set id (.cells (rdC ⟨s,ef s t⟩))).E h.nx=some [I 0,I 0,.str [],.D]:=G.r0;generalize h5.set id (.cells (rdC ⟨s,ef s t⟩))=h6 at*;simp[an];exact⟨qn il,G.fin e _⟩
    have ao:(bE s [91] t).bad=false:=by unfold bE;rw[Z C];exact hb
    have:=hq _ hb f ⟨ao,vN (fJ _) (Ai C (by decide))⟩;generalize M.set id (.cells (rdC ⟨s,bE s [91] t⟩))=h5 at*;simp[];exact this
   generalize h2.set id (.cells (rdC ⟨s,bE s ed t⟩))=W at*;simp[S];exact⟨qn il,j.fin e _⟩
  generalize h1.set id (.cells (rdC ⟨s,bE s eI t⟩))=h2 at*;simp[R];exact⟨qn il,g.fin e _⟩
 rw[hb]at v;simp[g52,v,P];exact⟨qn il,hl.fin e _⟩
structure RL(h hb h':AH)(id k5:Nat)(s:Str)(t:RS)(lv:AV)(acc:List Val):Prop where
 ob:Ob h h' id (rdC ⟨s,t⟩)
 r0:h'.E h.nx=some z4
 r1:h'.E k5=some [I 4,I 0,.str [],lv]
 nx:hb.nx<=h'.nx
 ol:OL 4 hb h' lv acc.length (cw acc)
variable {hb:AH}{k5:Nat}{lv:AV}{acc:List Val}
theorem RL.set(l:RL h hb h' id k5 s t lv acc)(e:id<h.nx)(f:h.nx<k5/\k5<hb.nx)(u:RS):RL h hb (h'.set id (.cells (rdC ⟨s,u⟩))) id k5 s u lv acc:=
 ⟨l.ob.set _,by rw[csn];exact l.r0,by rw[csn];exact l.r1,l.nx,l.ol.set (by omega) _⟩
theorem RL.bump(l:RL h hb h' id k5 s t lv acc)(e:h'.nx<=k):RL h hb ⟨h'.H,k⟩ id k5 s t lv acc:=
 ⟨l.ob.bump _ e,l.r0,l.r1,bf l.nx e,l.ol.bump e⟩
theorem Rb{U:AH}(j:id<h.nx)(hs:s.length<=1000000000)(hd:0<=d/\d<=1000)(hu:u.pos<=s.length+1/\1<=u.pos)(aj:RI h U id s u)(hK:wM s V)
  (aw:u.bad=false->∀(h:AH) (t:RS) (Q:QT),h.E id=some (rdC ⟨s,t⟩)->id<h.nx->(Rd.mk s t).Ok->Q (.agg (vC (V t).1)) (h.set id (.cells (rdC ⟨s,(V t).2⟩)))->tU prog 52 [.ptr id 0,I (d+1)] h Q):
  Bz (.ptr id 0) (I d) (.ptr h.nx 0) U (RQ h id s (.mk 4 0 [] (mM s V u).1,(mM s V u).2)):=by
 have ca:=aj.nx;have cb:id≠U.nx:=by omega
 simp[Bz];obtain⟨k5,aT⟩:∃k5,k5=U.nx:=⟨_,rfl⟩;obtain⟨hb,J⟩:∃hb:AH,hb=(U.add (.cells z4)).set U.nx (.cells [I 4,I 0,.str [],.D]):=⟨_,rfl⟩;have hbn:h.nx<k5/\k5<hb.nx:=by rw[J];simp;omega
 have hl:RL h hb hb id k5 s u .D []:=by
  rw[J,aT];refine⟨?_,?_,cse,ay _,OL.start _ _ _⟩
  ·refine aj.ob.new j (by simp) λi hi=>?_
   rw[gsn,gan]
  rw[csn,can];exact aj.r0
 have v:(U.add (.cells [I 0,I 0,.str [],.D])).set U.nx (.cells [I 4,I 0,.str [],.D])=hb:=by rw[J];rfl
 rw[v,<-aT];clear v J;have aS:iu s V (s.length+3) [] u=mM s V u:=rfl;generalize hR:mM s V u=R at*;refine⟨λm W h'=>∃acc t lv,W=[.ptr id 0,I d,.ptr h.nx 0,.ptr k5 0]/\RL h hb h' id k5 s t lv acc/\t.pos<=s.length+1/\ky s t<=m/\iu s V m acc t=R/\(t.bad=false->acc.length+1<=t.pos)/\acc.length<=s.length+2/\(t.bad=false->u.bad=false),s.length+3,?_,?_⟩
 ·exact⟨[],u,.D,rfl,hl,hu.1,by unfold ky;split<;>omega,aS,λ_=>by simpa using hu.2,by simp,λh=>h⟩
 rintro m W h' ⟨acc,t,lv,rfl,hl,hp,hm,hq,hlen,b6,a1⟩;have hx:(Rd.mk s t).Ok:=⟨hs,hp⟩;have K:h'.E id=some [.str s,I t.pos,.bool t.bad]:=hl.ob.c;simp[Vd];refine⟨λW h4=>W=[.ptr id 0,I d,.ptr h.nx 0,.ptr k5 0,.bool (!t.bad && !(cP s [93] t))]/\RL h hb h4 id k5 s (if t.bad=true then t else bE s [93] t) lv acc,?_,?_⟩
 ·cases e:t.bad
  ·rw[e]at K;simp[Ev,K];refine sD (Ay (x:=⟨s,t⟩) (w:=[93]) hl.ob.c (hl.ob.lt j) ⟨hx,by decide⟩) ?_;have:=hl.set j hbn (bE s [93] t);simp only at this ⊢;generalize h'.set id (.cells (rdC ⟨s,bE s [93] t⟩))=g at*;simp[];exact this
  rw[e]at K;simp[Ev,K];exact hl
 rintro W h4 ⟨rfl,f⟩;cases o:(!t.bad && !(cP s [93] t))
 ·have ad:iu s V m acc t=(acc,if t.bad=true then t else bE s [93] t):=by
   cases m with
   |zero=>
    unfold ky at hm;split at hm
    ·rename_i e;rw[Z e];rfl
    omega
   |succ m=>
    unfold iu;cases e:t.bad
    ·rw[e]at o;simp at o;simp[o]
    simp
  generalize(if t.bad=true then t else bE s [93] t)=t4 at*;rw[hq]at ad;subst ad;have al:=f.r1;have bd:h4.E h.nx=some [I 0,I 0,.str [],.D]:=f.r0;simp[FT,UZ,EW,al,bd,kx f.ol];have cc:=f.nx;have bk:OL 4 hb (h4.set h.nx (.cells [I 4,I 0,.str [],lv])) lv acc.length (cw acc):=f.ol.aY (ay _) λi hi _=>by rw[gsn]
  exact⟨qn (sn bk (by omega)),f.ob.app j (ay _) λi hi=>by rw[gsn]⟩
 simp only[aI,j7]at o;obtain⟨e,af⟩:=o;have et:(if t.bad=true then t else bE s [93] t)=t:=by rw[e];unfold bE;rw[af];rfl
 rw[et]at f;obtain⟨m,rfl⟩:∃k,m=k+1:=⟨m-1,by unfold ky at hm;rw[e]at hm;simp at hm;omega⟩;have M:=hq;unfold iu at M;rw[e,af]at M;simp only[dT,bH]at M;have al:=f.r1;simp[FT,al,D0 f.ol];have N:cq s t (if acc=[]then t else ae s t):=by
  split
  ·exact cq.refl hp
  exact gu s t hp
 refine⟨λW g=>W=[.ptr id 0,I d,.ptr h.nx 0,.ptr k5 0]/\RL h hb g id k5 s (if acc=[]then t else ae s t) lv acc,?_,?_⟩
 ·by_cases ha:acc=[]
  ·subst ha;simp[Gu];exact f
  have a6:0<acc.length:=j5.2 ha;simp[Gu,ha,a6];refine sD (s_ (x:=⟨s,t⟩) f.ob.c (f.ob.lt j) hx) ?_;exact f.set j hbn _
 rintro W g ⟨rfl,r⟩;generalize(if acc=[]then t else ae s t)=w at*;have P:=hK w N.lt;have a7:=r.r1;simp(disch:=first|go_size|fail)[Wn,a7];refine aw (a1 e) _ w _ r.ob.c (by have:=r.ob.lt j;simp;omega) ⟨hs,N.lt⟩ ?_;have an:=(r.bump (k:=g.nx+10) (by omega)).set j hbn (V w).2;refine⟨by simp,?_⟩;generalize cd:V w=vu at*;obtain⟨⟨z,A,B,C⟩,G⟩:=vu;simp only[vC]at*;have cf:=r.nx;have a8:bT (.read k5) (.eff (AH.mk g.H (g.nx+10)) ((AH.mk g.H (g.nx+10)).set id (.cells (rdC ⟨s,G⟩))))=true:=kM _ _ _ _ (by omega);have S:RL h hb (((AH.mk g.H (g.nx+10)).set id (.cells (rdC ⟨s,G⟩))).set (g.nx+6) (.cells [I z,I A,.str B,.psl (vCs C)])) id k5 s G lv acc:=by
  refine⟨an.ob.app j (ay _) λi hi=>by rw[gsn],?_,?_,by simp;omega,?_⟩
  ·rw[csn];exact an.r0
  ·rw[csn];exact an.r1
  exact r.ol.aY (by simp) λi hi cl=>by rw[gsn,gsn]
 have bp:(((AH.mk g.H (g.nx+10)).set id (.cells (rdC ⟨s,G⟩))).set (g.nx+6) (.cells [I z,I A,.str B,.psl (vCs C)])).E (g.nx+6)=some [I z,I A,.str B,.psl (vCs C)]:=cse;have bs:(((AH.mk g.H (g.nx+10)).set id (.cells (rdC ⟨s,G⟩))).set (g.nx+6) (.cells [I z,I A,.str B,.psl (vCs C)])).nx=g.nx+10:=rfl;have bx:aQ [I 0,I 0,.str [],.D] [(0,4,.agg [I z,I A,.str B,.psl (vCs C)])]=some [I z,I A,.str B,.psl (vCs C)]:=rfl;obtain⟨ao,h8,bY,ar,b0,av⟩:=qf (bytes:=56) S.ol (by omega) bp rfl rfl (by have:=hlen e;omega) (by omega);rw[bx];simp(disch:=first|go_size|fail)[];refine gS bY (by omega) ?_;rw[bs]at b0;have b1:h8.E k5=some [I 4,I 0,.str [],lv]:=by rw[aV (av k5 (by omega))];exact S.r1
 have b2:Ob h h8 id (rdC ⟨s,G⟩):=S.ob.app j (by omega) λi hi=>av i (by omega)
 have ba:h8.E h.nx=some z4:=by rw[aV (av h.nx (by omega))];exact S.r0
 have b7:=kx ar;have bb:bT (.read k5) (.alloc (g.nx+6) (.cells [I z,I A,.str B,.psl (vCs C)]))=true:=by
  rw[vR];simp;omega
 generalize(((AH.mk g.H (g.nx+10)).set id (.cells (rdC ⟨s,G⟩))).set (g.nx+6) (.cells [I z,I A,.str B,.psl (vCs C)]))=h7 at*;simp[Xr,a8,bb];have b3:kSt h8 1 (.ptr k5 3) ao=some (.undef,h8.set k5 (.cells [I 4,I 0,.str [],ao])):=by
  have b4:=ar;rcases b4 with⟨_,h0,_⟩|⟨k,b5,_⟩
  ·omega
  rw[b5];simp[b1]
 refine gS b3 (by simp) ?_;refine⟨m,by omega,acc++[.mk z A B C],G,⟨ao,?_,?_,cse,by simp;omega,?_⟩,P.1.lt,?_,M,?_,?_,?_⟩
 ·exact b2.app j (by simp) λi hi=>by rw[gsn]
 ·rw[csn];exact ba
 ·rw[rD,au];exact ar.aY (by simp) λi hi _=>by rw[gsn]
 ·unfold ky at hm ⊢;rw[e]at hm;simp only[dT,bH]at hm;cases T:G.bad
  ·have:=P.2 T;have:=N.le;have:=P.1.lt;simp only[dT,bH];omega
  simp
 ·intro T;have:=P.2 T;have:=N.le;have:=hlen e;rw[au];simp only[dP];omega
 ·have:=hlen e;rw[au];simp only[dP];omega
 intro T;exact a1 e
theorem adk(A:d=17):xD s (dF s 0) d:=by
 intro h id t B hid f;have hs:=f.1;have hp:=f.2;simp only at hs hp;refine rL (R:=RQ h id s (dF s 0 t)) hid (nK _) (C52 (Z2 (L:=λt=>(.mk 4 0 [] [],⟨t.pos,true⟩)) B hid f λh2 hb r ⟨g,j⟩=>?_)) λG h' C=>C
 have hu:=(ry s [91] t hp).lt;generalize bE s [91] t=u at*;have e:h2.E id=some [.str s,I u.pos,.bool u.bad]:=r.ob.c;subst A;refine⟨λv z=>v=[.ptr id 0,I 17,.ptr h.nx 0]/\RI h z id s ⟨u.pos,true⟩,?_,?_⟩
 ·rw[g]at e;simp[xI,e,G6,e];exact r.set hid ⟨u.pos,true⟩
 rintro v z ⟨rfl,o⟩;exact Rb (u:=⟨u.pos,true⟩) (V:=dF s 0) hid hs ⟨by omega,by omega⟩ ⟨hu,j⟩ o (oV s 0) λh=>by cases h
theorem adB(M:0<=d/\d<=16)(B:xD s (dF s k) (d+1)):xD s (dF s (k+1)) d:=by
 intro h id t C hid j;have hs:=j.1;have hp:=j.2;simp only at hs hp;refine rL (R:=RQ h id s (dF s (k+1) t)) hid (nK _) (C52 (Z2 (L:=λt=>(.mk 4 0 [] (mM s (dF s k) t).1,(mM s (dF s k) t).2)) C hid j λh2 hb z ⟨f,o⟩=>?_)) λN h' G=>G
 have hu:=(ry s [91] t hp).lt;generalize bE s [91] t=u at*;have e:h2.E id=some [.str s,I u.pos,.bool u.bad]:=z.ob.c;refine⟨λA g=>A=[.ptr id 0,I d,.ptr h.nx 0]/\RI h g id s u,?_,?_⟩
 ·have r:¬16<d:=by omega
  obtain⟨up,P⟩:=u;simp only at f e;subst f;simp[xI,e,G6,e,r];exact z.set hid ⟨up,false⟩
 rintro A g ⟨rfl,v⟩;exact Rb (u:=u) (V:=dF s k) hid hs ⟨by omega,by omega⟩ ⟨hu,o⟩ v (oV s k) λ_ h t Q J h2 g K=>afZ B J h2 g K
theorem V8(s:Str):∀(k:Nat) (d:Int),d+k=17->0<=d->xD s (dF s k) d
 |0,d,e,_=>adk (by omega)
 |k+1,d,e,f=>adB ⟨f,by omega⟩ (V8 s k (d+1) (by omega) (by omega))
theorem aaB(f:h.E id=some (rdC x))(e:id<h.nx)(g:x.Ok):ab prog 52 [.ptr id 0,I 1] h (.agg (vC (dF x.s 16 x.t).1)) (h.set id (.cells (rdC ⟨x.s,(dF x.s 16 x.t).2⟩))):=
 V8 x.s 16 1 (by omega) (by omega) h id x.t f e g
def jS:Str:=[115,112,97,99,101]
def bl:List Str:=[[99,116,114,108],[97,108,116],[115,104,105,102,116],[109,101,116,97]]
def dS:List Str:=[[],[116,97,98],[101,110,116,101,114],[101,115,99,97,112,101],[98,97,99,107,115,112,97,99,101],[100,101,108,101,116,101],[108,101,102,116],[114,105,103,104,116],[117,112],[100,111,119,110],[104,111,109,101],[101,110,100],[102,49],[102,50],[102,51],[102,52],[102,53],[102,54],[102,55],[102,56],[102,57],[102,49,48],[102,49,49],[102,49,50]]
def qJ(i:Nat)(x:Str×Nat):Str×Nat:=
 if((bl.getD i [])++[43]).length<x.1.length/\x.1.take ((bl.getD i [])++[43]).length=(bl.getD i [])++[43]then(x.1.drop ((bl.getD i [])++[43]).length,x.2+2^i)else x
def dC(w:Str):Nat->Str×Nat
 |0=>(w,0)
 |i+1=>qJ i (dC w i)
def kB(w:Str):Nat->Int
 |0=>0
 |k+1=>if dS.getD (k+1) []=w then((k+1:Nat):Int)else kB w k
def jV(w:Str):Int:=
 let k:=if w=jS then 32 else kB w 23
 if k=0/\(ak w).length=1/\32<(ak w).headD 0 then(ak w).headD 0 else k
def ga(k m:Int):Bool:=
 decide (0<=m)&&decide (m<=15)&&((decide (1<=k)&&decide (k<=23))||(decide (32<=k)&&decide (k<=1114111)&&(decide (k<55296)||decide (57343<k))&&(decide (k<65)||decide (90<k))))
theorem kQ(k m:Int):ga k m=decide (0<=m/\m<=15/\((1<=k/\k<=23)\/(32<=k/\k<=1114111/\(k<55296\/57343<k)/\(k<65\/90<k)))):=by
 simp[ga,zS,Bool.decide_or,Bool.and_assoc]
def eQ(k:Int):Str:=if k<=23 then dS.getD k.toNat []else if k=32 then jS else e_ k
def dU(w:Str):Int×Int×Bool:=
 (jV (dC w 4).1,((dC w 4).2:Int),decide (0<jV (dC w 4).1)&&ga (jV (dC w 4).1) (dC w 4).2&&(eQ (jV (dC w 4).1)==(dC w 4).1))
theorem XW(h:AH)(i:Nat)(e:i<9):aG h .shl (I 1) (.int .u64 i)=some (I ((2^i:Nat):Int),h):=by
 have:i=0\/i=1\/i=2\/i=3\/i=4\/i=5\/i=6\/i=7\/i=8:=by omega
 rcases this with rfl|rfl|rfl|rfl|rfl|rfl|rfl|rfl|rfl<;>rfl
theorem sS(i:Nat)(e:i<9):IntKind.u64.wrap (i:Int)=i:=by
 simp only[IntKind.wrap,IntKind.bits,IntKind.signed];simp;omega
variable {b:Nat}
theorem OX(h2:b<=s.length):iD h (.str s) none (some (I b))=some (.str (s.take b),h):=by
 have q2:(b:Int)<=s.length:=by omega
 simp[iD,qh,abd,hJ,q2]
theorem Lw{a:Nat}(e:a<=s.length):iD h (.str s) (some (I a)) none=some (.str (s.drop a),h):=by
 have q1:(a:Int)<=s.length:=by omega
 simp[iD,qh,abd,hJ,q1];rw[dH];rw[bW];omega
theorem V7(_:True):ab prog 114 [] h (cV bl) h:=by
 refine fU (ahX ?_);simp[YF];refine⟨?_,?_⟩
 ·exact o_ (l:=bl) cas (ay _)
 intro i hi;rw[gan]
theorem Fu(_:True):ab prog 115 [] h (cV dS) h:=by
 refine fU (ahU ?_);simp[Yj];refine⟨?_,?_⟩
 ·exact o_ (l:=dS) cas (ay _)
 intro i hi;rw[gan]
theorem Np(k m:Int)(_:True):ab prog 82 [.agg [I k,I m]] h (.bool (ga k m)) h:=by
 refine nM (C82 ?_);simp[g82];have f:(h.add (.cells [I k,I m])).E h.nx=some [I k,I m]:=cas;have r:∀i,i<h.nx->(h.add (.cells [I k,I m])).H.get i=h.H.get i:=λi hi=>by rw[gan]
 have j:h.nx<=(h.add (.cells [I k,I m])).nx:=by simp
 generalize h.add (.cells [I k,I m])=v at*;refine⟨λe h'=>e=[.ptr h.nx 0,.bool (!(decide (0<=m)&&decide (m<=15)))]/\h'=v,?_,?_⟩
 ·simp[U7,f];refine⟨λh=>.inl h,λh=>?_⟩;have:decide (0<=m)=true:=by simpa using h
  rw[this];by_cases g:15<m
  ·have:¬m<=15:=by omega
   simp[g,this]
  have:m<=15:=by omega
  simp[g,this]
 rintro e h' ⟨rfl,rfl⟩;have o:=eq_true r;by_cases hm:0<=m/\m<=15
 ·simp[E8,hm,f];refine⟨λe h2=>e=[I k,.bool (decide (1<=k)&&decide (k<=23))]/\h2=h',?_,?_⟩
  ·simp[S9];omega
  rintro e h2 ⟨rfl,rfl⟩;simp[UO,Vk,j,o,W6,j,o];simp only[kQ,ck,jx,pY];omega
 simp[E8,hm,j,o];intro _;simp only[ga,pW,jx];omega
variable {i:Nat}
theorem ik(h:i<l.length):l[i]?=some (l.getD i []):=by
 rw[gF,bF h];rfl
theorem wx(k:Int):(e_ k).length<=4:=by
 rw[nR];have:=Lib.encodeRuneZ_length k;unfold Lib.encodeRune;rw[kK];exact this.2
theorem afM(k:Int)(P:1<=k/\k<=1114111/\(k<=23\/32<=k)):ab prog 83 [.agg [I k,I 0]] h (.str (eQ k)) h:=by
 refine nM (C83 ?_);simp[g83];have f:(h.add (.cells [I k,I 0])).E h.nx=some [I k,I 0]:=cas;have K:∀i,i<h.nx->(h.add (.cells [I k,I 0])).H.get i=h.H.get i:=λi hi=>by rw[gan]
 have G:h.nx<=(h.add (.cells [I k,I 0])).nx:=by simp
 generalize h.add (.cells [I k,I 0])=M at*;refine⟨λn v h'=>∃i:Nat,v=[.ptr h.nx 0,.str [],I i]/\h'=M/\i<=4/\n=4-i,4,?_,?_⟩
 ·exact⟨0,rfl,rfl,by omega,rfl⟩
 rintro n v h' ⟨i,rfl,rfl,hi,rfl⟩;by_cases R:i<4
 ·have o:(i:Int)<4:=by omega
  simp[xp,o];refine⟨λv h2=>v=[.ptr h.nx 0,.str [],I i]/\h2=h',?_,?_⟩
  ·have:i=0\/i=1\/i=2\/i=3:=by omega
   have C:aG h' .shr (I 0) (.int .u64 i)=some (I 0,h'):=by rcases this with rfl|rfl|rfl|rfl<;>rfl
   have hand:aG h' .and (I 0) (I 1)=some (I 0,h'):=rfl;simp[yd,f,sS i (by omega),C,hand]
  rintro v h2 ⟨rfl,rfl⟩;simp(disch:=first|go_size|fail)[Fc];exact⟨4-(i+1),by omega,i+1,by omega,by omega,rfl⟩
 have o:¬(i:Int)<4:=by omega
 simp[xp,o,EA];have A:=eq_true K;by_cases g:k<=23
 ·have j:k.toNat<dS.length:=by show k.toNat<24;omega
  have J:=ki ⟨h'.H,h'.nx+8⟩ dS k.toNat _ (ik j);have e:((k.toNat:Nat):Int)=k:=by omega
  rw[e]at J;simp[qI,f,g];refine sD (Fu trivial) ?_;simp[f];rw[J];have hw:(dS.getD k.toNat []).length<=1000:=by
   have:=cQ (ik j);exact(by decide:∀w∈dS,w.length<=1000) _ this
  have B:eQ k=dS.getD k.toNat []:=by unfold eQ;rw[Z g]
  rw[B];generalize dS.getD k.toNat []=W at*;simp[Er];rw[aU (by simp;omega)];simp[A];omega
 by_cases r:k=32
 ·subst r;simp[qI,f];rw[aU (by decide)];simp[G,A];rfl
 have B:eQ k=e_ k:=by unfold eQ;rw[O g,O r]
 rw[B];have z:IntKind.i32.wrap k=k:=by simp only[IntKind.wrap,IntKind.bits,IntKind.signed];simp;omega
 have N:∀h:AH,kX h .i2s [.int .i32 k]=some (.str (e_ k),h):=λh=>rfl
 simp[qI,f,g,r,EE,z,N];rw[aU (by have:=wx k;simp;omega)];simp[G,A]
theorem adb(i:Nat):(bl.getD i []).length<=10:=by
 by_cases h:i<4
 ·exact(by decide:∀w∈bl,w.length<=10) _ (cQ (ik (l:=bl) h))
 have:bl.getD i []=[]:=by rw[gF,j_ (by show 4<=i;omega)];rfl
 rw[this];simp
theorem NY(w:Str):∀i,(dC w i).1.length<=w.length
 |0=>ay _
 |i+1=>by
  have:=NY w i;simp only[dC,qJ];split
  ·simp only[bW];omega
  exact this
theorem Pn(w:Str):∀i,(dC w i).2<2^i
 |0=>by simp[dC]
 |i+1=>by
  have:=Pn w i;simp only[dC,qJ];rw[tP];split
  ·simp only;omega
  omega
structure SK(h h':AH)(k:Int)(m:Nat):Prop where
 r0:h'.E h.nx=some [I 0,I 0]
 r1:h'.E (h.nx+1)=some [I k,I m]
 nx:h.nx+2<=h'.nx
 get:∀i,i<h.nx->h'.H.get i=h.H.get i
variable {m:Nat}
theorem SK.set{k:Int}(s:SK h h' k m)(e:Int)(f:Nat):SK h (h'.set (h.nx+1) (.cells [I e,I f])) e f:=
 ⟨by rw[csn];exact s.r0,cse,s.nx,λi hi=>by rw[gsn];exact s.get i hi⟩
theorem SK.new{h2:AH}{k:Int}(s:SK h h' k m)(f:h'.nx<=h2.nx)(e:∀i,i<h'.nx->h2.H.get i=h'.H.get i):SK h h2 k m:=
 have n1:=s.nx
 ⟨by rw[aV (e _ (by omega))];exact s.r0,by rw[aV (e _ (by omega))];exact s.r1,by omega,λi hi=>by rw[e i (by omega)];exact s.get i hi⟩
theorem S!(w:Str)(hw:w.length<=1000000000):ab prog 86 [.str w] h (.tup [.agg [I (dU w).1,I (dU w).2.1],.bool (dU w).2.2]) h:=by
 refine kY (R:=λv h'=>v =.tup [.agg [I (dU w).1,I (dU w).2.1],.bool (dU w).2.2]/\h.nx<=h'.nx/\∀i,i<h.nx->h'.H.get i=h.H.get i) (C86 ?_) λv' h' ⟨h1,h2,S⟩=>⟨?_,h2,S⟩
 ·simp[g86];have a6:((h.add (.cells [I 0,I 0])).add (.cells [I 0,I 0])).set (h.nx+1) (.cells [I 0,I 0])=((h.add (.cells [I 0,I 0])).add (.cells [I 0,I 0])).set (h.nx+1) (.cells [I 0,I (dC w 0).2]):=rfl;rw[a6];have hS:SK h (((h.add (.cells [I 0,I 0])).add (.cells [I 0,I 0])).set (h.nx+1) (.cells [I 0,I (dC w 0).2])) 0 (dC w 0).2:=by
   refine⟨?_,cse,by simp,λi hi=>?_⟩
   ·rw[csn,can];exact cas
   rw[gsn,gan,gan]
  generalize((h.add (.cells [I 0,I 0])).add (.cells [I 0,I 0])).set (h.nx+1) (.cells [I 0,I (dC w 0).2])=h1 at*;refine⟨λn e h'=>∃i:Nat,e=[.str (dC w i).1,.ptr h.nx 0,.ptr (h.nx+1) 0,I i]/\SK h h' 0 (dC w i).2/\i<=4/\n=4-i,4,?_,?_⟩
  ·exact⟨0,rfl,hS,by omega,rfl⟩
  rintro n e h' ⟨i,rfl,hS,hi,rfl⟩;have hl:=NY w i;have hm:=Pn w i;by_cases g:i<4
  ·have bb:(i:Int)<4:=by omega
   have hx:=λh=>ki h bl i _ (ik (l:=bl) g)
   have b3:=adb i;have e1:dC w (i+1)=qJ i (dC w i):=rfl;unfold qJ at e1;generalize hy:dC w (i+1)=y at*;generalize b4:dC w i=x at*;obtain⟨u,m⟩:=x;simp only at*;simp[E6,bb];refine⟨λe h2=>e=[.str y.1,.ptr h.nx 0,.ptr (h.nx+1) 0,I i]/\SK h h2 0 y.2,?_,?_⟩
   ·simp[Uo];refine sD (V7 trivial) ?_;simp[TL];rw[hx];generalize bl.getD i []=N at*;simp[];rw[aU (by simp;omega)];generalize hN:N++[43]=B at*;have b5:B.length<=11:=by rw[<-hN];simp;omega
    simp[];refine⟨λe h2=>e=[.str u,.ptr h.nx 0,.ptr (h.nx+1) 0,I i,.str B,.bool (decide (B.length<u.length)&&(u.take B.length==B))]/\h2=h',?_,?_⟩
    ·by_cases ao:B.length<u.length
     ·have J:(B.length:Int)<u.length:=by omega
      simp[Es,J,OX (Nat.le_of_lt ao),ET,ao]
     have J:¬(B.length:Int)<u.length:=by omega
     simp[Es,J,ET,ao]
    rintro e h2 ⟨rfl,rfl⟩;have z:=hS.r1;cases f:(decide (B.length<u.length)&&(u.take B.length==B))
    ·have:y=(u,m):=by
      rw[e1,O];rintro⟨q1,q2⟩;simp[q1,q2]at f
     subst this;simp(disch:=first|go_size|fail)[Hw];exact hS
    simp only[aI,ck,fR]at f;have:y=(u.drop B.length,m+2^i):=by rw[e1,Z f]
    subst this;have b6:2^i<=8:=by
     have:i=0\/i=1\/i=2\/i=3:=by omega
     rcases this with rfl|rfl|rfl|rfl<;>decide
    have b7:m<=8:=by omega
    simp(disch:=first|go_size|fail)[Hw,z,sS i (by omega),XW _ i (by omega),We];have e2:(2:Int)^i=((2^i:Nat):Int):=by simp
    rw[e2];generalize 2^i=P at*;simp(disch:=first|go_size|fail)[z,Lw (Nat.le_of_lt f.1)];exact hS.set 0 (m+P)
   rintro e h2 ⟨rfl,ar⟩;simp(disch:=first|go_size|fail)[Xi];exact⟨4-(i+1),by omega,i+1,⟨by rw[hy],by omega⟩,by rw[hy];exact ar,by omega,rfl⟩
  obtain rfl:i=4:=by omega
  unfold dU;generalize dC w 4=x at*;obtain⟨u,m⟩:=x;simp only at*;have bd:(h'.add (.cells ((ak u).map az))).E h'.nx=some ((ak u).map az):=cas;have ar:=hS.new (h2:=h'.add (.cells ((ak u).map az))) (by simp) λi hi=>by rw[gan]
  have bk:h.nx+2<=h'.nx/\h'.nx<(h'.add (.cells ((ak u).map az))).nx:=⟨hS.nx,by simp⟩;simp(disch:=first|go_size|fail)[E6,R7,BN,sk h' u (by omega)];generalize h'.add (.cells ((ak u).map az))=h2 at*;generalize h'.nx=o at*;refine⟨λn e S=>∃j:Nat,e=[.str u,.ptr h.nx 0,.ptr (h.nx+1) 0,.rsl o 0 (ak u).length 1,I (j+1:Nat)]/\SK h S (kB u j) m/\S.E o=some ((ak u).map az)/\j<=23/\o<S.nx/\n=23-j,23,?_,?_⟩
  ·exact⟨0,rfl,ar,bd,by omega,bk.2,rfl⟩
  rintro n e S ⟨j,rfl,A,U,hj,W,rfl⟩;by_cases b2:j<23
  ·have bp:(j:Int)+1<=23:=by omega
   have hx:=λh=>ki h dS (j+1) _ (ik (l:=dS) (by show j+1<24;omega))
   have e1:kB u (j+1)=if dS.getD (j+1) []=u then((j+1:Nat):Int)else kB u j:=rfl
   generalize hy:kB u (j+1)=y at*;generalize dS.getD (j+1) []=N at*;simp(disch:=first|go_size|fail)[EG,bp];refine⟨λe g=>e=[.str u,.ptr h.nx 0,.ptr (h.nx+1) 0,.rsl o 0 (ak u).length 1,I (j+1:Nat)]/\SK h g y m/\g.E o=some ((ak u).map az)/\o<g.nx,?_,?_⟩
   ·simp(disch:=first|go_size|fail)[U6];refine sD (Fu trivial) ?_;simp(disch:=first|go_size|fail)[Ta];have bs:aC S 1 (cV dS) (I ((j:Int)+1))=some (.ai [.str N],S):=hx S;rw[bs];have z:=A.r1;by_cases he:N=u
    ·rw[Z he]at e1;rw[e1];simp(disch:=first|go_size|fail)[he,z];refine⟨A.set _ _,?_,W⟩;rw[ifn];exact U
    rw[O he]at e1;rw[e1];simp(disch:=first|go_size|fail)[he];exact⟨A,U,W⟩
   rintro e g ⟨rfl,G,ad,a7⟩;simp(disch:=first|go_size|fail)[W0];exact⟨23-(j+1),by omega,j+1,by omega,by rw[hy];exact G,ad,by omega,a7,rfl⟩
  obtain rfl:j=23:=by omega
  simp(disch:=first|go_size|fail)[EG,Sg,B0];have z:=A.r1;have hk:jV u=if(if u=jS then 32 else kB u 23)=0/\(ak u).length=1/\32<(ak u).headD 0 then(ak u).headD 0 else(if u=jS then 32 else kB u 23):=rfl
  generalize af:(if u=jS then 32 else kB u 23)=K1 at*;refine⟨λe g=>e=[.str u,.ptr h.nx 0,.ptr (h.nx+1) 0,.rsl o 0 (ak u).length 1]/\SK h g K1 m/\g.E o=some ((ak u).map az)/\o<g.nx,?_,?_⟩
  ·by_cases aj:u=jS
   ·rw[Z aj]at af;subst af;have M:u=[115,112,97,99,101]:=aj;have hq:(u==[115,112,97,99,101])=true:=by rw[M];rfl
    rw[hq];simp(disch:=first|go_size|fail)[EX,z];refine⟨A.set _ _,?_,W⟩;rw[ifn];exact U
   rw[O aj]at af;subst af;have M:¬u=[115,112,97,99,101]:=aj;have hq:(u==[115,112,97,99,101])=false:=by simpa using M
   rw[hq];simp(disch:=first|go_size|fail)[EX];exact⟨A,U,W⟩
  rintro e g ⟨rfl,G,ad,a7⟩;have al:=G.r1;simp(disch:=first|go_size|fail)[PZ];have ca:0<=(ak u).headD 0/\(ak u).headD 0<=1114111:=by
   by_cases av:u=[]
   ·subst av;simp[vY]
   rw[p7 u av];have:=Lib.decodeL_rune u;simp only[List.headD_cons];omega
  have a8:(ak u).length=1->((ak u).map az)[0]?=some (.int .i32 ((ak u).headD 0)):=by
   intro h1;obtain⟨r,hr⟩:=List.length_eq_one_iff.1 h1;rw[hr];rfl
  generalize hL:(ak u).length=L at*;generalize(ak u).headD 0=r at*;generalize(ak u).map az=RC at*;refine⟨λe h5=>e=[.str u,.ptr h.nx 0,.ptr (h.nx+1) 0,.rsl o 0 L 1,.bool (decide (K1=0)&&decide (L=1)&&decide (32<r))]/\h5=g,?_,?_⟩
  ·by_cases q0:K1=0
   ·by_cases q1:L=1
    ·have h0:=a8 q1;subst q1;have aw:aC g 1 (.rsl o 0 1 1) (I 0)=some (.ptr o 0,g):=gO (by omega) (by omega);simp(disch:=first|go_size|fail)[Bf,al,q0,yO,aw,ad,h0]
    have bx:¬(L:Int)=1:=by omega
    simp(disch:=first|go_size|fail)[Bf,al,q0,bx,yO,q1]
   simp[Bf,al,q0,yO]
  rintro e h5 ⟨rfl,rfl⟩;simp[PY];refine⟨λe h6=>e=[.str u,.ptr h.nx 0,.ptr (h.nx+1) 0]/\SK h h6 (jV u) m,?_,?_⟩
  ·by_cases aS:K1=0/\L=1/\32<r
   ·rw[Z aS]at hk;rw[hk];obtain⟨q0,q1,q2⟩:=aS;have h0:=a8 q1;subst q1;have aw:aC h5 1 (.rsl o 0 1 1) (I 0)=some (.ptr o 0,h5):=gO (by omega) (by omega);have bY:IntKind.i64.wrap r=r:=lW (by omega) (by omega);simp[Dj,q0,q2,aw,ad,h0,bY,al];exact G.set _ _
   rw[O aS]at hk;rw[hk];have:(decide (K1=0)&&decide (L=1)&&decide (32<r))=false:=by
    simp only[pW,jx];omega
   rw[this];simp[Dj];exact G
  rintro e h6 ⟨rfl,an⟩;generalize jV u=K at*;have ba:=an.r1;simp[Sp,ba];have cb:=an.nx;have av:h.nx≠h.nx+1:=by omega
  have aT:=an.r0;have a1:=an.get;refine⟨λhK=>?_,λhK=>?_⟩
  ·refine sD (Np (k:=K) (m:=m) trivial) ?_;refine⟨ay _,?_⟩;cases hv:ga K m
   ·simp[yC,yR,aT];refine⟨by omega,λi hi=>?_⟩;rw[gsn];exact a1 i hi
   have b0:=hv;rw[kQ,ck]at b0;simp[yC,ba];refine sD (afM (k:=K) (by omega)) ?_;simp[yR,aT];refine⟨λ_=>hK,by omega,λi hi=>?_⟩;rw[gsn];exact a1 i hi
  have b1:¬0<K:=by omega
  simp[yC,yR,aT,b1];refine⟨by omega,λi hi=>?_⟩;rw[gsn];exact a1 i hi
 rw[h1];refine .tup _ _ rfl λi c d C T=>?_
 match i with
 |0=>
  simp at C T;subst C;subst T;refine .agg _ _ rfl λi c d C T=>?_
  match i with
  |0=>simp at C T;subst C;subst T;exact .int _ _
  |1=>simp at C T;subst C;subst T;exact .int _ _
  |i+2=>simp at C
 |1=>simp at C T;subst C;subst T;exact .bool _
 |i+2=>simp at C
def lf(w:Str):List (LA):=if w.length<=100/\(dU w).2.2=true then [[I (dU w).1,I (dU w).2.1]]else []
def ph(w:Str):Int:=if 100<w.length then 2 else if(dU w).2.2=true then 0 else 3
theorem DW{n k z:Nat}{c:LA}(r:c.length=z)(v:h'.E k=some c)(A:n<=k)(B:∀(H:AH) (j:Nat) (a:AV),c[j]?=some a->Frz H false a a):Frz (fresh h' n) false (.rsl k 0 1 z) (.psl [c]):=by
 have f:(fresh h' n).E k=some c:=by rw[tX A];exact v
 refine Frz.rsl (h:=fresh h' n) (n:=false) k 0 z c [c] f (by simp;omega) (λi y e=>?_) (λi y j a d e g o=>?_)
 ·match i with
  |0=>simp at e;subst e;exact r
  |i+1=>simp at e
 match i with
 |0=>
  simp at e;subst e;rw[show 0+0*z+j=j by omega,g]at o;cases o;exact B _ _ _ g
 |i+1=>simp at e
theorem abv{h:AH}(w:Str)(hw:w.length<=1000000000/\∀c∈w,c≠32):ab prog 50 [.str w] h (.tup [.psl (lf w),I (ph w)]) h:=by
 obtain⟨ad,U⟩:=hw;refine kY (R:=λv h'=>∃x,v =.tup [x,I (ph w)]/\Frz (fresh h' h.nx) false x (.psl (lf w))/\h.nx<=h'.nx/\∀i,i<h.nx->h'.H.get i=h.H.get i) (C50 ?_) λv' h' ⟨x,h1,h2,h3,h4⟩=>⟨?_,h3,h4⟩
 ·by_cases A:100<w.length
  ·have e:(100:Int)<w.length:=by omega
   have eL:lf w=[]:=by unfold lf;rw[ifn]
   have eE:ph w=2:=by unfold ph;rw[Z A]
   rw[eL,eE];simp[g50,e];exact .D
  have e:¬(100:Int)<w.length:=by omega
  have eL:lf w=if(dU w).2.2=true then [[I (dU w).1,I (dU w).2.1]]else []:=by unfold lf;simp[show w.length<=100 by omega]
  have eE:ph w=if(dU w).2.2=true then 0 else 3:=by unfold ph;rw[O A]
  rw[eL,eE];simp[g50,e];refine⟨λn z h'=>∃(i st:Nat) (lv:AV),z=[.str w,lv,I st,I i]/\h.nx<=h'.nx/\(∀i,i<h.nx->h'.H.get i=h.H.get i)/\i<=w.length+1/\(i<=w.length->lv =.D/\st=0)/\(i=w.length+1->(dU w).2.2=true/\OL 2 h h' lv 1 [I (dU w).1,I (dU w).2.1])/\n=w.length+1-i,w.length+1,?_,?_⟩
  ·exact⟨0,0,.D,rfl,ay _,λi _=>rfl,by omega,λ_=>⟨rfl,rfl⟩,λh=>by omega,rfl⟩
  rintro n z h' ⟨i,st,lv,rfl,hn,hg,hi,hA,hB,rfl⟩;by_cases hle:i<=w.length
  ·obtain⟨rfl,rfl⟩:=hA hle;have o:(i:Int)<=w.length:=by omega
   simp[GS,o];refine⟨λx z h2=>h.nx<=h2.nx/\(∀i,i<h.nx->h2.H.get i=h.H.get i)/\((i<w.length/\x =.nrm/\z=[.str w,.undef,.undef,.D,I 0,I i])\/(i=w.length/\(dU w).2.2=true/\∃lv,x =.nrm/\z=[.str w,.undef,.undef,lv,I (w.length+1:Nat),I i]/\OL 2 h h2 lv 1 [I (dU w).1,I (dU w).2.1])\/(i=w.length/\(dU w).2.2=false/\x =.ret/\z=[.str w,.D,I 3,.D,I 0,I i])),?_,?_⟩
   ·simp[TF];refine⟨λz h2=>z=[.str w,.D,I 0,I i,.bool (decide (i<w.length))]/\h2=h',?_,?_⟩
    ·by_cases f:i<w.length
     ·obtain⟨c,P⟩:∃c,w[i]?=some c:=⟨w[i],bF f⟩;have r:(i:Int)<w.length:=by omega
      have k1:=xZ c;have W:c≠32:=U c (cQ P);simp[Fv,r,dA P,k1,f,W]
     have r:¬(i:Int)<w.length:=by omega
     simp[Fv,r,f]
    rintro z h2 ⟨rfl,rfl⟩;by_cases f:i<w.length
    ·simp[GQ,f];exact⟨hn,hg⟩
    obtain rfl:i=w.length:=by omega
    have kS:iD h2 (.str w) (some (I 0)) (some (I w.length))=some (.str w,h2):=by
     have:=uD (h:=h2) (s:=w) (a:=0) (b:=w.length) (by omega) (by omega);simpa using this
    simp[GQ,kS];refine sD (S! (w:=w) ad) ?_;generalize dU w=S at*;obtain⟨K,M,ok⟩:=S;simp[S4];have T:∀i,i<h.nx->((h2.add (.cells [I 0,I 0])).set h2.nx (.cells [I K,I M])).H.get i=h.H.get i:=λi hi=>by
     rw[gsn,gan];exact hg i hi
    cases ok
    ·simp(disch:=first|go_size|fail)[];exact⟨by omega,T⟩
    simp(disch:=first|go_size|fail)[Wu];refine⟨by omega,λi hi=>?_,.inr ⟨h2.nx+1+1,rfl,by omega,by omega,by simp,?_,rfl⟩⟩
    ·rw[gan,gan];exact T i hi
    exact cas
   rintro x z h2 ⟨B,C,G⟩;rcases G with⟨f,rfl,rfl⟩|⟨rfl,g,lv,rfl,rfl,hO⟩|⟨rfl,g,rfl,rfl⟩
   ·simp(disch:=first|go_size|fail)[xO];exact⟨w.length+1-(i+1),by omega,i+1,0,.D,⟨rfl,rfl,by omega⟩,B,C,by omega,λ_=>⟨rfl,rfl⟩,λh=>by omega,rfl⟩
   ·simp(disch:=first|go_size|fail)[xO];exact⟨w.length+1,w.length+1,lv,⟨rfl,by omega,by omega⟩,B,C,by omega,λh=>by omega,λ_=>⟨g,hO⟩,by omega⟩
   simp(disch:=first|go_size|fail)[xO,Fw];rw[g];exact⟨.D,⟨rfl,rfl⟩,.D,B,C⟩
  obtain rfl:i=w.length+1:=by omega
  obtain⟨g,hO⟩:=hB rfl;have o:¬(w.length:Int)+1<=w.length:=by omega
  rw[g];rcases hO with⟨_,h0,_⟩|⟨k,rfl,_,af,al,aj,_⟩
  ·omega
  simp(disch:=first|go_size|fail)[GS,o,Fw,Ii];refine⟨?_,hn,hg⟩;refine DW rfl aj af λH j a J=>?_
  match j with
  |0=>simp at J;subst J;exact .int _ _
  |1=>simp at J;subst J;exact .int _ _
  |j+2=>simp at J
 rw[h1];refine .tup _ _ rfl λi c d N hd=>?_
 match i with
 |0=>simp at N hd;subst N;subst hd;exact h2
 |1=>simp at N hd;subst N;subst hd;exact .int _ _
 |i+2=>simp at N
def tC:Ty->List AV
 |.s k=>[I k,.psl []]
 |.l t=>[I 4,.psl [tC t]]
def tyK:Ty->Int
 |.s k=>k
 |.l _=>4
def tyO:Ty->List (LA)
 |.s _=>[]
 |.l t=>[tC t]
theorem bQ(t:Ty):tC t=[I (tyK t),.psl (tyO t)]:=by cases t<;>simp[tC,tyK,tyO]
theorem sd(t:Ty):(tC t).length=2:=by rw[bQ];rfl
theorem lY:∀(t:Ty) (H:AH),bU H false (tC t) (tC t)
 |.s k,H=>by
  rw[dW];refine⟨rfl,λi a b e hb=>?_⟩;rw[e]at hb;cases hb;match i with
  |0=>simp[tC]at e;subst e;exact .int _ _
  |1=>simp[tC]at e;subst e;exact .psl rfl _ _ rfl (λi x y f _=>by simp at f) λi x y j c d f=>by simp at f
  |i+2=>simp[tC]at e
 |.l t,H=>by
  rw[dW];refine⟨rfl,λi a b e hb=>?_⟩;rw[e]at hb;cases hb;match i with
  |0=>simp[tC]at e;subst e;exact .int _ _
  |1=>
   simp[tC]at e;subst e;refine .psl rfl _ _ rfl (λi x y f g=>by rw[f]at g;cases g;rfl) λi x y j c d f g o r=>?_
   match i with
   |0=>
    simp at f g;subst f;subst g;rw[o]at r;cases r;exact((dW _ _ _ _).1 (lY t H)).2 j c c o o
   |i+1=>simp at f
  |i+2=>simp[tC]at e
theorem Rn(t:Ty)(H:AH):Frz H false (.agg (tC t)) (.agg (tC t)):=.agg _ _ rfl ((dW _ _ _ _).1 (lY t H)).2
theorem pn(H:AH):Frz H false (.agg [I 0,.D]) (.agg (tC (.s 0))):=by
 refine .agg _ _ rfl λi c d e f=>?_
 match i with
 |0=>simp[tC]at e f;subst e;subst f;exact .int _ _
 |1=>simp[tC]at e f;subst e;subst f;exact .D
 |i+2=>simp at e
variable {y:Int}
theorem FG{t:Ty}(o:y=4)(r:h'.E k=some (tC t))(v:n<=k):Frz (fresh h' n) false (.agg [I y,.rsl k 0 1 2]) (.agg (tC (.l t))):=by
 subst o;refine .agg _ _ rfl λi c d e f=>?_
 match i with
 |0=>simp[tC]at e f;subst e;subst f;exact .int _ _
 |1=>
  simp[tC]at e f;subst e;subst f;exact DW (sd t) r v λH j a g=>((dW _ _ _ _).1 (lY t H)).2 j a a g g
 |i+2=>simp at e
variable {H:AH}
theorem agL{x y:LA}(h:Frz H false (.agg x) (.agg y)):bU H false x y:=by
 rw[dW];cases h with
 |agg _ _ e f=>exact⟨e,f⟩
theorem kU{x y a b:AV}(g:Frz H false x a)(h2:Frz H false y b):Frz H false (.tup [x,y]) (.tup [a,b]):=by
 refine .tup _ _ rfl λi c d e f=>?_
 match i with
 |0=>simp at e f;subst e;subst f;exact g
 |1=>simp at e f;subst e;subst f;exact h2
 |i+2=>simp at e
def di(a b:Ty):AV:=.tup [.agg (tC ((cF a b).getD (.s 0))),.bool (cF a b).isSome]
def yG(a:Ty):Prop:=∀(h:AH) (b:Ty),ab prog 141 [.agg (tC a),.agg (tC b)] h (di a b) h
variable {a:Ty}
theorem ahG(e:yG a){b:Ty}(f:Q (di a b) h):tU prog 141 [.agg (tC a),.agg (tC b)] h Q:=sD (e h b) f
structure J3(h h':AH)(a b r:LA):Prop where
 a:h'.E h.nx=some a
 b:h'.E (h.nx+1)=some b
 r:h'.E (h.nx+1+1)=some r
 nx:h.nx+3<=h'.nx
 get:∀i,i<h.nx->h'.H.get i=h.H.get i
theorem J3.start(h:AH)(a b r:LA):J3 h (((h.add (.cells a)).add (.cells b)).add (.cells r)) a b r:=by
 refine⟨?_,?_,?_,by simp,λi hi=>?_⟩
 ·rw[can (by simp;omega),can];exact cas
 ·rw[can];exact cas
 ·exact cas
 rw[gan,gan,gan]
theorem Mb(M:∀t,a =.l t->yG t):yG a:=by
 intro h b;refine fU (ahx ?_);have g:=J3.start h [I (tyK a),.psl (tyO a)] [I (tyK b),.psl (tyO b)] [I 0,.D];rw[bQ a,bQ b];have C:¬h.nx=h.nx+1+1:=by omega
 have hn:=g.nx;have z:=g.get;have N:h.nx+1+1=h.nx+2:=rfl;by_cases j:tyK a=tyK b
 ·simp[Js,C,j];rw[j]at g hn z;generalize((h.add (.cells [I (tyK b),.psl (tyO a)])).add (.cells [I (tyK b),.psl (tyO b)])).add (.cells [I 0,.D])=e at*;have f:=g.a;have hb:=g.b;have v:=g.r;have G:∀(o:bg) (i:Nat),i<h.nx->(e.set (h.nx+1+1) o).H.get i=h.H.get i:=λo i hi=>by rw[gsn];exact z i hi
  cases a with
  |s x=>
   have A:x=tyK b:=j;have B:di (.s x) b =.tup [.agg (tC b),.bool true]:=by
    unfold di;cases b with
    |s y=>have:x=y:=A;simp[cF,this]
    |l y=>have:x=4:=A;simp[cF,this]
   rw[B];have o1:tyO (.s x)=[]:=rfl;rw[o1]at f;simp[Bp,f,hb,v];refine⟨?_,by omega,G _⟩;rw[<-bQ];exact lY _ _
  |l x=>
   have A:4=tyK b:=j;rw[<-A]at f hb;have o0:tyO (.l x)=[tC x]:=rfl;rw[o0]at f;cases b with
   |s y=>
    have B:di (.l x) (.s y) =.tup [.agg (tC (.l x)),.bool true]:=by
     unfold di;have:y=4:=A.symm;simp[cF,this]
    rw[B];have o1:tyO (.s y)=[]:=rfl;rw[o1]at hb;simp[Bp,f,hb,OC,f,v];refine⟨?_,by omega,G _⟩;exact lY (.l x) _
   |l y=>
    have o1:tyO (.l y)=[tC y]:=rfl;rw[o1]at hb;have ad:=M x rfl;have J:∀(h:AH) (t:Ty),aC h 2 (.psl [tC t]) (I 0)=some (.ai (tC t),h):=λh t=>gQ (i:=0) rfl (sd t)
    have K:∀(h:AH) (t:Ty),gh h 2 (.ai (tC t))=some (.agg (tC t),h):=λh t=>by rw[bQ];rfl
    simp[Bp,f,hb,OJ,f];rw[J];simp[hb,K];rw[J];simp[K,O7];refine ahG ad ?_;have P:cF (.l x) (.l y)=(cF x y).map .l:=rfl;cases R:cF x y with
    |none=>
     rw[R]at P;have S:di x y =.tup [.agg [I 0,.psl []],.bool false]:=by unfold di;rw[R];rfl
     have N:di (.l x) (.l y) =.tup [.agg (tC (.s 0)),.bool false]:=by unfold di;rw[P];rfl
     rw[S,N];simp[];refine⟨by omega,by omega,?_⟩;have q1:¬h.nx+1+1=e.nx+12:=by omega
     have q2:¬e.nx+12=h.nx+1+1:=by omega
     have T:¬h.nx=e.nx+10:=by omega
     have q5:¬h.nx=e.nx+13:=by omega
     have q6:¬h.nx=e.nx+11:=by omega
     simp[Sb,v,T];refine⟨?_,by omega,λi hi=>?_⟩
     ·have U:=pn (fresh ((((AH.mk e.H (e.nx+15)).set (e.nx+12) (.cells [I 0,.D])).set (e.nx+12) (.cells [I 0,.psl []])).set (h.nx+1+1) (.cells [I 0,.D])) h.nx);rw[dW];cases U with
      |agg _ _ W hc=>exact⟨W,hc⟩
     rw[gsn,gsn,gsn];exact z i hi
    |some t=>
     rw[R]at P;have S:di x y =.tup [.agg [I (tyK t),.psl (tyO t)],.bool true]:=by unfold di;rw[R,<-bQ];rfl
     have N:di (.l x) (.l y) =.tup [.agg (tC (.l t)),.bool true]:=by unfold di;rw[P];rfl
     rw[S,N];simp[];refine⟨by omega,by omega,?_⟩;have q1:¬h.nx+1+1=e.nx+12:=by omega
     have q2:¬e.nx+12=h.nx+1+1:=by omega
     have T:¬h.nx=e.nx+10:=by omega
     have q5:¬h.nx=e.nx+13:=by omega
     have q6:¬h.nx=e.nx+11:=by omega
     have q3:¬h.nx=e.nx+12:=by omega
     simp[Sh,v,f,q3,T,q5];refine⟨?_,by omega,λi hi=>?_⟩
     ·refine agL (FG rfl ?_ (by omega));rw[csn,bQ];exact cas
     rw[gsn,gan,gsn,gsn];exact z i hi
 have af:cF a b=none:=by
  cases a with
  |s x=>cases b with
   |s y=>simp[cF];exact j
   |l y=>simp[cF];exact j
  |l x=>cases b with
   |s y=>simp[cF];exact λh=>j h.symm
   |l y=>exact absurd rfl j
 have B:di a b =.tup [.agg (tC (.s 0)),.bool false]:=by unfold di;rw[af];rfl
 rw[B];simp[Js,C,j];generalize((h.add (.cells [I (tyK a),.psl (tyO a)])).add (.cells [I (tyK b),.psl (tyO b)])).add (.cells [I 0,.D])=e at*;have f:=g.a;have hb:=g.b;have v:=g.r;simp[Pf,v];refine⟨?_,by omega,λi hi=>?_⟩
 ·have U:=pn (fresh (e.set (h.nx+1+1) (.cells [I 0,.D])) h.nx);rw[dW];cases U with
  |agg _ _ W hc=>exact⟨W,hc⟩
 rw[gsn];exact z i hi
theorem Og:∀a,yG a
 |.s k=>Mb λt h=>by cases h
 |.l t=>Mb λe h=>by cases h;exact Og t
theorem Ik(h:AH)(a b:Ty)(_:True):ab prog 141 [.agg (tC a),.agg (tC b)] h (di a b) h:=Og a h b
theorem aed(a:Ty)(b:Ty)(e:True)(f:Q (di a b) h):tU prog 141 [.agg (tC a),.agg (tC b)] h Q:=sD (Ik h a b e) f
def nU(k n:Int)(s:Str)(l:List Val):Bool:=
 decide (k<1)||decide (4<k)||(decide (n≠0)&&decide (k≠1)&&decide (k≠2))||(decide (s≠[])&&decide (k≠3))||(decide (0<l.length)&&decide (k≠4))
def qG(k n:Int):Bool:=(decide (k=1)&&(decide (n < -1099511627776)||decide (1099511627776<n)))||(decide (k=2)&&decide (n≠0)&&decide (n≠1))
def mZ(o:Option Ty)(t:Ty):Option Ty×Bool:=
 match o with
 |none=>(some t,true)
 |some u=>(some ((cF u t).getD (.s 0)),(cF u t).isSome)
def mh(k:Int)(R:Int×(Option Ty×Bool)×Int):Int×Ty×Int:=
 if R.1≠0 then(R.1,.s 0,R.2.2)else if R.2.1.2=false then(5,.s 0,R.2.2)else(0,(match R.2.1.1 with|none=>.s k|some t=>.l t),R.2.2)
mutual
def bM(d:Int):Val->Int->Int×Ty×Int
 |.mk k n s l,m=>
  if k=4/\16<d then(8,.s 0,m+1)
  else if nU k n s l=true then(9,.s 0,m+1)
  else if qG k n=true then(1,.s 0,m+1)
  else if 2000<s.length\/100<l.length\/1000<m+1 then(2,.s 0,m+1)
  else if Lib.validD s=false then(3,.s 0,m+1)
  else mh k (eM (d+1) l (m+1) (none,true))
def eM(d:Int):List Val->Int->Option Ty×Bool->Int×(Option Ty×Bool)×Int
 |[],m,o=>(0,o,m)
 |v::l,m,o=>
  if(bM d v m).1≠0 then((bM d v m).1,o,(bM d v m).2.2)
  else if o.2=false then eM d l (bM d v m).2.2 o
  else eM d l (bM d v m).2.2 (mZ o.1 (bM d v m).2.1)
end
