/- The reference's numbers. -/
import Derived.Test.YtndpneieplopaaaGreatDoorStX
set_option linter.unusedSimpArgs false
set_option linter.unusedVariables false
noncomputable section
namespace Go.Proofs.YtndpneieplopaaaGreatDoor
open Go.Eng Go.St Tryz
theorem pC{s:Str}{p:Nat}{c:UInt8}(h:s[p]?=some c):s.drop p=c::s.drop (p+1):=by
 obtain⟨hlt,he⟩:=amV.1 h;rw[ang hlt,he]
theorem drop_nil{s:Str}{p:Nat}(h:s.length<=p):s.drop p=[]:=anf h
theorem wX:∀(l:Str) (n:Nat),(n:Int)<=10*eM+9->((jF l n).1:Int)<=10*eM+9
 |[],n,h=>h
 |c::t,n,h=>by
  simp only[jF];split
  ·rename_i hc;refine wX t _ ?_;have hM:eM=1099511627776:=rfl;simp only[gx,amZ,ana]at hc;omega
  ·exact h
theorem Y4(h:AH)(a b:Int)(h1:0<=a-b)(h2:a-b<=255):ae h .sub (.int .u8 a) (.int .u8 b)=some (.int .u8 (a-b),h):=by
 have e:IntKind.u8.wrap (a-b)=a-b:=by
  simp only[IntKind.wrap,IntKind.bits,IntKind.signed];simp;omega
 simp[ae,dy,ey,ia,e]
def goD(s:Str)(q n:Nat):Bool:=match s[q]? with|some c=>gx c&&decide ((n:Int)<=eM)|none=>false
theorem Vo{s:Str}{q n:Nat}:goD s q n=true↔∃c,s[q]?=some c/\gx c=true/\(n:Int)<=eM:=by
 unfold goD;cases s[q]? with
 |none=>simp
 |some c=>simp
theorem Wl{s:Str}{q n:Nat}{c:UInt8}(h:s[q]?=some c)(hd:gx c=true)(hn:(n:Int)<=eM):jF (s.drop q) n=jF (s.drop (q+1)) (10*n+(c.toNat-48)):=by
 rw[pC h,jF,am1 ⟨hd,hn⟩]
theorem Wf{s:Str}{q n:Nat}(h:goD s q n=false):jF (s.drop q) n=(n,s.drop q):=by
 unfold goD at h;cases hc:s[q]? with
 |none=>rw[drop_nil (ank.1 hc)];rfl
 |some c=>
  rw[hc]at h;simp only[an_,ano]at h;rw[pC hc,jF,amU (by rintro⟨h1,h2⟩;rcases h with h|h;(rw[h1]at h;cases h);exact h h2)]
theorem Sb(h:AH)(id:Nat)(x:Rd)(hc:h.ab id=some (rdC x))(hid:id<h.nx)(hx:x.Ok):aK prog 85 [.ptr id 0] h (I (dV (x.s.drop x.t.pos))) (h.set id (.cells (rdC ⟨x.s,dU x.s x.t⟩))):=by
 obtain⟨s,⟨p,b⟩⟩:=x;have hs:s.length<=1000000:=hx.1;have hp:p<=s.length+1:=hx.2;have hM:eM=1099511627776:=rfl;refine bm (R:=λv h'=>v=I (dV (s.drop p))/\Ob h h' id (rdC ⟨s,dU s ⟨p,b⟩⟩)) hid (gi _) (C85 (aW [e81]) ?_) λv' h' ⟨h1,h2⟩=>⟨by rw[h1];exact .int _ _,h2⟩
 have hc':h.ab id=some [.str s,I p,.bool b]:=hc;have acj:isM (s.drop p)=(s[p]?== some 45)/\fF (s.drop p)=s.drop (if s[p]?=some 45 then p+1 else p):=by
  cases h0:s[p]? with
  |none=>
   have:s.length<=p:=ank.1 h0;rw[drop_nil this];simp[isM,fF,drop_nil this]
  |some c=>
   rw[pC h0];by_cases XB:c=45
   ·subst XB;simp[isM,fF]
   ·simp[isM,fF,XB,pC h0]
 obtain⟨hM1,hM2⟩:=acj;simp(disch:=first|go_size|fail)[g85,hc'];refine⟨λvs h'=>vs=[.ptr id 0,I p,.bool false,.bool (s[p]?== some 45)]/\Ob h h' id (rdC ⟨s,⟨p,b⟩⟩),?_,?_⟩
 ·by_cases hlt:p<s.length
  ·obtain⟨c,hcp⟩:∃c,s[p]?=some c:=⟨s[p],am0 hlt⟩;have cw:(p:Int)<s.length:=by omega
   have k1:=aec c;rw[hcp];simp(disch:=first|go_size|fail)[HO,hc'];simp(disch:=first|go_size|fail)[GP,hc',cw];simp(disch:=first|go_size|fail)[FE,hc',bC hcp,k1];exact(Ob.start hc).bump _ (by simp)
  ·have cw:¬(p:Int)<s.length:=by omega
   have hn:s[p]?=none:=by rw[ank];omega
   rw[hn];simp(disch:=first|go_size|fail)[HO,hc'];simp(disch:=first|go_size|fail)[GP,hc',cw];simp(disch:=first|go_size|fail)[FE];exact(Ob.start hc).bump _ (by simp)
 ·rintro vs h1 ⟨rfl,ho1⟩;simp(disch:=first|go_size|fail)[KF];have hc1:h1.ab id=some [.str s,I p,.bool b]:=ho1.c;generalize hmm:(s[p]?== some 45)=mi at*;generalize hfi:(if s[p]?=some 45 then p+1 else p)=fi at*;have Y0:fi<=s.length+1/\p<=fi/\(p<=s.length->fi<=s.length):=by
   subst hfi;split
   ·rename_i h45;have:=(amV.1 h45).1;omega
   ·omega
  refine⟨λvs h2=>vs=[.ptr id 0,I p,.bool mi]/\Ob h h2 id (rdC ⟨s,⟨fi,b⟩⟩),?_,?_⟩
  ·cases mi
   ·have h45:¬s[p]?=some 45:=by simpa using hmm
    rw[amU h45]at hfi;subst hfi;simp(disch:=first|go_size|fail)[Hm];exact ho1
   ·have h45:s[p]?=some 45:=by simpa using hmm
    rw[am1 h45]at hfi;subst hfi;simp(disch:=first|go_size|fail)[Hm,hc1];exact ho1.set _
  ·rintro vs h2 ⟨rfl,ho2⟩;have hc2:h2.ab id=some [.str s,I fi,.bool b]:=ho2.c;simp(disch:=first|go_size|fail)[JO,hc2];refine⟨λm vs h'=>∃(q n:Nat),vs=[.ptr id 0,I p,.bool mi,I n,I fi]/\Ob h h' id (rdC ⟨s,⟨q,b⟩⟩)/\fi<=q/\q<=s.length+1/\(p<=s.length->q<=s.length)/\(n:Int)<=10*eM+9/\jF (s.drop q) n=jF (s.drop fi) 0/\m=s.length+1-q,s.length+1-fi,?_,?_⟩
   ·exact⟨fi,0,rfl,ho2.bump _ (by simp),by omega,Y0.1,Y0.2.2,by omega,rfl,rfl⟩
   ·rintro m vs h' ⟨q,n,rfl,ho,hq0,hq1,hq2,hn,UW,rfl⟩;have hc3:h'.ab id=some [.str s,I q,.bool b]:=ho.c;simp(disch:=first|go_size|fail)[T8];refine⟨λvs h2=>vs=[.ptr id 0,I p,.bool mi,I n,I fi,.bool (goD s q n)]/\Ob h h2 id (rdC ⟨s,⟨q,b⟩⟩),?_,?_⟩
    ·by_cases hlt:q<s.length
     ·obtain⟨c,hcp⟩:∃c,s[q]?=some c:=⟨s[q],am0 hlt⟩;have cw:(q:Int)<s.length:=by omega
      have e:goD s q n=(decide (48<=c.toNat)&&decide (c.toNat<=57)&&decide ((n:Int)<=eM)):=by unfold goD;rw[hcp];rfl
      rw[e];simp(disch:=first|go_size|fail)[Fj,hc3];simp(disch:=first|go_size|fail)[H6,hc3,cw];by_cases h1:48<=c.toNat
      ·have h1':¬(c.toNat:Int)<48:=by omega
       have h1b:(48:Int)<=c.toNat:=by omega
       simp[Bc,hc3,bC hcp,h1',h1b];simp[BG,hc3,bC hcp,h1];by_cases h2:c.toNat<=57
       ·have h2':(c.toNat:Int)<=57:=by omega
        by_cases h3:(n:Int)<=1099511627776
        ·simp[sP,h2,h2',hM,h3];exact ho.bump _ (by simp)
        ·simp[sP,h2,h2',hM,h3];exact ho.bump _ (by simp)
       ·have h2':¬(c.toNat:Int)<=57:=by omega
        simp[sP,h2,h2',hM];exact ho.bump _ (by simp)
      ·have h1':(c.toNat:Int)<48:=by omega
       have h1b:¬(48:Int)<=c.toNat:=by omega
       simp[Bc,hc3,bC hcp,h1',h1b];simp[BG,hc3,h1];simp[sP];exact ho.bump _ (by simp)
     ·have cw:¬(q:Int)<s.length:=by omega
      have e:goD s q n=false:=by unfold goD;rw[ank.2 (by omega)]
      rw[e];simp[Fj,hc3];simp[H6,hc3,cw];simp[Bc];simp[BG];simp[sP];exact ho.bump _ (by simp)
    ·rintro vs h3 ⟨rfl,ho3⟩;have hc4:h3.ab id=some [.str s,I q,.bool b]:=ho3.c;cases hgo:goD s q n
     ·simp[IW];simp(disch:=first|go_size|fail)[KN];simp(disch:=first|go_size|fail)[Cp];have hd:=Wf hgo;rw[UW]at hd;have eR:fH (s.drop p)=s.drop q:=by unfold fH;rw[hM2,hd]
      have eN:dV (s.drop p)=if mi=true then -(n:Int)else n:=by unfold dV;rw[hM2,hd,hM1]
      refine⟨λvs h4=>vs=[.ptr id 0,I p,I (dV (s.drop p)),I fi]/\Ob h h4 id (rdC ⟨s,⟨q,b⟩⟩),?_,?_⟩
      ·rw[eN];cases mi
       ·simp(disch:=first|go_size|fail)[GB];exact ho3
       ·simp(disch:=first|go_size|fail)[GB];exact ho3
      ·rintro vs h4 ⟨rfl,ho4⟩;have hc5:h4.ab id=some [.str s,I q,.bool b]:=ho4.c;simp(disch:=first|go_size|fail)[JG];refine⟨λvs h5=>vs=[.ptr id 0,I (dV (s.drop p)),.bool !(kU (s.drop p))]/\Ob h h5 id (rdC ⟨s,⟨q,b⟩⟩),?_,?_⟩
       ·have hB:kU (s.drop p)=(decide ((s.drop q).length≠(s.drop fi).length)&&decide (-eM<=dV (s.drop p))&&decide (dV (s.drop p)<=eM)&&(Lib.itoa (dV (s.drop p))==(s.drop p).take ((s.drop p).length-(s.drop q).length))):=by unfold kU;rw[hM2,eR]
        generalize dV (s.drop p)=N at*;by_cases hqf:q=fi
        ·have acH:(q:Int)=fi:=by omega
         have:kU (s.drop p)=false:=by rw[hB,hqf];simp
         rw[this];simp(disch:=first|go_size|fail)[Fs,hc5,acH];simp(disch:=first|go_size|fail)[rB];simp(disch:=first|go_size|fail)[rI];simp(disch:=first|go_size|fail)[sd];exact ho4.bump _ (by simp)
        ·have acH:¬(q:Int)=fi:=by omega
         have hpl:p<=s.length:=by omega
         have hql:=hq2 hpl;have hne:decide ((s.drop q).length≠(s.drop fi).length)=true:=by
          rw[decide_eq_true_iff,am3,am3];omega
         have hlen:(s.drop p).length-(s.drop q).length=q-p:=by
          rw[am3,am3];omega
         rw[hne,hlen,aoD]at hB;rw[hB];simp(disch:=first|go_size|fail)[Fs,hc5,acH];by_cases h1:N<=1099511627776
         ·have h1':¬(1099511627776:Int)<N:=by omega
          by_cases h2 : -1099511627776<=N
          ·have h2':¬N < -1099511627776:=by omega
           simp(disch:=first|go_size|fail)[rB,h1',h2',h1];simp(disch:=first|go_size|fail)[rI,hc5];refine O2 (n:=N) (by omega) ?_;simp(disch:=first|go_size|fail)[hc5];by_cases hi:Lib.itoa N=(s.drop p).take (q-p)
           ·simp(disch:=first|go_size|fail)[sd,hc5,nG (show p<=q by omega) hql,hi,hM,h1,h2];exact ho4.bump _ (by simp)
           ·simp(disch:=first|go_size|fail)[sd,hc5,nG (show p<=q by omega) hql,hi,hM,h1,h2];exact ho4.bump _ (by simp)
          ·have h2':N < -1099511627776:=by omega
           simp(disch:=first|go_size|fail)[rB,h1',h2',h2,hM,h1];simp(disch:=first|go_size|fail)[rI];simp(disch:=first|go_size|fail)[sd];exact ho4.bump _ (by simp)
         ·have h1':(1099511627776:Int)<N:=by omega
          simp(disch:=first|go_size|fail)[rB,h1',h1,hM];simp(disch:=first|go_size|fail)[rI];simp(disch:=first|go_size|fail)[sd];exact ho4.bump _ (by simp)
       ·rintro vs h5 ⟨rfl,ho5⟩;have hc6:h5.ab id=some [.str s,I q,.bool b]:=ho5.c;simp(disch:=first|go_size|fail)[KL];refine⟨λvs h6=>vs=[I (dV (s.drop p))]/\Ob h h6 id (rdC ⟨s,dU s ⟨p,b⟩⟩),?_,?_⟩
        ·have eT:dU s ⟨p,b⟩=⟨q,b || !(kU (s.drop p))⟩:=by
          unfold dU;simp only[eR,am3];congr 1
          omega
         rw[eT];cases kU (s.drop p)
         ·simp(disch:=first|go_size|fail)[E9,hc6];exact ho5.set _
         ·simp(disch:=first|go_size|fail)[E9,hc6];exact ho5
        ·rintro vs h6 ⟨rfl,ho6⟩;simp(disch:=first|go_size|fail)[Uf];exact ho6
     ·obtain⟨c,hcp,hdc,hnM⟩:=Vo.1 hgo;have alB:48<=c.toNat/\c.toNat<=57:=by simpa[gx]using hdc
      simp(disch:=first|go_size|fail)[IW,hc4];simp(disch:=first|go_size|fail)[RJ,hc4,bC hcp,Y4];have w1:IntKind.i64.wrap ((c.toNat:Int)-48)=(c.toNat:Int)-48:=lG (by omega) (by omega);have w2:IntKind.i64.wrap (10*n+((c.toNat:Int)-48))=10*n+((c.toNat:Int)-48):=lG (by omega) (by omega);rw[w1];simp(disch:=first|go_size|fail)[];simp(disch:=first|go_size|fail)[O4,hc4];exact⟨s.length+1-(q+1),by have:=(amV.1 hcp).1;omega,q+1,10*n+(c.toNat-48),by omega,(ho3.bump _ (by simp)).set _,by omega,by have:=(amV.1 hcp).1;omega,by have:=(amV.1 hcp).1;omega,by omega,by rw[<-Wl hcp hdc hnM];exact UW,rfl⟩
def e85:QE prog:=QE.obj 85 (λ_ _=>True) rdC (fun(_:Unit)=>[]) (fun(x:Rd)(y:Unit)=>match y with|_=>x.Ok) (fun(x:Rd)(y:Unit)=>match y with|_=>I (dV (x.s.drop x.t.pos))) (fun(x:Rd)(y:Unit)=>match y with|_=>⟨x.s,dU x.s x.t⟩) (λh id x y hj hc hid hx=>match y,hx with|_,hx=>Sb h id x hc hid hx)
theorem XX{tl h}{id:Nat}{x:Rd}{Q:QT}(hc:h.ab id=some (rdC x))(hid:id<h.nx)(hx:x.Ok)(hq:Q (I (dV (x.s.drop x.t.pos))) (h.set id (.cells (rdC (⟨x.s,dU x.s x.t⟩))))):tb (e85::tl) 85 (.ptr id 0::[]) h Q:=bF () trivial hc hid hx hq
@[simp ↓] theorem aj6:TbT e85 85:=aH e85
theorem Ng(h:AH)(id:Nat)(x:Rd)(hc:h.ab id=some (rdC x))(hid:id<h.nx)(hx:x.Ok):aK prog 49 [.ptr id 0] h (I (cG x.s x.t)) (h.set id (.cells (rdC ⟨x.s,a_ x.s x.t⟩))):=by
 refine bm (R:=λv h'=>v=I (cG x.s x.t)/\Ob h h' id (rdC ⟨x.s,a_ x.s x.t⟩)) hid (gi _) (C49 (aW [e47,e85]) ?_) λv' h' ⟨h1,h2⟩=>⟨by rw[h1];exact .int _ _,h2⟩
 simp[g49];refine qd hc hid hx ?_;refine XX (x:=⟨x.s,aN x.s x.t⟩) (an _ _ _ _ rfl) hid ⟨hx.1,uS hx.2⟩ ?_;exact⟨rfl,((Ob.start hc).set _).set _⟩
def e49:QE prog:=QE.obj 49 (λ_ _=>True) rdC (fun(_:Unit)=>[]) (fun(x:Rd)(y:Unit)=>match y with|_=>x.Ok) (fun(x:Rd)(y:Unit)=>match y with|_=>I (cG x.s x.t)) (fun(x:Rd)(y:Unit)=>match y with|_=>⟨x.s,a_ x.s x.t⟩) (λh id x y hj hc hid hx=>match y,hx with|_,hx=>Ng h id x hc hid hx)
theorem kN{tl h}{id:Nat}{x:Rd}{Q:QT}(hc:h.ab id=some (rdC x))(hid:id<h.nx)(hx:x.Ok)(hq:Q (I (cG x.s x.t)) (h.set id (.cells (rdC (⟨x.s,a_ x.s x.t⟩))))):tb (e49::tl) 49 (.ptr id 0::[]) h Q:=bF () trivial hc hid hx hq
@[simp ↓] theorem akq:TbT e49 49:=aH e49
theorem wo(s:Str)(c:UInt8)(t:RS)(hc:s[t.pos]?=some c):(rQ1 s c t).2.pos<=s.length/\t.pos+1<=(rQ1 s c t).2.pos:=by
 have hlt:=(amV.1 hc).1;unfold rQ1;split
 ·split
  ·rename_i d hd;have:=(amV.1 hd).1;exact⟨by simp only;omega,by simp only;omega⟩
  ·exact⟨by simp only;omega,by simp⟩
 ·exact⟨by simp only;omega,by simp⟩
theorem Xm(h:AH)(id:Nat)(x:Rd)(hc:h.ab id=some (rdC x))(hid:id<h.nx)(hx:x.Ok):aK prog 88 [.ptr id 0] h (.str (ju x.s x.t)) (h.set id (.cells (rdC ⟨x.s,fb x.s x.t⟩))):=by
 obtain⟨s,⟨p,b⟩⟩:=x;have hs:s.length<=1000000:=hx.1;have hp:p<=s.length+1:=hx.2;refine bm (R:=λv h'=>v =.str (ju s ⟨p,b⟩)/\Ob h h' id (rdC ⟨s,fb s ⟨p,b⟩⟩)) hid (gi _) (C88 (aW [Nl]) ?_) λv' h' ⟨h1,h2⟩=>⟨by rw[h1];exact .str _,h2⟩
 have hc':h.ab id=some [.str s,I p,.bool b]:=hc;simp(disch:=first|go_size|fail)[g88];refine⟨λvs h'=>vs=[.ptr id 0,.bool (!(s[p]?== some 34))]/\Ob h h' id (rdC ⟨s,⟨p,b⟩⟩),?_,?_⟩
 ·by_cases hlt:p<s.length
  ·obtain⟨c,hcp⟩:∃c,s[p]?=some c:=⟨s[p],am0 hlt⟩;have cw:¬(s.length:Int)<=p:=by omega
   have k1:=Ax c;rw[hcp];simp(disch:=first|go_size|fail)[GZ,hc'];simp(disch:=first|go_size|fail)[E8,hc',cw];simp(disch:=first|go_size|fail)[Gv,hc',bC hcp,k1];exact⟨rfl,(Ob.start hc).bump _ (by simp)⟩
  ·have cw:(s.length:Int)<=p:=by omega
   have hn:s[p]?=none:=by rw[ank];omega
   rw[hn];simp(disch:=first|go_size|fail)[GZ,hc'];simp(disch:=first|go_size|fail)[E8,hc',cw];simp(disch:=first|go_size|fail)[Gv];exact(Ob.start hc).bump _ (by simp)
 ·rintro vs h1 ⟨rfl,ho1⟩;have hc1:h1.ab id=some [.str s,I p,.bool b]:=ho1.c;by_cases h34:s[p]?=some 34
  ·have alI:=(amV.1 h34).1;have eb:(!(s[p]?== some 34))=false:=by simp[h34]
   rw[eb];have eV:ju s ⟨p,b⟩=(rQL s s.length [] ⟨p+1,b⟩).1:=by unfold ju;rw[am1 h34]
   have eT:fb s ⟨p,b⟩=⟨(rQL s s.length [] ⟨p+1,b⟩).2.pos+1,((rQL s s.length [] ⟨p+1,b⟩).2.bad||decide (s.length<=(rQL s s.length [] ⟨p+1,b⟩).2.pos)) || !(Lib.validD (rQL s s.length [] ⟨p+1,b⟩).1)⟩:=by unfold fb;rw[am1 h34]
   rw[eV,eT];generalize hR:rQL s s.length [] ⟨p+1,b⟩=R at*;simp(disch:=first|go_size|fail)[Bm,hc1];refine⟨λm vs h'=>∃out t lv,vs=[.ptr id 0,lv]/\Ob h h' id (rdC ⟨s,t⟩)/\OL 1 h h' lv out.length (aR out)/\t.pos<=s.length/\s.length-t.pos<=m/\rQL s m out t=R/\out.length<=t.pos,s.length,?_,?_⟩
   ·exact⟨[],⟨p+1,b⟩,.aa,rfl,ho1.set _,OL.start _ _ _,by simp only;omega,by omega,hR,by simp⟩
   ·rintro m vs h' ⟨out,⟨q,bd⟩,lv,rfl,ho,hl,hq,hm,hqR,hlen⟩;simp only at hq hm hlen;have hc2:h'.ab id=some [.str s,I q,.bool bd]:=ho.c;simp(disch:=first|go_size|fail)[Kg];refine⟨λvs h2=>vs=[.ptr id 0,lv,.bool (decide (q<s.length) && !(s[q]?== some 34))]/\Ob h h2 id (rdC ⟨s,⟨q,bd⟩⟩)/\OL 1 h h2 lv out.length (aR out),?_,?_⟩
    ·by_cases hlt:q<s.length
     ·obtain⟨c,hcp⟩:∃c,s[q]?=some c:=⟨s[q],am0 hlt⟩;have cw:(q:Int)<s.length:=by omega
      have k1:=Ax c;rw[hcp];simp(disch:=first|go_size|fail)[Gn,hc2];simp(disch:=first|go_size|fail)[Ga,hc2,cw];simp(disch:=first|go_size|fail)[E2,hc2,bC hcp,k1,hlt];exact⟨rfl,ho.bump _ (by simp),hl.bump (by simp)⟩
     ·have cw:¬(q:Int)<s.length:=by omega
      simp(disch:=first|go_size|fail)[Gn,hc2];simp(disch:=first|go_size|fail)[Ga,hc2,cw];simp(disch:=first|go_size|fail)[E2,hlt];exact⟨ho.bump _ (by simp),hl.bump (by simp)⟩
    ·rintro vs h3 ⟨rfl,ho3,hl3⟩;have hc3:h3.ab id=some [.str s,I q,.bool bd]:=ho3.c;cases bN:(decide (q<s.length) && !(s[q]?== some 34))
     ·have ly:rQL s m out ⟨q,bd⟩=(out,⟨q,bd⟩):=by
       cases m with
       |zero=>rfl
       |succ m=>
        unfold rQL;cases hcp:s[q]? with
        |none=>simp[hcp]
        |some c=>
         have hlt:=(amV.1 hcp).1;rw[hcp]at bN;simp[hlt]at bN;simp[hcp,bN]
      rw[hqR]at ly;subst ly;simp(disch:=first|go_size|fail)[Gl];simp(disch:=first|go_size|fail)[Lu];simp(disch:=first|go_size|fail)[Aj];refine⟨λvs h4=>vs=[.ptr id 0,lv]/\Ob h h4 id (rdC ⟨s,⟨q,bd||decide (s.length<=q)⟩⟩)/\OL 1 h h4 lv out.length (aR out),?_,?_⟩
      ·cases bd
       ·simp(disch:=first|go_size|fail)[Bx,hc3];simp(disch:=first|go_size|fail)[B5,hc3];simp(disch:=first|go_size|fail)[AR,hc3];exact⟨(ho3.bump _ (by simp)).set _,(hl3.bump (by simp)).set hid _⟩
       ·simp(disch:=first|go_size|fail)[Bx,hc3];simp(disch:=first|go_size|fail)[B5,hc3];simp(disch:=first|go_size|fail)[AR,hc3];exact⟨(ho3.bump _ (by simp)).set _,(hl3.bump (by simp)).set hid _⟩
      ·rintro vs h4 ⟨rfl,ho4,hl4⟩;generalize(bd||decide (s.length<=q))=be at*;have hc4:h4.ab id=some [.str s,I q,.bool be]:=ho4.c;simp(disch:=first|go_size|fail)[JQ,hc4];have ho5:Ob h (h4.set id (.cells (rdC ⟨s,⟨q+1,be⟩⟩))) id (rdC ⟨s,⟨q+1,be⟩⟩):=ho4.set _;have hl5:OL 1 h (h4.set id (.cells (rdC ⟨s,⟨q+1,be⟩⟩))) lv out.length (aR out):=hl4.set hid _;have Jg:h4.set id (.cells [.str s,I ((q:Int)+1),.bool be])=h4.set id (.cells (rdC ⟨s,⟨q+1,be⟩⟩)):=rfl;rw[Jg];generalize h4.set id (.cells (rdC ⟨s,⟨q+1,be⟩⟩))=h5 at*;have hc5:h5.ab id=some [.str s,I (q+1:Nat),.bool be]:=ho5.c;rw[HG hl5];simp(disch:=first|go_size|fail)[];simp(disch:=first|go_size|fail)[Lp];refine⟨λvs h6=>vs=[.str out]/\Ob h h6 id (rdC ⟨s,⟨q+1,be || !(Lib.validD out)⟩⟩),?_,?_⟩
       ·cases be
        ·simp(disch:=first|go_size|fail)[Cx,hc5];refine SR (s:=out) (by omega) ?_;simp(disch:=first|go_size|fail)[Bt,hc5];exact ho5.set _
        ·simp(disch:=first|go_size|fail)[Cx,hc5];simp(disch:=first|go_size|fail)[Bt,hc5];exact ho5.set _
       ·rintro vs h6 ⟨rfl,ho6⟩;simp(disch:=first|go_size|fail)[Kd];exact ho6
     ·simp only[amZ,anX,ana]at bN;obtain⟨hlt,U1⟩:=bN;obtain⟨c,hcp⟩:∃c,s[q]?=some c:=⟨s[q],am0 hlt⟩;have hne:c≠34:=by rintro rfl;rw[hcp]at U1;simp at U1
      obtain⟨m,rfl⟩:∃k,m=k+1:=⟨m-1,by omega⟩;have hq2:rQL s m (out++[(rQ1 s c ⟨q,bd⟩).1]) (rQ1 s c ⟨q,bd⟩).2=R:=by
       rw[<-hqR];conv=>rhs;unfold rQL
       simp[hcp,hne]
      have hq1:=wo s c ⟨q,bd⟩ hcp;simp(disch:=first|go_size|fail)[Gl,hc3];simp(disch:=first|go_size|fail)[TW,hc3,bC hcp];have k92:=JR c;refine⟨λvs h4=>vs=[.ptr id 0,lv,.int .u8 c.toNat,.bool (c==92&&decide (q+1<s.length))]/\Ob h h4 id (rdC ⟨s,⟨q,bd⟩⟩)/\OL 1 h h4 lv out.length (aR out),?_,?_⟩
      ·by_cases h92:c=92
       ·by_cases EU:q+1<s.length
        ·have UT:(q:Int)+1<s.length:=by omega
         simp(disch:=first|go_size|fail)[AN,hc3,k92,h92];simp(disch:=first|go_size|fail)[Bg,hc3,EU,UT];exact⟨ho3.bump _ (by omega),hl3.bump (by omega)⟩
        ·have UT:¬(q:Int)+1<s.length:=by omega
         simp(disch:=first|go_size|fail)[AN,hc3,k92,h92];simp(disch:=first|go_size|fail)[Bg,hc3,EU,UT];exact⟨ho3.bump _ (by omega),hl3.bump (by omega)⟩
       ·simp(disch:=first|go_size|fail)[AN,hc3,k92,h92];simp(disch:=first|go_size|fail)[Bg];exact⟨λh=>absurd h h92,ho3.bump _ (by omega),hl3.bump (by omega)⟩
      ·rintro vs h4 ⟨rfl,ho4,hl4⟩;have hc4:h4.ab id=some [.str s,I q,.bool bd]:=ho4.c;simp(disch:=first|go_size|fail)[QZ];refine⟨λvs h5=>vs=[.ptr id 0,lv,.int .u8 (rQ1 s c ⟨q,bd⟩).1.toNat]/\Ob h h5 id (rdC ⟨s,⟨(rQ1 s c ⟨q,bd⟩).2.pos-1,(rQ1 s c ⟨q,bd⟩).2.bad⟩⟩)/\OL 1 h h5 lv out.length (aR out),?_,?_⟩
       ·by_cases h92:c=92
        ·subst h92;by_cases EU:q+1<s.length
         ·obtain⟨d,hd⟩:∃d,s[q+1]?=some d:=⟨s[q+1],am0 EU⟩;have e:rQ1 s 92 ⟨q,bd⟩=(if d=110 then 10 else d,⟨q+2,bd || !(mq d)⟩):=by unfold rQ1;simp[hd]
          rw[e];simp(disch:=first|go_size|fail)[AU,hc4,EU];have ho5:Ob h (h4.set id (.cells (rdC ⟨s,⟨q+1,bd⟩⟩))) id (rdC ⟨s,⟨q+1,bd⟩⟩):=ho4.set _;have hl5:OL 1 h (h4.set id (.cells (rdC ⟨s,⟨q+1,bd⟩⟩))) lv out.length (aR out):=hl4.set hid _;have Jg:h4.set id (.cells [.str s,I ((q:Int)+1),.bool bd])=h4.set id (.cells (rdC ⟨s,⟨q+1,bd⟩⟩)):=rfl;try rw[Jg]
          have hn5:(h4.set id (.cells (rdC ⟨s,⟨q+1,bd⟩⟩))).nx=h4.nx:=rfl;have kI:∀h:AH,dH h (.str s) (I ((q:Int)+1))=some (.int .u8 d.toNat,h):=λh=>bC (p:=q+1) hd
          generalize h4.set id (.cells (rdC ⟨s,⟨q+1,bd⟩⟩))=h5 at*;have hc5:h5.ab id=some [.str s,I (q+1:Nat),.bool bd]:=ho5.c;simp(disch:=first|go_size|fail)[Sg,hc5,kI];have ajG:=Uj d;have k34:=Ax d;have ajw:=ZK d;by_cases acz:d=110
          ·subst acz;have he:mq 110=true:=rfl;simp(disch:=first|go_size|fail)[IG,he];exact⟨ho5.bump _ (by rw[hn5];simp),hl5.bump (by rw[hn5];simp)⟩
          ·simp(disch:=first|go_size|fail)[IG,ajG,acz];refine⟨λvs h6=>vs=[.ptr id 0,lv,.int .u8 d.toNat,.bool (d != 34&&d != 92)]/\Ob h h6 id (rdC ⟨s,⟨q+1,bd⟩⟩)/\OL 1 h h6 lv out.length (aR out),?_,?_⟩
           ·by_cases agM:d=34
            ·simp(disch:=first|go_size|fail)[G0,k34,agM];exact⟨ho5.bump _ (by rw[hn5];simp),hl5.bump (by rw[hn5];simp)⟩
            ·simp(disch:=first|go_size|fail)[G0,k34,agM,ajw];exact⟨ho5.bump _ (by rw[hn5];simp),hl5.bump (by rw[hn5];simp)⟩
           ·rintro vs h6 ⟨rfl,ho6,hl6⟩;have hc6:h6.ab id=some [.str s,I (q+1:Nat),.bool bd]:=ho6.c;have he:mq d = !(d != 34&&d != 92):=by
             have:(d==110)=false:=by simp[acz]
             unfold mq bne;rw[this];cases(d==34)<;>cases(d==92)<;>rfl
            rw[he];cases(d != 34&&d != 92)
            ·simp(disch:=first|go_size|fail)[Fe,hc6];exact⟨ho6,hl6⟩
            ·simp(disch:=first|go_size|fail)[Fe,hc6];exact⟨ho6.set _,hl6.set hid _⟩
         ·have hn:s[q+1]?=none:=by rw[ank];omega
          have e:rQ1 s 92 ⟨q,bd⟩=(92,⟨q+1,true⟩):=by unfold rQ1;simp[hn]
          rw[e];simp(disch:=first|go_size|fail)[AU,hc4,EU];exact⟨ho4.set _,hl4.set hid _⟩
        ·have e:rQ1 s c ⟨q,bd⟩=(c,⟨q+1,bd⟩):=by unfold rQ1;rw[amU h92]
         rw[e];simp(disch:=first|go_size|fail)[AU,hc4,h92,k92];exact⟨ho4,hl4⟩
       ·rintro vs h5 ⟨rfl,ho5,hl5⟩;obtain⟨lv',h6,hk,hl6,hn6,hg6⟩:=mI (bytes:=1) (tc:=[.int .u8 (rQ1 s c ⟨q,bd⟩).1.toNat]) hl5 ho5.nx rfl rfl (by omega) (by omega);have ho6:=ho5.app hid (by omega) hg6;have hc6:h6.ab id=some [.str s,I ((rQ1 s c ⟨q,bd⟩).2.pos-1:Nat),.bool (rQ1 s c ⟨q,bd⟩).2.bad]:=ho6.c;simp(disch:=first|go_size|fail)[Pu,hk,hc6];simp(disch:=first|go_size|fail)[Tu,hc6];have hl7:(out++[(rQ1 s c ⟨q,bd⟩).1]).length=out.length+1:=by simp
        have hp7:(rQ1 s c ⟨q,bd⟩).2.pos-1+1=(rQ1 s c ⟨q,bd⟩).2.pos:=by omega
        simp only at hq1;refine⟨m,by omega,out++[(rQ1 s c ⟨q,bd⟩).1],(rQ1 s c ⟨q,bd⟩).2,?_,?_,hq1.1,by omega,hq2,by omega⟩
        ·have:=ho6.set (rdC ⟨s,(rQ1 s c ⟨q,bd⟩).2⟩);have e:(((rQ1 s c ⟨q,bd⟩).2.pos-1:Nat):Int)+1=((rQ1 s c ⟨q,bd⟩).2.pos:Int):=by omega
         rw[e];exact this
        ·rw[hl7];have:aR (out++[(rQ1 s c ⟨q,bd⟩).1])=aR out++[.int .u8 (rQ1 s c ⟨q,bd⟩).1.toNat]:=by simp[aR]
         rw[this];exact hl6.set hid _
  ·have eb:(!(s[p]?== some 34))=true:=by simp[h34]
   have eV:ju s ⟨p,b⟩=[]:=by unfold ju;rw[amU h34]
   have eT:fb s ⟨p,b⟩=⟨p,true⟩:=by unfold fb;rw[amU h34]
   rw[eb,eV,eT];simp(disch:=first|go_size|fail)[Bm,hc1];exact ho1.set _
def e88:QE prog:=QE.obj 88 (λ_ _=>True) rdC (fun(_:Unit)=>[]) (fun(x:Rd)(y:Unit)=>match y with|_=>x.Ok) (fun(x:Rd)(y:Unit)=>match y with|_=>.str (ju x.s x.t)) (fun(x:Rd)(y:Unit)=>match y with|_=>⟨x.s,fb x.s x.t⟩) (λh id x y hj hc hid hx=>match y,hx with|_,hx=>Xm h id x hc hid hx)
theorem Yq{tl h}{id:Nat}{x:Rd}{Q:QT}(hc:h.ab id=some (rdC x))(hid:id<h.nx)(hx:x.Ok)(hq:Q (.str (ju x.s x.t)) (h.set id (.cells (rdC (⟨x.s,fb x.s x.t⟩))))):tb (e88::tl) 88 (.ptr id 0::[]) h Q:=bF () trivial hc hid hx hq
@[simp ↓] theorem aj7:TbT e88 88:=aH e88
theorem VX(h:AH)(id:Nat)(x:Rd)(hc:h.ab id=some (rdC x))(hid:id<h.nx)(hx:x.Ok):aK prog 53 [.ptr id 0] h (.str (fP x.s x.t)) (h.set id (.cells (rdC ⟨x.s,ft x.s x.t⟩))):=by
 refine bm (R:=λv h'=>v =.str (fP x.s x.t)/\Ob h h' id (rdC ⟨x.s,ft x.s x.t⟩)) hid (gi _) (C53 (aW [e47,e88]) ?_) λv' h' ⟨h1,h2⟩=>⟨by rw[h1];exact .str _,h2⟩
 simp[g53];refine qd hc hid hx ?_;refine Yq (x:=⟨x.s,aN x.s x.t⟩) (an _ _ _ _ rfl) hid ⟨hx.1,uS hx.2⟩ ?_;exact⟨rfl,((Ob.start hc).set _).set _⟩
def e53:QE prog:=QE.obj 53 (λ_ _=>True) rdC (fun(_:Unit)=>[]) (fun(x:Rd)(y:Unit)=>match y with|_=>x.Ok) (fun(x:Rd)(y:Unit)=>match y with|_=>.str (fP x.s x.t)) (fun(x:Rd)(y:Unit)=>match y with|_=>⟨x.s,ft x.s x.t⟩) (λh id x y hj hc hid hx=>match y,hx with|_,hx=>VX h id x hc hid hx)
theorem Qv{tl h}{id:Nat}{x:Rd}{Q:QT}(hc:h.ab id=some (rdC x))(hid:id<h.nx)(hx:x.Ok)(hq:Q (.str (fP x.s x.t)) (h.set id (.cells (rdC (⟨x.s,ft x.s x.t⟩))))):tb (e53::tl) 53 (.ptr id 0::[]) h Q:=bF () trivial hc hid hx hq
@[simp ↓] theorem akj:TbT e53 53:=aH e53
def e_(s w:Str)(t:RS):Bool:=decide (t.pos+w.length<=s.length)&&((s.drop t.pos).take w.length==w)
def dA(s w:Str)(t:RS):RS:=if e_ s w t=true then⟨t.pos+w.length,t.bad⟩else t
theorem WR{s w:Str}{t:RS}(h:t.pos<=s.length+1):(dA s w t).pos<=s.length+1:=by
 unfold dA;split
 ·rename_i hb;simp only[e_,amZ,ana]at hb;simp only;omega
 ·exact h
theorem Ov(h:AH)(id:Nat)(x:Rd)(w:Str)(hc:h.ab id=some (rdC x))(hid:id<h.nx)(hx:x.Ok/\w.length<=100):aK prog 87 [.ptr id 0,.str w] h (.bool (e_ x.s w x.t)) (h.set id (.cells (rdC ⟨x.s,dA x.s w x.t⟩))):=by
 obtain⟨s,⟨p,b⟩⟩:=x;obtain⟨⟨hs,hp⟩,hw⟩:=hx;simp only at hs hp;refine bm (R:=λv h'=>v =.bool (e_ s w ⟨p,b⟩)/\Ob h h' id (rdC ⟨s,dA s w ⟨p,b⟩⟩)) hid (gi _) (C87 (aW []) ?_) λv' h' ⟨h1,h2⟩=>⟨by rw[h1];exact .bool _,h2⟩
 have hc':h.ab id=some [.str s,I p,.bool b]:=hc;simp(disch:=first|go_size|fail)[g87];refine⟨λvs h'=>vs=[.ptr id 0,.str w,.bool (!(e_ s w ⟨p,b⟩))]/\Ob h h' id (rdC ⟨s,⟨p,b⟩⟩),?_,?_⟩
 ·by_cases hle:p+w.length<=s.length
  ·have Ja:¬(s.length:Int)-p<w.length:=by omega
   have e:e_ s w ⟨p,b⟩=((s.drop p).take w.length==w):=by simp[e_,hle]
   rw[e];have kS:∀h:AH,gI h (.str s) (some (I p)) (some (I ((p:Int)+w.length)))=some (.str ((s.drop p).take w.length),h):=λh=>by
    have:=nG (h:=h) (s:=s) (a:=p) (b:=p+w.length) (by omega) hle;rwa [show p+w.length-p=w.length by omega]at this
   simp(disch:=first|go_size|fail)[G9,hc'];simp(disch:=first|go_size|fail)[G1,hc',Ja];simp(disch:=first|go_size|fail)[EZ,hc'];simp(disch:=first|go_size|fail)[Gc,hc',kS];simp(disch:=first|go_size|fail)[FY];exact(Ob.start hc).bump _ (by simp)
  ·have Ja:(s.length:Int)-p<w.length:=by omega
   have e:e_ s w ⟨p,b⟩=false:=by simp[e_,hle]
   rw[e];simp(disch:=first|go_size|fail)[G9,hc'];simp(disch:=first|go_size|fail)[G1,hc',Ja];simp(disch:=first|go_size|fail)[EZ];simp(disch:=first|go_size|fail)[Gc];simp(disch:=first|go_size|fail)[FY];exact(Ob.start hc).bump _ (by simp)
 ·rintro vs h1 ⟨rfl,ho⟩;have hc1:h1.ab id=some [.str s,I p,.bool b]:=ho.c;unfold dA;cases e_ s w ⟨p,b⟩
  ·simp(disch:=first|go_size|fail)[Hw];exact ho
  ·simp(disch:=first|go_size|fail)[Hw,hc1];simp(disch:=first|go_size|fail)[Qu];exact ho.set _
def e87:QE prog:=QE.obj 87 (λ_ _=>True) rdC (fun(w:Str)=>[.str w]) (fun(x:Rd)(y:Str)=>match y with|w=>x.Ok/\w.length<=100) (fun(x:Rd)(y:Str)=>match y with|w=>.bool (e_ x.s w x.t)) (fun(x:Rd)(y:Str)=>match y with|w=>⟨x.s,dA x.s w x.t⟩) (λh id x y hj hc hid hx=>match y,hx with|w,hx=>Ov h id x w hc hid hx)
theorem Lm{tl h}{id:Nat}{x:Rd}(w:Str){Q:QT}(hc:h.ab id=some (rdC x))(hid:id<h.nx)(hx:x.Ok/\w.length<=100)(hq:Q (.bool (e_ x.s w x.t)) (h.set id (.cells (rdC (⟨x.s,dA x.s w x.t⟩))))):tb (e87::tl) 87 (.ptr id 0::[.str w]) h Q:=bF w trivial hc hid hx hq
@[simp ↓] theorem akN:TbT e87 87:=aH e87
def jg(l:List Str)(w:Str):Int:=if w=[]then -1 else idx l w
theorem QW(h:AH)(l:List Str)(w:Str)(hl:l.length<=1000):aK prog 48 [bU l,.str w] h (I (jg l w)) h:=by
 refine aZ (R:=λv h'=>v=I (jg l w)/\h'=h) (C48 (aW []) ?_) λv' h' ⟨h1,h2⟩=>⟨by rw[h1];exact .int _ _,by rw[h2];exact amY _,λi _=>by rw[h2]⟩
 simp[g48];refine⟨λm vs h'=>∃i:Nat,vs=[bU l,.str w,I i]/\h'=h/\i<=l.length/\(w≠[]->∀j,j<i->∀s,l[j]?=some s->s≠w)/\m=l.length-i,l.length,?_,?_⟩
 ·exact⟨0,rfl,rfl,by omega,λ_ j hj=>by omega,by omega⟩
 ·rintro m vs h' ⟨i,rfl,rfl,hi,hne,rfl⟩;by_cases hlt:i<l.length
  ·have cw:(i:Int)<l.length:=by omega
   obtain⟨s,hs⟩:∃s,l[i]?=some s:=⟨l[i],am0 hlt⟩;simp[H0,mQ,cw];refine⟨λvs h2=>vs=[bU l,.str w,I i,.bool (s==w&&w != [])]/\h2=h',?_,?_⟩
   ·by_cases he:s=w
    ·subst he;simp[FZ,eU h' l i s hs];cases s<;>rfl
    ·simp(disch:=first|go_size|fail)[FZ,eU h' l i s hs,he]
   ·rintro vs h2 ⟨rfl,rfl⟩;cases bN:(s==w&&w != [])
    ·simp(disch:=first|go_size|fail)[FW];refine⟨l.length-(i+1),by omega,i+1,by omega,by omega,λhw j hj s' hs'=>?_,rfl⟩;by_cases hji:j=i
     ·subst hji;rw[hs]at hs';cases hs';rintro rfl;simp[hw]at bN
     ·exact hne hw j (by omega) s' hs'
    ·simp only[amZ,an2,bne_iff_ne]at bN;obtain⟨rfl,hw⟩:=bN;have e:jg l s=i:=by unfold jg;rw[amU hw,Tt hs (hne hw)]
     simp[FW];simp[Ht];rw[e]
  ·have cw:¬(i:Int)<l.length:=by omega
   have e:jg l w = -1:=by
    unfold jg;split
    ·rfl
    ·rename_i hw;exact oS λj hj=>hne hw j (by omega)
   simp[H0,mQ,cw];simp[Ht];simp[Fy];rw[e]
def e48:QE prog:=QE.fn 48 (λ_=>True) (fun(y:List Str×Str)=>match y with|⟨l,w⟩=>[bU l,.str w]) (fun(y:List Str×Str)(h:AH)=>match y with|⟨l,w⟩=>l.length<=1000) (fun(y:List Str×Str)=>match y with|⟨l,w⟩=>I (jg l w)) (λh y hj hx=>match y,hx with|⟨l,w⟩,hx=>QW h l w hx)
theorem Ys{tl h}(l:List Str)(w:Str){Q:QT}(hx:l.length<=1000)(hq:Q (I (jg l w)) h):tb (e48::tl) 48 [bU l,.str w] h Q:=aV (l,w) trivial hx hq
@[simp ↓] theorem akX:TbT e48 48:=aH e48
theorem jZ{h':AH}{n k:Nat}{l:List Str}(hc:h'.ab k=some (l.map .str))(hn:n<=k):Frz (fresh h' n) false (.rsl k 0 l.length 1) (bU l):=by
 have hf:(fresh h' n).ab k=some (l.map .str):=by rw[iA hn];exact hc
 have:=Frz.rsl (h:=fresh h' n) (n:=false) k 0 1 (l.map .str) (l.map λs=>[.str s]) hf (by simp) (λi y hy=>by
  rw[anb]at hy;cases hl:l[i]? with
  |none=>rw[hl]at hy;simp at hy
  |some s=>rw[hl]at hy;simp at hy;subst hy;rfl) (λi y j c d hy hd hc=>by
  rw[anb]at hy;cases hl:l[i]? with
  |none=>rw[hl]at hy;simp at hy
  |some s=>
   rw[hl]at hy;simp at hy;subst hy;match j with
   |0=>
    simp at hd;subst hd;rw[show 0+i*1+0=i by omega,anb,hl]at hc;simp at hc;subst hc;exact .str _
   |j+1=>simp at hd)
 rwa [aor]at this
def gM:List Str:=[[],QS,QY,adK,ga,On,K5]
def dI:List Str:=[Wp,VF,G5,Gw,NQ,Rv,IM,B3,ME]
theorem adw(h:AH)(_:True):aK prog 39 [] h (bU gM) h:=by
 refine aZ (R:=λv h'=>Frz (fresh h' h.nx) false v (bU gM)/\h.nx<=h'.nx/\∀i,i<h.nx->h'.H.get i=h.H.get i) (C39 (aW []) ?_) λv' h' h1=>h1
 simp[g39];refine⟨?_,?_⟩
 ·exact jZ (l:=gM) (aj _ _ _ rfl) (amY _)
 ·intro i hi;rw[az,amU (by omega)]
def e39:QE prog:=QE.fn 39 (λ_=>True) (fun(_:Unit)=>[]) (fun(_:Unit)(h:AH)=>True) (fun(_:Unit)=>bU gM) (λh _ hj hx=>adw h hx)
theorem R6{tl h}{Q:QT}(hx:True)(hq:Q (bU gM) h):tb (e39::tl) 39 [] h Q:=aV () trivial hx hq
@[simp ↓] theorem akn:TbT e39 39:=aH e39
theorem aep(h:AH)(_:True):aK prog 44 [] h (bU dI) h:=by
 refine aZ (R:=λv h'=>Frz (fresh h' h.nx) false v (bU dI)/\h.nx<=h'.nx/\∀i,i<h.nx->h'.H.get i=h.H.get i) (C44 (aW []) ?_) λv' h' h1=>h1
 simp[g44];refine⟨?_,?_⟩
 ·exact jZ (l:=dI) (aj _ _ _ rfl) (amY _)
 ·intro i hi;rw[az,amU (by omega)]
def e44:QE prog:=QE.fn 44 (λ_=>True) (fun(_:Unit)=>[]) (fun(_:Unit)(h:AH)=>True) (fun(_:Unit)=>bU dI) (λh _ hj hx=>aep h hx)
theorem JB{tl h}{Q:QT}(hx:True)(hq:Q (bU dI) h):tb (e44::tl) 44 [] h Q:=aV () trivial hx hq
@[simp ↓] theorem akA:TbT e44 44:=aH e44
def fL(s:Str)(V:RS->Val×RS):Nat->List Val->RS->List Val×RS
 |0,acc,t=>(acc,t)
 |n+1,acc,t=>if t.bad=true then(acc,t)else if e_ s [93] t=true then(acc,dA s [93] t)else fL s V n (acc++[(V (if acc=[]then t else aN s t)).1]) (V (if acc=[]then t else aN s t)).2
def lI(s:Str)(V:RS->Val×RS)(t:RS):List Val×RS:=fL s V (s.length+3) [] t
def o6(s:Str)(L:RS->Val×RS)(t:RS):Val×RS:=
 if t.bad=true then(Val.zero,t)
 else if e_ s d_ t=true then(.mk 2 1 [] [],dA s d_ t)
 else if e_ s dk t=true then(.mk 2 0 [] [],dA s dk t)
 else if s[t.pos]?=some 34 then(.mk 3 0 (ju s t) [],fb s t)
 else if e_ s [91] t=true then L (dA s [91] t)
 else(.mk 1 (dV (s.drop t.pos)) [] [],dU s t)
def fm(s:Str):Nat->RS->Val×RS
 |0=>o6 s λt=>(.mk 4 0 [] [],⟨t.pos,true⟩)
 |k+1=>o6 s λt=>(.mk 4 0 [] (lI s (fm s k) t).1,(lI s (fm s k) t).2)
structure bX(s:Str)(t u:RS):Prop where
 le:t.pos<=u.pos
 lt:u.pos<=s.length+1
 ok:u.bad=false->t.bad=false
theorem bX.trans{s:Str}{t u v:RS}(a:bX s t u)(b:bX s u v):bX s t v:=⟨ane a.le b.le,b.lt,λh=>a.ok (b.ok h)⟩
theorem bX.refl{s:Str}{t:RS}(h:t.pos<=s.length+1):bX s t t:=⟨amY _,h,id⟩
theorem cg(s:Str)(t:RS)(ht:t.pos<=s.length+1):bX s t (aN s t):=by
 refine⟨?_,uS ht,?_⟩
 ·unfold aN;split<;>simp
 ·unfold aN;split
  ·exact id
  ·intro h;cases h
theorem fM(s w:Str)(t:RS)(ht:t.pos<=s.length+1):bX s t (dA s w t):=by
 refine⟨?_,WR ht,?_⟩
 ·unfold dA;split<;>simp
 ·unfold dA;split<;>exact id
theorem pJ{s w:Str}{t:RS}(h:e_ s w t=true)(hw:0<w.length):t.pos<(dA s w t).pos:=by
 unfold dA;rw[am1 h];simp only;omega
theorem zb(s:Str)(t:RS)(ht:t.pos<=s.length+1):bX s t (dU s t)/\((dU s t).bad=false->t.pos<(dU s t).pos):=by
 unfold dU;have h1:(s.drop t.pos).length=s.length-t.pos:=am3;refine⟨⟨by simp,by simp only;omega,λh=>?_⟩,λh=>?_⟩
 ·simp only[anC]at h;exact h.1
 ·simp only[anC,aoF]at h;have h2:=h.2;unfold kU at h2;simp only[amZ,ana]at h2;have h3:(fH (s.drop t.pos)).length<=(fF (s.drop t.pos)).length:=C6 _ _;have h4:(fF (s.drop t.pos)).length<=(s.drop t.pos).length:=by
   cases hl:s.drop t.pos with
   |nil=>simp[fF]
   |cons c l=>
    by_cases h45:c=45
    ·subst h45;simp[fF]
    ·simp[fF,h45]
  have h5:=h2.1.1.1;simp only;omega
theorem zu(s:Str)(c:UInt8)(t:RS)(hc:s[t.pos]?=some c):bX s t (rQ1 s c t).2:=by
 have h:=wo s c t hc;refine⟨by omega,by omega,?_⟩;unfold rQ1;split
 ·split
  ·simp only[anC];exact λh=>h.1
  ·intro h;cases h
 ·exact id
theorem sN(s:Str):∀(n:Nat) (out:Str) (t:RS),t.pos<=s.length->bX s t (rQL s n out t).2/\(rQL s n out t).2.pos<=s.length
 |0,out,t,ht=>⟨bX.refl (Nat.le_succ_of_le ht),ht⟩
 |n+1,out,t,ht=>by
  unfold rQL;cases hc:s[t.pos]? with
  |none=>exact⟨bX.refl (by omega),ht⟩
  |some c=>
   simp only;split
   ·exact⟨bX.refl (by omega),ht⟩
   ·have h1:=zu s c t hc;have h2:=sN s n (out++[(rQ1 s c t).1]) (rQ1 s c t).2 (wo s c t hc).1;exact⟨h1.trans h2.1,h2.2⟩
theorem mA(s:Str)(t:RS)(ht:t.pos<=s.length+1):bX s t (fb s t)/\((fb s t).bad=false->t.pos<(fb s t).pos):=by
 unfold fb;split
 ·rename_i h34;have hlt:=(amV.1 h34).1;have h2:=sN s s.length [] ⟨t.pos+1,t.bad⟩ (by simp only;omega);have h3:=h2.1.le;simp only at h3;refine⟨⟨by simp only;omega,by have:=h2.2;simp only;omega,λh=>?_⟩,λ_=>by simp only;omega⟩;simp only[anC]at h;exact h2.1.ok h.1.1
 ·exact⟨⟨amY _,ht,λh=>by cases h⟩,λh=>by cases h⟩
def rO(s:Str)(V:RS->Val×RS):Prop:=∀t,t.pos<=s.length+1->bX s t (V t).2/\((V t).2.bad=false->t.pos<(V t).2.pos)
theorem fO{s:Str}{V:RS->Val×RS}(hV:rO s V):∀(n:Nat) (acc:List Val) (t:RS),t.pos<=s.length+1->bX s t (fL s V n acc t).2
 |0,acc,t,ht=>bX.refl ht
 |n+1,acc,t,ht=>by
  unfold fL;split
  ·exact bX.refl ht
  ·split
   ·exact fM s [93] t ht
   ·have h1:bX s t (if acc=[]then t else aN s t):=by
     split
     ·exact bX.refl ht
     ·exact cg s t ht
    have h2:=(hV _ h1.lt).1;exact(h1.trans h2).trans (fO hV n _ _ h2.lt)
theorem tz{s:Str}{L:RS->Val×RS}(hL:∀t,t.pos<=s.length+1->bX s t (L t).2):rO s (o6 s L):=by
 intro t ht;unfold o6;split
 ·rename_i hb;exact⟨bX.refl ht,λh=>by simp only at h;rw[hb]at h;cases h⟩
 ·split
  ·rename_i hs;exact⟨fM s _ t ht,λ_=>pJ hs (by decide)⟩
  ·split
   ·rename_i hs;exact⟨fM s _ t ht,λ_=>pJ hs (by decide)⟩
   ·split
    ·exact mA s t ht
    ·split
     ·rename_i hs;have h1:=fM s [91] t ht;have h2:=hL _ h1.lt;exact⟨h1.trans h2,λ_=>ant (pJ hs (by decide)) h2.le⟩
     ·exact zb s t ht
theorem fU(s:Str):∀k,rO s (fm s k)
 |0=>tz λt ht=>⟨amY _,ht,λh=>by cases h⟩
 |k+1=>tz λt ht=>fO (fU s k) _ _ _ ht
def mz(s:Str)(t:RS):Nat:=if t.bad=true then 0 else s.length+2-t.pos
def sM(s:Str)(V:RS->Val×RS)(d:Int):Prop:=∀(h:AH) (id:Nat) (t:RS),h.ab id=some (rdC ⟨s,t⟩)->id<h.nx->(Rd.mk s t).Ok->aK prog 52 [.ptr id 0,I d] h (.agg (vC (V t).1)) (h.set id (.cells (rdC ⟨s,(V t).2⟩)))
def eRV(s:Str)(V:RS->Val×RS)(d:Int)(hv:sM s V d):QE prog:=
 ⟨52,λargs h Q=>∃id t,args=[.ptr id 0,I d]/\h.ab id=some (rdC ⟨s,t⟩)/\id<h.nx/\(Rd.mk s t).Ok/\Q (.agg (vC (V t).1)) (h.set id (.cells (rdC ⟨s,(V t).2⟩))),λargs h Q ⟨id,t,h1,h2,h3,h4,h5⟩=>by
  subst h1;exact⟨_,_,hv h id t h2 h3 h4,h5⟩⟩
theorem aeW{s:Str}{V:RS->Val×RS}{d:Int}{hv:sM s V d}{tl h}{id:Nat}{t:RS}{Q:QT}(hc:h.ab id=some (rdC ⟨s,t⟩))(hid:id<h.nx)(hx:(Rd.mk s t).Ok)
  (hq:Q (.agg (vC (V t).1)) (h.set id (.cells (rdC ⟨s,(V t).2⟩)))):tb (eRV s V d hv::tl) 52 [.ptr id 0,I d] h Q:=by
 rw[dJ _ tl 52 _ _ _ rfl];exact⟨id,t,rfl,hc,hid,hx,hq⟩
structure RI(h h':AH)(id:Nat)(s:Str)(t:RS):Prop where
 ob:Ob h h' id (rdC ⟨s,t⟩)
 r0:h'.ab h.nx=some z4
 nx:h.nx+1<=h'.nx
theorem RI.set{h h':AH}{id:Nat}{s:Str}{t:RS}(l:RI h h' id s t)(hid:id<h.nx)(u:RS):RI h (h'.set id (.cells (rdC ⟨s,u⟩))) id s u:=
 ⟨l.ob.set _,by rw[ak _ _ _ _ (by omega)];exact l.r0,l.nx⟩
theorem RI.bump{h h':AH}{id:Nat}{s:Str}{t:RS}(l:RI h h' id s t){k:Nat}(hk:h'.nx<=k):RI h ⟨h'.H,k⟩ id s t:=⟨l.ob.bump _ hk,l.r0,ane l.nx hk⟩
theorem RI.fin{h h':AH}{id:Nat}{s:Str}{t:RS}(l:RI h h' id s t)(hid:id<h.nx)(o:dx):Ob h (h'.set h.nx o) id (rdC ⟨s,t⟩):=l.ob.app hid (amY _) λi hi=>by rw[au,amU (by omega)]
def RQ(h:AH)(id:Nat)(s:Str)(r:Val×RS):QT:=λx h'=>Frz (fresh h' h.nx) false x (.agg (vC r.1))/\Ob h h' id (rdC ⟨s,r.2⟩)
theorem w8{cl:CL}{h:AH}{id:Nat}{s:Str}{t:RS}{d:Int}{L:RS->Val×RS}{tl:List (QE prog)}(hcl:cl=tb (e87::e88::e85::tl))(hc:h.ab id=some (rdC ⟨s,t⟩))(hid:id<h.nx)(hx:(Rd.mk s t).Ok)
  (hq:∀h2,t.bad=false->RI h h2 id s (dA s [91] t)->(dA s [91] t).bad=false/\1<=(dA s [91] t).pos->aI (zY cl (.ptr id 0) (I d) (.ptr h.nx 0) h2) λvs h3=>uN cl (ai vs 0) (ai vs 1) (ai vs 2) h3 (RQ h id s (L (dA s [91] t)))):g52 cl (.ptr id 0) (I d) h (RQ h id s (o6 s L t)):=by
 subst hcl;have hs:=hx.1;have hp:=hx.2;simp only at hs hp;have hne:id≠h.nx:=by omega
 have hl:RI h (h.add (.cells z4)) id s t:=⟨(Ob.start hc).new hid (by simp) λi hi=>by rw[az,amU (by omega)],aj _ _ _ rfl,by simp⟩;have fJ:h.add (.cells [I 0,I 0,.str [],.aa])=h.add (.cells z4):=rfl;have hc0:h.ab id=some [.str s,I t.pos,.bool t.bad]:=hc;unfold o6;cases hb:t.bad
 ·rw[hb]at hc0;simp[g52,hc0,hne];rw[fJ];generalize h.add (.cells z4)=h1 at*;refine Lm (w:=d_) (x:=⟨s,t⟩) hl.ob.c (hl.ob.lt hid) ⟨hx,by decide⟩ ?_;have hl1:=hl.set hid (dA s d_ t);have h1k:=fM s d_ t hp;simp only at hl1 ⊢;have hr1:(h1.set id (.cells (rdC ⟨s,dA s d_ t⟩))).ab h.nx=some [I 0,I 0,.str [],.aa]:=hl1.r0;cases hs1:e_ s d_ t
  ·have et:dA s d_ t=t:=by unfold dA;rw[hs1];rfl
   rw[et]at hl1 hr1 ⊢;generalize h1.set id (.cells (rdC ⟨s,t⟩))=h2 at*;simp[];refine Lm (w:=dk) (x:=⟨s,t⟩) hl1.ob.c (hl1.ob.lt hid) ⟨hx,by decide⟩ ?_;have hl2:=hl1.set hid (dA s dk t);simp only at hl2 ⊢;have hr2:(h2.set id (.cells (rdC ⟨s,dA s dk t⟩))).ab h.nx=some [I 0,I 0,.str [],.aa]:=hl2.r0;cases hs2:e_ s dk t
   ·have et:dA s dk t=t:=by unfold dA;rw[hs2];rfl
    rw[et]at hl2 hr2 ⊢;generalize h2.set id (.cells (rdC ⟨s,t⟩))=h3 at*;simp[];have hc3:h3.ab id=some [.str s,I t.pos,.bool t.bad]:=hl2.ob.c;refine⟨λvs h4=>vs=[.ptr id 0,I d,.ptr h.nx 0,.bool (s[t.pos]?== some 34)]/\RI h h4 id s t,?_,?_⟩
    ·by_cases hlt:t.pos<s.length
     ·obtain⟨c,hcp⟩:∃c,s[t.pos]?=some c:=⟨s[t.pos],am0 hlt⟩;have cw:(t.pos:Int)<s.length:=by omega
      have k1:=Ke c;rw[hcp];simp[HZ,hc3];simp[FD,hc3,cw];simp[HX,hc3,bC hcp,k1];exact hl2.bump (by simp)
     ·have cw:¬(t.pos:Int)<s.length:=by omega
      have hn:s[t.pos]?=none:=by rw[ank];omega
      rw[hn];simp[HZ,hc3];simp[FD,hc3,cw];simp[HX];exact hl2.bump (by simp)
    ·rintro vs h4 ⟨rfl,hl4⟩;by_cases h34:s[t.pos]?=some 34
     ·rw[am1 h34,h34];simp[z7];refine Yq (x:=⟨s,t⟩) hl4.ob.c (hl4.ob.lt hid) hx ?_;have hl5:=hl4.set hid (fb s t);simp only at hl5 ⊢;have hr5:(h4.set id (.cells (rdC ⟨s,fb s t⟩))).ab h.nx=some [I 0,I 0,.str [],.aa]:=hl5.r0;generalize h4.set id (.cells (rdC ⟨s,fb s t⟩))=h5 at*;simp[hr5];exact⟨oO dn,hl5.fin hid _⟩
     ·have ajm:(s[t.pos]?== some 34)=false:=by simp[h34]
      rw[amU h34,ajm];simp[z7];refine Lm (w:=[91]) (x:=⟨s,t⟩) hl4.ob.c (hl4.ob.lt hid) ⟨hx,by decide⟩ ?_;have hl5:=hl4.set hid (dA s [91] t);simp only at hl5 ⊢;cases hs5:e_ s [91] t
      ·have et:dA s [91] t=t:=by unfold dA;rw[hs5];rfl
       rw[et]at hl5 ⊢;generalize h4.set id (.cells (rdC ⟨s,t⟩))=h5 at*;simp[];refine XX (x:=⟨s,t⟩) hl5.ob.c (hl5.ob.lt hid) hx ?_;have hl6:=hl5.set hid (dU s t);simp only at hl6 ⊢;have hr6:(h5.set id (.cells (rdC ⟨s,dU s t⟩))).ab h.nx=some [I 0,I 0,.str [],.aa]:=hl6.r0;generalize h5.set id (.cells (rdC ⟨s,dU s t⟩))=h6 at*;simp[hr6];exact⟨oO dn,hl6.fin hid _⟩
      ·have hbd:(dA s [91] t).bad=false:=by unfold dA;rw[am1 hs5];exact hb
       have:=hq _ hb hl5 ⟨hbd,aom (aoo _) (pJ hs5 (by decide))⟩;generalize h4.set id (.cells (rdC ⟨s,dA s [91] t⟩))=h5 at*;simp[];exact this
   ·generalize h2.set id (.cells (rdC ⟨s,dA s dk t⟩))=h3 at*;simp[hr2];exact⟨oO dn,hl2.fin hid _⟩
  ·generalize h1.set id (.cells (rdC ⟨s,dA s d_ t⟩))=h2 at*;simp[hr1];exact⟨oO dn,hl1.fin hid _⟩
 ·rw[hb]at hc0;simp[g52,hc0,hne];exact⟨oO dn,hl.fin hid _⟩
structure RL(h hb h':AH)(id k5:Nat)(s:Str)(t:RS)(lv:AV)(acc:List Val):Prop where
 ob:Ob h h' id (rdC ⟨s,t⟩)
 r0:h'.ab h.nx=some z4
 r1:h'.ab k5=some [I 4,I 0,.str [],lv]
 nx:hb.nx<=h'.nx
 ol:OL 4 hb h' lv acc.length (cZ acc)
theorem RL.set{h hb h':AH}{id k5:Nat}{s:Str}{t:RS}{lv:AV}{acc:List Val}(l:RL h hb h' id k5 s t lv acc)(hid:id<h.nx)(hk:h.nx<k5/\k5<hb.nx)(u:RS):RL h hb (h'.set id (.cells (rdC ⟨s,u⟩))) id k5 s u lv acc:=
 ⟨l.ob.set _,by rw[ak _ _ _ _ (by omega)];exact l.r0,by rw[ak _ _ _ _ (by omega)];exact l.r1,l.nx,l.ol.set (by omega) _⟩
theorem RL.bump{h hb h':AH}{id k5:Nat}{s:Str}{t:RS}{lv:AV}{acc:List Val}(l:RL h hb h' id k5 s t lv acc){k:Nat}(hk:h'.nx<=k):RL h hb ⟨h'.H,k⟩ id k5 s t lv acc:=
 ⟨l.ob.bump _ hk,l.r0,l.r1,ane l.nx hk,l.ol.bump hk⟩
theorem JI{cl:CL}{h h3:AH}{id:Nat}{s:Str}{u:RS}{d:Int}{V:RS->Val×RS}{tl:List (QE prog)}(hcl:cl=tb (e87::e88::e85::e47::tl))(hid:id<h.nx)(hs:s.length<=1000000)(hd:0<=d/\d<=1000)(hu:u.pos<=s.length+1/\1<=u.pos)(hl3:RI h h3 id s u)(hK:rO s V)
  (Mx:u.bad=false->∀(h:AH) (t:RS) (Q:QT),h.ab id=some (rdC ⟨s,t⟩)->id<h.nx->(Rd.mk s t).Ok->Q (.agg (vC (V t).1)) (h.set id (.cells (rdC ⟨s,(V t).2⟩)))->tb tl 52 [.ptr id 0,I (d+1)] h Q):
  uN cl (.ptr id 0) (I d) (.ptr h.nx 0) h3 (RQ h id s (.mk 4 0 [] (lI s V u).1,(lI s V u).2)):=by
 subst hcl;have hn3:=hl3.nx;have ne1:id≠h3.nx:=by omega
 simp[uN];obtain⟨k5,hk5⟩:∃k5,k5=h3.nx:=⟨_,rfl⟩;obtain⟨hb,hhb⟩:∃hb:AH,hb=(h3.add (.cells z4)).set h3.nx (.cells [I 4,I 0,.str [],.aa]):=⟨_,rfl⟩;have hbn:h.nx<k5/\k5<hb.nx:=by rw[hhb];simp;omega
 have hl:RL h hb hb id k5 s u .aa []:=by
  rw[hhb,hk5];refine⟨?_,?_,an _ _ _ _ rfl,amY _,OL.start _ _ _⟩
  ·refine hl3.ob.new hid (by simp) λi hi=>?_
   rw[au,amU (by omega),az,amU (by omega)]
  ·rw[ak _ _ _ _ (by omega),aC _ _ _ (by omega)];exact hl3.r0
 have fJ:(h3.add (.cells [I 0,I 0,.str [],.aa])).set h3.nx (.cells [I 4,I 0,.str [],.aa])=hb:=by rw[hhb];rfl
 rw[fJ,<-hk5];clear fJ hhb;have pq:fL s V (s.length+3) [] u=lI s V u:=rfl;generalize hR:lI s V u=R at*;refine⟨λm vs h'=>∃acc t lv,vs=[.ptr id 0,I d,.ptr h.nx 0,.ptr k5 0]/\RL h hb h' id k5 s t lv acc/\t.pos<=s.length+1/\mz s t<=m/\fL s V m acc t=R/\(t.bad=false->acc.length+1<=t.pos)/\acc.length<=s.length+2/\(t.bad=false->u.bad=false),s.length+3,?_,?_⟩
 ·exact⟨[],u,.aa,rfl,hl,hu.1,by unfold mz;split<;>omega,pq,λ_=>by simpa using hu.2,by simp,λh=>h⟩
 ·rintro m vs h' ⟨acc,t,lv,rfl,hl,hp,hm,hq,hlen,MA,hub⟩;have hx:(Rd.mk s t).Ok:=⟨hs,hp⟩;have hc':h'.ab id=some [.str s,I t.pos,.bool t.bad]:=hl.ob.c;simp[RX];refine⟨λvs h4=>vs=[.ptr id 0,I d,.ptr h.nx 0,.ptr k5 0,.bool (!t.bad && !(e_ s [93] t))]/\RL h hb h4 id k5 s (if t.bad=true then t else dA s [93] t) lv acc,?_,?_⟩
  ·cases hb2:t.bad
   ·rw[hb2]at hc';simp[HD,hc'];refine Lm (w:=[93]) (x:=⟨s,t⟩) hl.ob.c (hl.ob.lt hid) ⟨hx,by decide⟩ ?_;have:=hl.set hid hbn (dA s [93] t);simp only at this ⊢;generalize h'.set id (.cells (rdC ⟨s,dA s [93] t⟩))=h5 at*;simp[];exact this
   ·rw[hb2]at hc';simp[HD,hc'];exact hl
  ·rintro vs h4 ⟨rfl,hl4⟩;cases bN:(!t.bad && !(e_ s [93] t))
   ·have ly:fL s V m acc t=(acc,if t.bad=true then t else dA s [93] t):=by
     cases m with
     |zero=>
      unfold mz at hm;split at hm
      ·rename_i hb2;rw[am1 hb2];rfl
      ·omega
     |succ m=>
      unfold fL;cases hb2:t.bad
      ·rw[hb2]at bN;simp at bN;simp[bN]
      ·simp
    generalize(if t.bad=true then t else dA s [93] t)=t4 at*;rw[hq]at ly;subst ly;have hr1:=hl4.r1;have hr0:h4.ab h.nx=some [I 0,I 0,.str [],.aa]:=hl4.r0;simp[H8];simp[SY];simp[Gi,hr1,hr0,jy hl4.ol];have hn4:=hl4.nx;have ol5:OL 4 hb (h4.set h.nx (.cells [I 4,I 0,.str [],lv])) lv acc.length (cZ acc):=hl4.ol.du (amY _) λi hi _=>by rw[au,amU (by omega)]
    exact⟨oO (qx ol5 (by omega)),hl4.ob.app hid (amY _) λi hi=>by rw[au,amU (by omega)]⟩
   ·simp only[amZ,anX]at bN;obtain⟨hb2,agA⟩:=bN;have et:(if t.bad=true then t else dA s [93] t)=t:=by rw[hb2];unfold dA;rw[agA];rfl
    rw[et]at hl4;obtain⟨m,rfl⟩:∃k,m=k+1:=⟨m-1,by unfold mz at hm;rw[hb2]at hm;simp at hm;omega⟩;have hq2:=hq;unfold fL at hq2;rw[hb2,agA]at hq2;simp only[am7,ans]at hq2;have hr1:=hl4.r1;simp[H8,hr1,Bj hl4.ol];have hk1:bX s t (if acc=[]then t else aN s t):=by
     split
     ·exact bX.refl hp
     ·exact cg s t hp
    refine⟨λvs h5=>vs=[.ptr id 0,I d,.ptr h.nx 0,.ptr k5 0]/\RL h hb h5 id k5 s (if acc=[]then t else aN s t) lv acc,?_,?_⟩
    ·by_cases ha:acc=[]
     ·subst ha;simp[E3];exact hl4
     ·have ot:0<acc.length:=anI.2 ha;simp[E3,ha,ot];refine qd (x:=⟨s,t⟩) hl4.ob.c (hl4.ob.lt hid) hx ?_;exact hl4.set hid hbn _
    ·rintro vs h5 ⟨rfl,hl5⟩;generalize(if acc=[]then t else aN s t)=w at*;have hKu:=hK w hk1.lt;have ach:=hl5.r1;simp(disch:=first|go_size|fail)[TB,ach];refine Mx (hub hb2) _ w _ hl5.ob.c (by have:=hl5.ob.lt hid;simp;omega) ⟨hs,hk1.lt⟩ ?_;have hl6:=(hl5.bump (k:=h5.nx+10) (by omega)).set hid hbn (V w).2;refine⟨by simp,?_⟩;generalize hVu:V w=vu at*;obtain⟨⟨k',n',s',l'⟩,u'⟩:=vu;simp only[vC]at*;have hn5:=hl5.nx;have mj:aU (.read k5) (.eff (AH.mk h5.H (h5.nx+10)) ((AH.mk h5.H (h5.nx+10)).set id (.cells (rdC ⟨s,u'⟩))))=true:=cP _ _ _ _ (by omega);have hl7:RL h hb (((AH.mk h5.H (h5.nx+10)).set id (.cells (rdC ⟨s,u'⟩))).set (h5.nx+6) (.cells [I k',I n',.str s',.psl (vCs l')])) id k5 s u' lv acc:=by
      refine⟨hl6.ob.app hid (amY _) λi hi=>by rw[au,amU (by omega)],?_,?_,by simp;omega,?_⟩
      ·rw[ak _ _ _ _ (by omega)];exact hl6.r0
      ·rw[ak _ _ _ _ (by omega)];exact hl6.r1
      ·exact hl5.ol.du (by simp) λi hi hi2=>by rw[au,amU (by omega),au,amU (by omega)]
     have hq6:(((AH.mk h5.H (h5.nx+10)).set id (.cells (rdC ⟨s,u'⟩))).set (h5.nx+6) (.cells [I k',I n',.str s',.psl (vCs l')])).ab (h5.nx+6)=some [I k',I n',.str s',.psl (vCs l')]:=an _ _ _ _ rfl;have hn6:(((AH.mk h5.H (h5.nx+10)).set id (.cells (rdC ⟨s,u'⟩))).set (h5.nx+6) (.cells [I k',I n',.str s',.psl (vCs l')])).nx=h5.nx+10:=rfl;have haf:bW [I 0,I 0,.str [],.aa] [(0,4,.agg [I k',I n',.str s',.psl (vCs l')])]=some [I k',I n',.str s',.psl (vCs l')]:=rfl;obtain⟨lv',h8,hk8,hl8,hn8,hg8⟩:=mw (bytes:=56) hl7.ol (by omega) hq6 rfl rfl (by have:=hlen hb2;omega) (by omega);rw[haf];simp(disch:=first|go_size|fail)[];refine fR hk8 (by omega) ?_;rw[hn6]at hn8;have hr8:h8.ab k5=some [I 4,I 0,.str [],lv]:=by rw[ay (hg8 k5 (by omega))];exact hl7.r1
     have ho8:Ob h h8 id (rdC ⟨s,u'⟩):=hl7.ob.app hid (by omega) λi hi=>hg8 i (by omega)
     have aiP:h8.ab h.nx=some z4:=by rw[ay (hg8 h.nx (by omega))];exact hl7.r0
     have iC:=jy hl8;have ab7:aU (.read k5) (.alloc (h5.nx+6) (.cells [I k',I n',.str s',.psl (vCs l')]))=true:=by
      rw[fw];simp;omega
     generalize(((AH.mk h5.H (h5.nx+10)).set id (.cells (rdC ⟨s,u'⟩))).set (h5.nx+6) (.cells [I k',I n',.str s',.psl (vCs l')]))=h7 at*;simp[Pv,hr8,iC,mj,ab7];have hst:kSt h8 1 (.ptr k5 3) lv'=some (.undef,h8.set k5 (.cells [I 4,I 0,.str [],lv'])):=by
      have hl9:=hl8;rcases hl9 with⟨_,h0,_⟩|⟨k,hk0,_⟩
      ·omega
      ·rw[hk0];simp[hr8]
     refine fR hst (by simp) ?_;refine⟨m,by omega,acc++[.mk k' n' s' l'],u',⟨lv',?_,?_,an _ _ _ _ rfl,by simp;omega,?_⟩,hKu.1.lt,?_,hq2,?_,?_,?_⟩
     ·exact ho8.app hid (by simp) λi hi=>by rw[au,amU (by omega)]
     ·rw[ak _ _ _ _ (by omega)];exact aiP
     ·rw[jL,amX];exact hl8.du (by simp) λi hi _=>by rw[au,amU (by omega)]
     ·unfold mz at hm ⊢;rw[hb2]at hm;simp only[am7,ans]at hm;cases hu':u'.bad
      ·have:=hKu.2 hu';have:=hk1.le;have:=hKu.1.lt;simp only[am7,ans];omega
      ·simp
     ·intro hu';have:=hKu.2 hu';have:=hk1.le;have:=hlen hb2;rw[amX];simp only[am2];omega
     ·have:=hlen hb2;rw[amX];simp only[am2];omega
     ·intro hu';exact hub hb2
theorem Xf{s:Str}{d:Int}(hd:d=17):sM s (fm s 0) d:=by
 intro h id t hc hid hx;have hs:=hx.1;have hp:=hx.2;simp only at hs hp;refine bm (R:=RQ h id s (fm s 0 t)) hid (gi _) (C52 (aW [e87,e88,e85,e47]) (w8 (L:=λt=>(.mk 4 0 [] [],⟨t.pos,true⟩)) (tl:=[e47]) rfl hc hid hx λh2 hb hl ⟨hb2,hu1⟩=>?_)) λv' h' hq=>hq
 have hu:=(fM s [91] t hp).lt;generalize dA s [91] t=u at*;have hc2:h2.ab id=some [.str s,I u.pos,.bool u.bad]:=hl.ob.c;subst hd;refine⟨λvs h3=>vs=[.ptr id 0,I 17,.ptr h.nx 0]/\RI h h3 id s ⟨u.pos,true⟩,?_,?_⟩
 ·rw[hb2]at hc2;simp[zY,hc2];simp[HJ,hc2];exact hl.set hid ⟨u.pos,true⟩
 ·rintro vs h3 ⟨rfl,hl3⟩;exact JI (u:=⟨u.pos,true⟩) (V:=fm s 0) (tl:=[]) rfl hid hs ⟨by omega,by omega⟩ ⟨hu,hu1⟩ hl3 (fU s 0) λh=>by cases h
theorem Wr{s:Str}{k:Nat}{d:Int}(hd:0<=d/\d<=16)(hv:sM s (fm s k) (d+1)):sM s (fm s (k+1)) d:=by
 intro h id t hc hid hx;have hs:=hx.1;have hp:=hx.2;simp only at hs hp;refine bm (R:=RQ h id s (fm s (k+1) t)) hid (gi _) (C52 (aW [e87,e88,e85,e47,eRV s (fm s k) (d+1) hv]) (w8 (L:=λt=>(.mk 4 0 [] (lI s (fm s k) t).1,(lI s (fm s k) t).2)) (tl:=[e47,eRV s (fm s k) (d+1) hv]) rfl hc hid hx λh2 hb hl ⟨hb2,hu1⟩=>?_)) λv' h' hq=>hq
 have hu:=(fM s [91] t hp).lt;generalize dA s [91] t=u at*;have hc2:h2.ab id=some [.str s,I u.pos,.bool u.bad]:=hl.ob.c;refine⟨λvs h3=>vs=[.ptr id 0,I d,.ptr h.nx 0]/\RI h h3 id s u,?_,?_⟩
 ·have hd':¬16<d:=by omega
  obtain⟨up,ub⟩:=u;simp only at hb2 hc2;subst hb2;simp[zY,hc2];simp[HJ,hc2,hd'];exact hl.set hid ⟨up,false⟩
 ·rintro vs h3 ⟨rfl,hl3⟩;exact JI (u:=u) (V:=fm s k) (tl:=[eRV s (fm s k) (d+1) hv]) rfl hid hs ⟨by omega,by omega⟩ ⟨hu,hu1⟩ hl3 (fU s k) λ_ h t Q h1 h2 h3 h4=>aeW h1 h2 h3 h4
theorem Px(s:Str):∀(k:Nat) (d:Int),d+k=17->0<=d->sM s (fm s k) d
 |0,d,h1,_=>Xf (by omega)
 |k+1,d,h1,h0=>Wr ⟨h0,by omega⟩ (Px s k (d+1) (by omega) (by omega))
theorem S4(h:AH)(id:Nat)(x:Rd)(hc:h.ab id=some (rdC x))(hid:id<h.nx)(hx:x.Ok):aK prog 52 [.ptr id 0,I 1] h (.agg (vC (fm x.s 16 x.t).1)) (h.set id (.cells (rdC ⟨x.s,(fm x.s 16 x.t).2⟩))):=
 Px x.s 16 1 (by omega) (by omega) h id x.t hc hid hx
def e52:QE prog:=QE.obj 52 (λ_ _=>True) rdC (fun(_:Unit)=>[I 1]) (fun(x:Rd)(y:Unit)=>match y with|_=>x.Ok) (fun(x:Rd)(y:Unit)=>match y with|_=>.agg (vC (fm x.s 16 x.t).1)) (fun(x:Rd)(y:Unit)=>match y with|_=>⟨x.s,(fm x.s 16 x.t).2⟩) (λh id x y hj hc hid hx=>match y,hx with|_,hx=>S4 h id x hc hid hx)
theorem afj{tl h}{id:Nat}{x:Rd}{Q:QT}(hc:h.ab id=some (rdC x))(hid:id<h.nx)(hx:x.Ok)(hq:Q (.agg (vC (fm x.s 16 x.t).1)) (h.set id (.cells (rdC (⟨x.s,(fm x.s 16 x.t).2⟩))))):tb (e52::tl) 52 (.ptr id 0::[I 1]) h Q:=bF () trivial hc hid hx hq
@[simp ↓] theorem aj1:TbT e52 52:=aH e52
def iI:Str:=[115,112,97,99,101]
def dB:List Str:=[[99,116,114,108],[97,108,116],[115,104,105,102,116],[109,101,116,97]]
def ij:List Str:=[[],[116,97,98],[101,110,116,101,114],[101,115,99,97,112,101],[98,97,99,107,115,112,97,99,101],[100,101,108,101,116,101],[108,101,102,116],[114,105,103,104,116],[117,112],[100,111,119,110],[104,111,109,101],[101,110,100],[102,49],[102,50],[102,51],[102,52],[102,53],[102,54],[102,55],[102,56],[102,57],[102,49,48],[102,49,49],[102,49,50]]
def tB(i:Nat)(x:Str×Nat):Str×Nat:=
 if((dB.getD i [])++[43]).length<x.1.length/\x.1.take ((dB.getD i [])++[43]).length=(dB.getD i [])++[43]then(x.1.drop ((dB.getD i [])++[43]).length,x.2+2^i)else x
def dQ(w:Str):Nat->Str×Nat
 |0=>(w,0)
 |i+1=>tB i (dQ w i)
def mo(w:Str):Nat->Int
 |0=>0
 |k+1=>if ij.getD (k+1) []=w then((k+1:Nat):Int)else mo w k
def qw(w:Str):Int:=
 let k:=if w=iI then 32 else mo w 23
 if k=0/\(aD w).length=1/\32<(aD w).headD 0 then(aD w).headD 0 else k
def fa(k m:Int):Bool:=
 decide (0<=m)&&decide (m<=15)&&((decide (1<=k)&&decide (k<=23))||(decide (32<=k)&&decide (k<=1114111)&&(decide (k<55296)||decide (57343<k))&&(decide (k<65)||decide (90<k))))
theorem jJ(k m:Int):fa k m=decide (0<=m/\m<=15/\((1<=k/\k<=23)\/(32<=k/\k<=1114111/\(k<55296\/57343<k)/\(k<65\/90<k)))):=by
 simp[fa,aoP,Bool.decide_or,Bool.and_assoc]
def gU(k:Int):Str:=if k<=23 then ij.getD k.toNat []else if k=32 then iI else oe k
def bL(w:Str):Int×Int×Bool:=
 (qw (dQ w 4).1,((dQ w 4).2:Int),decide (0<qw (dQ w 4).1)&&fa (qw (dQ w 4).1) (dQ w 4).2&&(gU (qw (dQ w 4).1)==(dQ w 4).1))
theorem X_(h:AH)(i:Nat)(hi:i<9):ae h .shl (I 1) (.int .u64 i)=some (I ((2^i:Nat):Int),h):=by
 have:i=0\/i=1\/i=2\/i=3\/i=4\/i=5\/i=6\/i=7\/i=8:=by omega
 rcases this with rfl|rfl|rfl|rfl|rfl|rfl|rfl|rfl|rfl<;>rfl
theorem y2(i:Nat)(hi:i<9):IntKind.u64.wrap (i:Int)=i:=by
 simp only[IntKind.wrap,IntKind.bits,IntKind.signed];simp;omega
theorem Cq{h:AH}{s:Str}{b:Nat}(h2:b<=s.length):gI h (.str s) none (some (I b))=some (.str (s.take b),h):=by
 have q2:(b:Int)<=s.length:=by omega
 simp[gI,mC,abd,oc,q2,cut]
theorem pL{h:AH}{s:Str}{a:Nat}(h1:a<=s.length):gI h (.str s) (some (I a)) none=some (.str (s.drop a),h):=by
 have q1:(a:Int)<=s.length:=by omega
 simp[gI,mC,abd,oc,q1,cut];rw[anc];rw[am3];omega
theorem Z7(h:AH)(_:True):aK prog 114 [] h (bU dB) h:=by
 refine aZ (R:=λv h'=>Frz (fresh h' h.nx) false v (bU dB)/\h.nx<=h'.nx/\∀i,i<h.nx->h'.H.get i=h.H.get i) (ail (aW []) ?_) λv' h' h1=>h1
 simp[adT];refine⟨?_,?_⟩
 ·exact jZ (l:=dB) (aj _ _ _ rfl) (amY _)
 ·intro i hi;rw[az,amU (by omega)]
def MR:QE prog:=QE.fn 114 (λ_=>True) (fun(_:Unit)=>[]) (fun(_:Unit)(h:AH)=>True) (fun(_:Unit)=>bU dB) (λh _ hj hx=>Z7 h hx)
theorem Po{tl h}{Q:QT}(hx:True)(hq:Q (bU dB) h):tb (MR::tl) 114 [] h Q:=aV () trivial hx hq
@[simp ↓] theorem aid:TbT MR 114:=aH MR
theorem aaq(h:AH)(_:True):aK prog 115 [] h (bU ij) h:=by
 refine aZ (R:=λv h'=>Frz (fresh h' h.nx) false v (bU ij)/\h.nx<=h'.nx/\∀i,i<h.nx->h'.H.get i=h.H.get i) (aib (aW []) ?_) λv' h' h1=>h1
 simp[afZ];refine⟨?_,?_⟩
 ·exact jZ (l:=ij) (aj _ _ _ rfl) (amY _)
 ·intro i hi;rw[az,amU (by omega)]
def Ns:QE prog:=QE.fn 115 (λ_=>True) (fun(_:Unit)=>[]) (fun(_:Unit)(h:AH)=>True) (fun(_:Unit)=>bU ij) (λh _ hj hx=>aaq h hx)
theorem He{tl h}{Q:QT}(hx:True)(hq:Q (bU ij) h):tb (Ns::tl) 115 [] h Q:=aV () trivial hx hq
@[simp ↓] theorem ahl:TbT Ns 115:=aH Ns
theorem QU(h:AH)(k m:Int)(_:True):aK prog 82 [.agg [I k,I m]] h (.bool (fa k m)) h:=by
 refine aZ (R:=λv h'=>v =.bool (fa k m)/\h.nx<=h'.nx/\∀i,i<h.nx->h'.H.get i=h.H.get i) (C82 (aW []) ?_) λv' h' ⟨h1,h2,h3⟩=>⟨by rw[h1];exact .bool _,h2,h3⟩
 simp[g82];have hc1:(h.add (.cells [I k,I m])).ab h.nx=some [I k,I m]:=aj _ _ _ rfl;have hg:∀i,i<h.nx->(h.add (.cells [I k,I m])).H.get i=h.H.get i:=λi hi=>by rw[az,amU (by omega)]
 have hn:h.nx<=(h.add (.cells [I k,I m])).nx:=by simp
 generalize h.add (.cells [I k,I m])=h1 at*;refine⟨λvs h'=>vs=[.ptr h.nx 0,.bool (!(decide (0<=m)&&decide (m<=15)))]/\h'=h1,?_,?_⟩
 ·simp[O7,hc1];refine⟨λh=>.inl h,λh=>?_⟩;have:decide (0<=m)=true:=by simpa using h
  rw[this];by_cases h15:15<m
  ·have:¬m<=15:=by omega
   simp[h15,this]
  ·have:m<=15:=by omega
   simp[h15,this]
 ·rintro vs h' ⟨rfl,rfl⟩;have hP:=eq_true hg;by_cases hm:0<=m/\m<=15
  ·simp[EY,hm,hc1];refine⟨λvs h2=>vs=[I k,.bool (decide (1<=k)&&decide (k<=23))]/\h2=h',?_,?_⟩
   ·simp[Ue];omega
   ·rintro vs h2 ⟨rfl,rfl⟩;simp[Rl];simp[PN,hn,hP];simp[T_,hn,hP];simp only[jJ,ana,ano,aoh];omega
  ·simp[EY,hm,hn,hP];intro _;simp only[fa,an_,ano];omega
def e82:QE prog:=QE.fn 82 (λ_=>True) (fun(y:Int×Int)=>match y with|⟨k,m⟩=>[.agg [I k,I m]]) (fun(y:Int×Int)(h:AH)=>match y with|⟨k,m⟩=>True) (fun(y:Int×Int)=>match y with|⟨k,m⟩=>.bool (fa k m)) (λh y hj hx=>match y,hx with|⟨k,m⟩,hx=>QU h k m hx)
theorem Yi{tl h}(k:Int)(m:Int){Q:QT}(hx:True)(hq:Q (.bool (fa k m)) h):tb (e82::tl) 82 [.agg [I k,I m]] h Q:=aV (k,m) trivial hx hq
@[simp ↓] theorem akP:TbT e82 82:=aH e82
theorem gr{l:List Str}{i:Nat}(h:i<l.length):l[i]?=some (l.getD i []):=by
 rw[anh,am0 h];rfl
theorem rf(k:Int):(oe k).length<=4:=by
 rw[pQ];have:=Lib.encodeRuneZ_length k;unfold Lib.encodeRune;rw[aor];exact this.2
theorem aaH(h:AH)(k:Int)(hk:1<=k/\k<=1114111/\(k<=23\/32<=k)):aK prog 83 [.agg [I k,I 0]] h (.str (gU k)) h:=by
 refine aZ (R:=λv h'=>v =.str (gU k)/\h.nx<=h'.nx/\∀i,i<h.nx->h'.H.get i=h.H.get i) (C83 (aW [MR,Ns]) ?_) λv' h' ⟨h1,h2,h3⟩=>⟨by rw[h1];exact .str _,h2,h3⟩
 simp[g83];have hc1:(h.add (.cells [I k,I 0])).ab h.nx=some [I k,I 0]:=aj _ _ _ rfl;have hg:∀i,i<h.nx->(h.add (.cells [I k,I 0])).H.get i=h.H.get i:=λi hi=>by rw[az,amU (by omega)]
 have hn:h.nx<=(h.add (.cells [I k,I 0])).nx:=by simp
 generalize h.add (.cells [I k,I 0])=h1 at*;refine⟨λn vs h'=>∃i:Nat,vs=[.ptr h.nx 0,.str [],I i]/\h'=h1/\i<=4/\n=4-i,4,?_,?_⟩
 ·exact⟨0,rfl,rfl,by omega,rfl⟩
 ·rintro n vs h' ⟨i,rfl,rfl,hi,rfl⟩;by_cases h4:i<4
  ·have h4':(i:Int)<4:=by omega
   simp[vA,h4'];refine⟨λvs h2=>vs=[.ptr h.nx 0,.str [],I i]/\h2=h',?_,?_⟩
   ·have:i=0\/i=1\/i=2\/i=3:=by omega
    have hsh:ae h' .shr (I 0) (.int .u64 i)=some (I 0,h'):=by rcases this with rfl|rfl|rfl|rfl<;>rfl
    have hand:ae h' .and (I 0) (I 1)=some (I 0,h'):=rfl;simp(disch:=first|go_size|fail)[BF,hc1,y2 i (by omega),hsh,hand]
   ·rintro vs h2 ⟨rfl,rfl⟩;simp(disch:=first|go_size|fail)[Gp];exact⟨4-(i+1),by omega,i+1,by omega,by omega,rfl⟩
  ·have h4':¬(i:Int)<4:=by omega
   simp[vA,h4'];simp[Fx];have hP:=eq_true hg;by_cases h23:k<=23
   ·have UF:k.toNat<ij.length:=by show k.toNat<24;omega
    have hx:=eU ⟨h'.H,h'.nx+8⟩ ij k.toNat _ (gr UF);have e:((k.toNat:Nat):Int)=k:=by omega
    rw[e]at hx;simp[o_,hc1,h23];refine He trivial ?_;simp[hc1];rw[hx];have hw:(ij.getD k.toNat []).length<=1000:=by
     have:=am9 (gr UF);exact(by decide:∀w∈ij,w.length<=1000) _ this
    have eS:gU k=ij.getD k.toNat []:=by unfold gU;rw[am1 h23]
    rw[eS];generalize ij.getD k.toNat []=W at*;simp[];simp[Gs];rw[bQ (by simp;omega)];simp[hn,hP];omega
   ·by_cases h32:k=32
    ·subst h32;simp[o_,hc1,hn,hP];rw[bQ (by decide)];simp[hn,hP];rfl
    ·have eS:gU k=oe k:=by unfold gU;rw[amU h23,amU h32]
     rw[eS];have U7:IntKind.i32.wrap k=k:=by simp only[IntKind.wrap,IntKind.bits,IntKind.signed];simp;omega
     have hX:∀h:AH,kX h .i2s [.int .i32 k]=some (.str (oe k),h):=λh=>rfl
     simp[o_,hc1,h23,h32];simp[Ia,U7,hX];rw[bQ (by have:=rf k;simp;omega)];simp[hn,hP]
def e83:QE prog:=QE.fn 83 (λ_=>True) (fun(k:Int)=>[.agg [I k,I 0]]) (fun(k:Int)(h:AH)=>1<=k/\k<=1114111/\(k<=23\/32<=k)) (fun(k:Int)=>.str (gU k)) (λh k hj hx=>aaH h k hx)
theorem aej{tl h}(k:Int){Q:QT}(hx:1<=k/\k<=1114111/\(k<=23\/32<=k))(hq:Q (.str (gU k)) h):tb (e83::tl) 83 [.agg [I k,I 0]] h Q:=aV k trivial hx hq
theorem Vn(i:Nat):(dB.getD i []).length<=10:=by
 by_cases h:i<4
 ·exact(by decide:∀w∈dB,w.length<=10) _ (am9 (gr (l:=dB) h))
 ·have:dB.getD i []=[]:=by rw[anh,aoa (by show 4<=i;omega)];rfl
  rw[this];simp
theorem Eo(w:Str):∀i,(dQ w i).1.length<=w.length
 |0=>amY _
 |i+1=>by
  have:=Eo w i;simp only[dQ,tB];split
  ·simp only[am3];omega
  ·exact this
theorem JV(w:Str):∀i,(dQ w i).2<2^i
 |0=>by simp[dQ]
 |i+1=>by
  have:=JV w i;simp only[dQ,tB];rw[aoR];split
  ·simp only;omega
  ·omega
structure SK(h h':AH)(k:Int)(m:Nat):Prop where
 r0:h'.ab h.nx=some [I 0,I 0]
 r1:h'.ab (h.nx+1)=some [I k,I m]
 nx:h.nx+2<=h'.nx
 get:∀i,i<h.nx->h'.H.get i=h.H.get i
theorem SK.set{h h':AH}{k:Int}{m:Nat}(s:SK h h' k m)(k2:Int)(m2:Nat):SK h (h'.set (h.nx+1) (.cells [I k2,I m2])) k2 m2:=
 ⟨by rw[ak _ _ _ _ (by omega)];exact s.r0,an _ _ _ _ rfl,s.nx,λi hi=>by rw[au,amU (by omega)];exact s.get i hi⟩
theorem SK.new{h h' h2:AH}{k:Int}{m:Nat}(s:SK h h' k m)(hn:h'.nx<=h2.nx)(hg:∀i,i<h'.nx->h2.H.get i=h'.H.get i):SK h h2 k m:=
 have n1:=s.nx
 ⟨by rw[ay (hg _ (by omega))];exact s.r0,by rw[ay (hg _ (by omega))];exact s.r1,by omega,λi hi=>by rw[hg i (by omega)];exact s.get i hi⟩
theorem MJ(h:AH)(w:Str)(hw:w.length<=1000000):aK prog 86 [.str w] h (.tup [.agg [I (bL w).1,I (bL w).2.1],.bool (bL w).2.2]) h:=by
 refine aZ (R:=λv h'=>v =.tup [.agg [I (bL w).1,I (bL w).2.1],.bool (bL w).2.2]/\h.nx<=h'.nx/\∀i,i<h.nx->h'.H.get i=h.H.get i) (C86 (aW [MR,Ns,e82,e83]) ?_) λv' h' ⟨h1,h2,h3⟩=>⟨?_,h2,h3⟩
 ·simp[g86];have fJ:((h.add (.cells [I 0,I 0])).add (.cells [I 0,I 0])).set (h.nx+1) (.cells [I 0,I 0])=((h.add (.cells [I 0,I 0])).add (.cells [I 0,I 0])).set (h.nx+1) (.cells [I 0,I (dQ w 0).2]):=rfl;rw[fJ];have hS:SK h (((h.add (.cells [I 0,I 0])).add (.cells [I 0,I 0])).set (h.nx+1) (.cells [I 0,I (dQ w 0).2])) 0 (dQ w 0).2:=by
   refine⟨?_,an _ _ _ _ rfl,by simp,λi hi=>?_⟩
   ·rw[ak _ _ _ _ (by omega),aC _ _ _ (by simp)];exact aj _ _ _ rfl
   ·rw[au,amU (by omega),az,amU (by simp;omega),az,amU (by omega)]
  generalize((h.add (.cells [I 0,I 0])).add (.cells [I 0,I 0])).set (h.nx+1) (.cells [I 0,I (dQ w 0).2])=h1 at*;refine⟨λn vs h'=>∃i:Nat,vs=[.str (dQ w i).1,.ptr h.nx 0,.ptr (h.nx+1) 0,I i]/\SK h h' 0 (dQ w i).2/\i<=4/\n=4-i,4,?_,?_⟩
  ·exact⟨0,rfl,hS,by omega,rfl⟩
  ·rintro n vs h' ⟨i,rfl,hS,hi,rfl⟩;have hl:=Eo w i;have hm:=JV w i;by_cases h4:i<4
   ·have h4':(i:Int)<4:=by omega
    have hx:=λh=>eU h dB i _ (gr (l:=dB) h4)
    have hml:=Vn i;have e1:dQ w (i+1)=tB i (dQ w i):=rfl;unfold tB at e1;generalize hy:dQ w (i+1)=y at*;generalize hx':dQ w i=x at*;obtain⟨u,m⟩:=x;simp only at*;simp[Ig,h4'];refine⟨λvs h2=>vs=[.str y.1,.ptr h.nx 0,.ptr (h.nx+1) 0,I i]/\SK h h2 0 y.2,?_,?_⟩
    ·simp[Qo];refine Po trivial ?_;simp[SD];rw[hx];generalize dB.getD i []=N at*;simp[];rw[bQ (by simp;omega)];generalize hN:N++[43]=N' at*;have hNl:N'.length<=11:=by rw[<-hN];simp;omega
     simp[];refine⟨λvs h2=>vs=[.str u,.ptr h.nx 0,.ptr (h.nx+1) 0,I i,.str N',.bool (decide (N'.length<u.length)&&(u.take N'.length==N'))]/\h2=h',?_,?_⟩
     ·by_cases hlt:N'.length<u.length
      ·have cw:(N'.length:Int)<u.length:=by omega
       simp[Fl,cw,Cq (Nat.le_of_lt hlt)];simp[Hi,hlt]
      ·have cw:¬(N'.length:Int)<u.length:=by omega
       simp[Fl,cw];simp[Hi,hlt]
     ·rintro vs h2 ⟨rfl,rfl⟩;have hr1:=hS.r1;cases bN:(decide (N'.length<u.length)&&(u.take N'.length==N'))
      ·have:y=(u,m):=by
        rw[e1,amU];rintro⟨q1,q2⟩;simp[q1,q2]at bN
       subst this;simp[Gz];exact hS
      ·simp only[amZ,ana,an2]at bN;have:y=(u.drop N'.length,m+2^i):=by rw[e1,am1 bN]
       subst this;have hpw:2^i<=8:=by
        have:i=0\/i=1\/i=2\/i=3:=by omega
        rcases this with rfl|rfl|rfl|rfl<;>decide
       have hm8:m<=8:=by omega
       simp(disch:=first|go_size|fail)[Gz,hr1,y2 i (by omega),X_ _ i (by omega)];simp(disch:=first|go_size|fail)[SP,pL (Nat.le_of_lt bN.1)];have e2:(2:Int)^i=((2^i:Nat):Int):=by simp
       rw[e2];generalize 2^i=P at*;simp(disch:=first|go_size|fail)[hr1];exact hS.set 0 (m+P)
    ·rintro vs h2 ⟨rfl,hS2⟩;simp(disch:=first|go_size|fail)[Qd];exact⟨4-(i+1),by omega,i+1,⟨by rw[hy],by omega⟩,by rw[hy];exact hS2,by omega,rfl⟩
   ·obtain rfl:i=4:=by omega
    unfold bL;generalize dQ w 4=x at*;obtain⟨u,m⟩:=x;simp only at*;have hcr:(h'.add (.cells ((aD u).map bH))).ab h'.nx=some ((aD u).map bH):=aj _ _ _ rfl;have hS2:=hS.new (h2:=h'.add (.cells ((aD u).map bH))) (by simp) λi hi=>by rw[az,amU (by omega)]
    have hkR:h.nx+2<=h'.nx/\h'.nx<(h'.add (.cells ((aD u).map bH))).nx:=⟨hS.nx,by simp⟩;simp(disch:=first|go_size|fail)[Ig];simp(disch:=first|go_size|fail)[J2];simp(disch:=first|go_size|fail)[zR,qj h' u (by omega)];generalize h'.add (.cells ((aD u).map bH))=h2 at*;generalize h'.nx=kR at*;refine⟨λn vs h3=>∃j:Nat,vs=[.str u,.ptr h.nx 0,.ptr (h.nx+1) 0,.rsl kR 0 (aD u).length 1,I (j+1:Nat)]/\SK h h3 (mo u j) m/\h3.ab kR=some ((aD u).map bH)/\j<=23/\kR<h3.nx/\n=23-j,23,?_,?_⟩
    ·exact⟨0,rfl,hS2,hcr,by omega,hkR.2,rfl⟩
    ·rintro n vs h3 ⟨j,rfl,hS3,hc3,hj,hkn,rfl⟩;by_cases alG:j<23
     ·have hj':(j:Int)+1<=23:=by omega
      have hx:=λh=>eU h ij (j+1) _ (gr (l:=ij) (by show j+1<24;omega))
      have e1:mo u (j+1)=if ij.getD (j+1) []=u then((j+1:Nat):Int)else mo u j:=rfl
      generalize hy:mo u (j+1)=y at*;generalize ij.getD (j+1) []=N at*;simp(disch:=first|go_size|fail)[Hx,hj'];refine⟨λvs h4=>vs=[.str u,.ptr h.nx 0,.ptr (h.nx+1) 0,.rsl kR 0 (aD u).length 1,I (j+1:Nat)]/\SK h h4 y m/\h4.ab kR=some ((aD u).map bH)/\kR<h4.nx,?_,?_⟩
      ·simp(disch:=first|go_size|fail)[QR];refine He trivial ?_;simp(disch:=first|go_size|fail)[Qz];have hx3:aF h3 1 (bU ij) (I ((j:Int)+1))=some (.cd [.str N],h3):=hx h3;rw[hx3];have hr1:=hS3.r1;by_cases he:N=u
       ·rw[am1 he]at e1;rw[e1];simp(disch:=first|go_size|fail)[he,hr1];refine⟨hS3.set _ _,?_,hkn⟩;rw[amU (by omega)];exact hc3
       ·rw[amU he]at e1;rw[e1];simp(disch:=first|go_size|fail)[he];exact⟨hS3,hc3,hkn⟩
      ·rintro vs h4 ⟨rfl,hS4,hc4,hk4⟩;simp(disch:=first|go_size|fail)[Uk];exact⟨23-(j+1),by omega,j+1,by omega,by rw[hy];exact hS4,hc4,by omega,hk4,rfl⟩
     ·obtain rfl:j=23:=by omega
      simp(disch:=first|go_size|fail)[Hx];simp(disch:=first|go_size|fail)[JJ];simp(disch:=first|go_size|fail)[B4];have hr1:=hS3.r1;have hk:qw u=if(if u=iI then 32 else mo u 23)=0/\(aD u).length=1/\32<(aD u).headD 0 then(aD u).headD 0 else(if u=iI then 32 else mo u 23):=rfl
      generalize hK1:(if u=iI then 32 else mo u 23)=K1 at*;refine⟨λvs h4=>vs=[.str u,.ptr h.nx 0,.ptr (h.nx+1) 0,.rsl kR 0 (aD u).length 1]/\SK h h4 K1 m/\h4.ab kR=some ((aD u).map bH)/\kR<h4.nx,?_,?_⟩
      ·by_cases hsp:u=iI
       ·rw[am1 hsp]at hK1;subst hK1;have abQ:u=[115,112,97,99,101]:=hsp;have hq:(u==[115,112,97,99,101])=true:=by rw[abQ];rfl
        rw[hq];simp(disch:=first|go_size|fail)[F2,hr1];refine⟨hS3.set _ _,?_,hkn⟩;rw[amU (by omega)];exact hc3
       ·rw[amU hsp]at hK1;subst hK1;have abQ:¬u=[115,112,97,99,101]:=hsp;have hq:(u==[115,112,97,99,101])=false:=by simpa using abQ
        rw[hq];simp(disch:=first|go_size|fail)[F2];exact⟨hS3,hc3,hkn⟩
      ·rintro vs h4 ⟨rfl,hS4,hc4,hk4⟩;have hr4:=hS4.r1;simp(disch:=first|go_size|fail)[JY];have hrb:0<=(aD u).headD 0/\(aD u).headD 0<=1114111:=by
        by_cases hne:u=[]
        ·subst hne;simp[mb]
        ·rw[fG u hne];have:=Lib.decodeL_rune u;simp only[List.headD_cons];omega
       have hhd:(aD u).length=1->((aD u).map bH)[0]?=some (.int .i32 ((aD u).headD 0)):=by
        intro h1;obtain⟨r,hr⟩:=List.length_eq_one_iff.1 h1;rw[hr];rfl
       generalize hL:(aD u).length=L at*;generalize(aD u).headD 0=r at*;generalize(aD u).map bH=RC at*;refine⟨λvs h5=>vs=[.str u,.ptr h.nx 0,.ptr (h.nx+1) 0,.rsl kR 0 L 1,.bool (decide (K1=0)&&decide (L=1)&&decide (32<r))]/\h5=h4,?_,?_⟩
       ·by_cases q0:K1=0
        ·by_cases q1:L=1
         ·have h0:=hhd q1;subst q1;have hix:aF h4 1 (.rsl kR 0 1 1) (I 0)=some (.ptr kR 0,h4):=dY (by omega) (by omega);simp(disch:=first|go_size|fail)[uI,hr4,q0];simp(disch:=first|go_size|fail)[Cr,hix,hc4,h0]
         ·have q1':¬(L:Int)=1:=by omega
          simp(disch:=first|go_size|fail)[uI,hr4,q0,q1'];simp(disch:=first|go_size|fail)[Cr,q1]
        ·simp(disch:=first|go_size|fail)[uI,hr4,q0];simp[Cr]
       ·rintro vs h5 ⟨rfl,rfl⟩;simp[Lv];refine⟨λvs h6=>vs=[.str u,.ptr h.nx 0,.ptr (h.nx+1) 0]/\SK h h6 (qw u) m,?_,?_⟩
        ·by_cases hcd:K1=0/\L=1/\32<r
         ·rw[am1 hcd]at hk;rw[hk];obtain⟨q0,q1,q2⟩:=hcd;have h0:=hhd q1;subst q1;have hix:aF h5 1 (.rsl kR 0 1 1) (I 0)=some (.ptr kR 0,h5):=dY (by omega) (by omega);have hwr:IntKind.i64.wrap r=r:=lG (by omega) (by omega);simp[AQ,q0,q2,hix,hc4,h0,hwr,hr4];exact hS4.set _ _
         ·rw[amU hcd]at hk;rw[hk];have:(decide (K1=0)&&decide (L=1)&&decide (32<r))=false:=by
           simp only[an_,ano];omega
          rw[this];simp[AQ];exact hS4
        ·rintro vs h6 ⟨rfl,hS6⟩;generalize qw u=K at*;have hr6:=hS6.r1;simp[KR,hr6];have hn6:=hS6.nx;have hne:h.nx≠h.nx+1:=by omega
         have hr0:=hS6.r0;have hgg:=hS6.get;refine⟨λhK=>?_,λhK=>?_⟩
         ·refine Yi (k:=K) (m:=m) trivial ?_;refine⟨amY _,?_⟩;cases hv:fa K m
          ·simp[BH];simp[BA,hr0];refine⟨by omega,λi hi=>?_⟩;rw[au,amU (by omega)];exact hgg i hi
          ·have hv2:=hv;rw[jJ,ana]at hv2;simp[BH,hr6];refine aej (k:=K) (by omega) ?_;simp[];simp[BA,hr0];refine⟨λ_=>hK,by omega,λi hi=>?_⟩;rw[au,amU (by omega)];exact hgg i hi
         ·have hK':¬0<K:=by omega
          simp[BH];simp[BA,hr0,hK'];refine⟨by omega,λi hi=>?_⟩;rw[au,amU (by omega)];exact hgg i hi
 ·rw[h1];refine .tup _ _ rfl λi c d hc hd=>?_
  match i with
  |0=>
   simp at hc hd;subst hc;subst hd;refine .agg _ _ rfl λi c d hc hd=>?_
   match i with
   |0=>simp at hc hd;subst hc;subst hd;exact .int _ _
   |1=>simp at hc hd;subst hc;subst hd;exact .int _ _
   |i+2=>simp at hc
  |1=>simp at hc hd;subst hc;subst hd;exact .bool _
  |i+2=>simp at hc
def e86:QE prog:=QE.fn 86 (λ_=>True) (fun(w:Str)=>[.str w]) (fun(w:Str)(h:AH)=>w.length<=1000000) (fun(w:Str)=>.tup [.agg [I (bL w).1,I (bL w).2.1],.bool (bL w).2.2]) (λh w hj hx=>MJ h w hx)
theorem afg{tl h}(w:Str){Q:QT}(hx:w.length<=1000000)(hq:Q (.tup [.agg [I (bL w).1,I (bL w).2.1],.bool (bL w).2.2]) h):tb (e86::tl) 86 [.str w] h Q:=aV w trivial hx hq
def fQ(w:Str):List (LA):=if w.length<=100/\(bL w).2.2=true then [[I (bL w).1,I (bL w).2.1]]else []
def iX(w:Str):Int:=if 100<w.length then 2 else if(bL w).2.2=true then 0 else 3
theorem Bi{h':AH}{n k z:Nat}{c:LA}(hz:c.length=z)(hc:h'.ab k=some c)(hn:n<=k)(hf:∀(H:AH) (j:Nat) (a:AV),c[j]?=some a->Frz H false a a):Frz (fresh h' n) false (.rsl k 0 1 z) (.psl [c]):=by
 have hfr:(fresh h' n).ab k=some c:=by rw[iA hn];exact hc
 refine Frz.rsl (h:=fresh h' n) (n:=false) k 0 z c [c] hfr (by simp;omega) (λi y hy=>?_) (λi y j a d hy hd ha=>?_)
 ·match i with
  |0=>simp at hy;subst hy;exact hz
  |i+1=>simp at hy
 ·match i with
  |0=>
   simp at hy;subst hy;rw[show 0+0*z+j=j by omega,hd]at ha;cases ha;exact hf _ _ _ hd
  |i+1=>simp at hy
theorem Pf(h:AH)(w:Str)(hw:w.length<=1000000/\∀c∈w,c≠32):aK prog 50 [.str w] h (.tup [.psl (fQ w),I (iX w)]) h:=by
 obtain⟨hwl,U7⟩:=hw;refine aZ (R:=λv h'=>∃x,v =.tup [x,I (iX w)]/\Frz (fresh h' h.nx) false x (.psl (fQ w))/\h.nx<=h'.nx/\∀i,i<h.nx->h'.H.get i=h.H.get i) (C50 (aW [e86]) ?_) λv' h' ⟨x,h1,h2,h3,h4⟩=>⟨?_,h3,h4⟩
 ·by_cases ago:100<w.length
  ·have UG:(100:Int)<w.length:=by omega
   have eL:fQ w=[]:=by unfold fQ;rw[amU (by omega)]
   have eE:iX w=2:=by unfold iX;rw[am1 ago]
   rw[eL,eE];simp[g50,UG];exact .aa
  ·have UG:¬(100:Int)<w.length:=by omega
   have eL:fQ w=if(bL w).2.2=true then [[I (bL w).1,I (bL w).2.1]]else []:=by unfold fQ;simp[show w.length<=100 by omega]
   have eE:iX w=if(bL w).2.2=true then 0 else 3:=by unfold iX;rw[amU ago]
   rw[eL,eE];simp[g50,UG];refine⟨λn vs h'=>∃(i st:Nat) (lv:AV),vs=[.str w,lv,I st,I i]/\h.nx<=h'.nx/\(∀i,i<h.nx->h'.H.get i=h.H.get i)/\i<=w.length+1/\(i<=w.length->lv =.aa/\st=0)/\(i=w.length+1->(bL w).2.2=true/\OL 2 h h' lv 1 [I (bL w).1,I (bL w).2.1])/\n=w.length+1-i,w.length+1,?_,?_⟩
   ·exact⟨0,0,.aa,rfl,amY _,λi _=>rfl,by omega,λ_=>⟨rfl,rfl⟩,λh=>by omega,rfl⟩
   ·rintro n vs h' ⟨i,st,lv,rfl,hn,hg,hi,hA,hB,rfl⟩;by_cases hle:i<=w.length
    ·obtain⟨rfl,rfl⟩:=hA hle;have Ja:(i:Int)<=w.length:=by omega
     simp[GR,Ja];refine⟨λx vs h2=>h.nx<=h2.nx/\(∀i,i<h.nx->h2.H.get i=h.H.get i)/\((i<w.length/\x =.nrm/\vs=[.str w,.undef,.undef,.aa,I 0,I i])\/(i=w.length/\(bL w).2.2=true/\∃lv,x =.nrm/\vs=[.str w,.undef,.undef,lv,I (w.length+1:Nat),I i]/\OL 2 h h2 lv 1 [I (bL w).1,I (bL w).2.1])\/(i=w.length/\(bL w).2.2=false/\x =.ret/\vs=[.str w,.aa,I 3,.aa,I 0,I i])),?_,?_⟩
     ·simp[Q9];refine⟨λvs h2=>vs=[.str w,.aa,I 0,I i,.bool (decide (i<w.length))]/\h2=h',?_,?_⟩
      ·by_cases hlt:i<w.length
       ·obtain⟨c,hcp⟩:∃c,w[i]?=some c:=⟨w[i],am0 hlt⟩;have cw:(i:Int)<w.length:=by omega
        have k1:=AY c;have ajY:c≠32:=U7 c (am9 hcp);simp[GL,cw,bC hcp,k1,hlt,ajY]
       ·have cw:¬(i:Int)<w.length:=by omega
        simp[GL,cw,hlt]
      ·rintro vs h2 ⟨rfl,rfl⟩;by_cases hlt:i<w.length
       ·simp[IJ,hlt];exact⟨hn,hg⟩
       ·obtain rfl:i=w.length:=by omega
        have kS:gI h2 (.str w) (some (I 0)) (some (I w.length))=some (.str w,h2):=by
         have:=nG (h:=h2) (s:=w) (a:=0) (b:=w.length) (by omega) (by omega);simpa using this
        simp[IJ,kS];refine afg (w:=w) hwl ?_;generalize bL w=S at*;obtain⟨K,M,ok⟩:=S;simp[Sj];have hgs:∀i,i<h.nx->((h2.add (.cells [I 0,I 0])).set h2.nx (.cells [I K,I M])).H.get i=h.H.get i:=λi hi=>by
         rw[au,amU (by omega),az,amU (by omega)];exact hg i hi
        cases ok
        ·simp[];exact⟨by omega,hgs⟩
        ·simp[];simp(disch:=first|go_size|fail)[Sy];refine⟨by omega,λi hi=>?_,.inr ⟨h2.nx+1+1,rfl,by omega,by omega,by simp,?_,rfl⟩⟩
         ·rw[az,amU (by simp;omega),az,amU (by simp;omega)];exact hgs i hi
         ·exact aj _ _ _ rfl
     ·rintro x vs h2 ⟨hn2,hg2,agC⟩;rcases agC with⟨hlt,rfl,rfl⟩|⟨rfl,hok,lv,rfl,rfl,hO⟩|⟨rfl,hok,rfl,rfl⟩
      ·simp(disch:=first|go_size|fail)[Bd];exact⟨w.length+1-(i+1),by omega,i+1,0,.aa,⟨rfl,rfl,by omega⟩,hn2,hg2,by omega,λ_=>⟨rfl,rfl⟩,λh=>by omega,rfl⟩
      ·simp(disch:=first|go_size|fail)[Bd];exact⟨w.length+1,w.length+1,lv,⟨rfl,by omega,by omega⟩,hn2,hg2,by omega,λh=>by omega,λ_=>⟨hok,hO⟩,by omega⟩
      ·simp[Bd];simp[FJ];rw[hok];exact⟨.aa,⟨rfl,rfl⟩,.aa,hn2,hg2⟩
    ·obtain rfl:i=w.length+1:=by omega
     obtain⟨hok,hO⟩:=hB rfl;have Ja:¬(w.length:Int)+1<=w.length:=by omega
     rw[hok];rcases hO with⟨_,h0,_⟩|⟨k,rfl,_,hk0,hk1,hkc,_⟩
     ·omega
     ·simp[GR,Ja];simp[FJ];simp[G_];refine⟨?_,hn,hg⟩;refine Bi rfl hkc hk0 λH j a ha=>?_
      match j with
      |0=>simp at ha;subst ha;exact .int _ _
      |1=>simp at ha;subst ha;exact .int _ _
      |j+2=>simp at ha
 ·rw[h1];refine .tup _ _ rfl λi c d hc hd=>?_
  match i with
  |0=>simp at hc hd;subst hc;subst hd;exact h2
  |1=>simp at hc hd;subst hc;subst hd;exact .int _ _
  |i+2=>simp at hc
def e50:QE prog:=QE.fn 50 (λ_=>True) (fun(w:Str)=>[.str w]) (fun(w:Str)(h:AH)=>w.length<=1000000/\∀c∈w,c≠32) (fun(w:Str)=>.tup [.psl (fQ w),I (iX w)]) (λh w hj hx=>Pf h w hx)
theorem af8{tl h}(w:Str){Q:QT}(hx:w.length<=1000000/\∀c∈w,c≠32)(hq:Q (.tup [.psl (fQ w),I (iX w)]) h):tb (e50::tl) 50 [.str w] h Q:=aV w trivial hx hq
@[simp ↓] theorem ako:TbT e50 50:=aH e50
