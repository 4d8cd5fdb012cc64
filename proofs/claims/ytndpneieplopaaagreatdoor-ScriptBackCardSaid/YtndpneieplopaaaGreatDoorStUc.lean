/- What strings.Replacer writes for three bytes. -/
import Derived.Test.YtndpneieplopaaaGreatDoorStSm
set_option linter.unusedSimpArgs false
set_option linter.unusedVariables false
noncomputable section
namespace Go.Proofs.YtndpneieplopaaaGreatDoor
open Go.Eng Go.St Go.RowKit Tryz
theorem asw:rpR.length=257:=apd _ _
theorem awB(H:AH):Frz H false (.lz rpR) (.lz rpR):=by
 refine .lz rfl _ _ rfl λi c d hc hd=>?_
 rw[hc]at hd;cases hd;unfold rpR at hc;by_cases hi:i<256
 ·rw[apx _ _ hi]at hc;cases hc;exact atd _ _ _
 ·by_cases hi2:i=256
  ·subst hi2;rw[apw]at hc;cases hc;exact yw λy hy j c hc=>by
    obtain⟨s,_,rfl⟩:=an0.1 hy;match j with
    |0=>simp at hc;subst hc;exact .str _
    |j+1=>simp at hc
  ·rw[aoa (by rw[apd];omega)]at hc;cases hc
theorem aw9(h:AH)(s:Str)(c:UInt8)(_:True):aK prog 164 [.str s,.str [c]] h (I (s.count c)) h:=by
 refine aK.lib Zt λown β wd cS hs hR=>?_
 have:=wF hR;subst this;refine(o8 ⟨s.toArray⟩ c wd).mono ?_;rintro e w' ⟨rfl,rfl⟩;exact⟨_,rfl,.int _ _,Below.refl _ _⟩
def axr:QE prog:=QE.fn 164 (λ_=>True) (fun(y:Str×UInt8)=>[.str y.1,.str [y.2]]) (λ_ _=>True) (λy=>I (y.1.count y.2)) (λh y _ _=>aw9 h y.1 y.2 trivial)
theorem axz{tl h}{Q:QT}(s:Str)(c:UInt8)(hq:Q (I (s.count c)) h):tb (axr::tl) 164 [.str s,.str [c]] h Q:=aV (s,c) trivial trivial hq
def aqc(c:UInt8):Bool:=c==92||c==34||c==10
def spN(s:Str):Nat:=s.countP aqc
theorem aq1{c:UInt8}(h:aqc c=true):∃x:UInt8,aqW c=[92,x]/\rpF 0 c.toNat=by2 92 x.toNat:=by
 unfold aqc at h;simp only[anV,an2]at h;rcases h with(rfl|rfl)|rfl
 ·exact⟨92,rfl,rfl⟩
 ·exact⟨34,rfl,rfl⟩
 ·exact⟨110,rfl,rfl⟩
theorem aq6{c:UInt8}(h:aqc c=false):aqW c=[c]/\rpF 0 c.toNat =.aa:=by
 unfold aqc at h;simp only[anC,beq_eq_false_iff_ne]at h;obtain⟨⟨h1,h2⟩,h3⟩:=h;refine⟨by unfold aqW;rw[amU h1,amU h2,amU h3],?_⟩;have t:∀d:UInt8,c≠d->c.toNat≠d.toNat:=λd h e=>h (UInt8.toNat_inj.1 e)
 have h1:=t 92 h1;have h2:=t 34 h2;have h3:=t 10 h3;unfold rpF;rw[amU (λe=>h1 e.1),amU (λe=>h2 e.1),amU (λe=>h3 e.1)]
theorem ao9:∀s:Str,(p7 s).length=s.length+spN s
 |[]=>rfl
 |c::s=>by
  have ih:=ao9 s;unfold spN at ih ⊢;simp only[p7,amX,ih,am6,List.countP_cons];cases h:aqc c with
  |true=>obtain⟨x,h1,_⟩:=aq1 h;rw[h1];simp;omega
  |false=>rw[(aq6 h).1];simp;omega
theorem ark:∀s:Str,spN s=0->p7 s=s
 |[],_=>rfl
 |c::s,h=>by
  unfold spN at h;rw[List.countP_cons]at h;cases hc:aqc c with
  |true=>rw[hc]at h;simp at h
  |false=>
   have:=ark s (by unfold spN;rw[hc]at h;simpa using h);simp[p7,(aq6 hc).1,this]
theorem art(s:Str):spN s=s.count 10+s.count 34+s.count 92:=by
 induction s with
 |nil=>rfl
 |cons c s ih=>
  unfold spN at ih ⊢;rw[List.countP_cons,List.count_cons,List.count_cons,List.count_cons,ih];by_cases h1:c=92
  ·subst h1;simp[aqc];omega
  by_cases h2:c=34
  ·subst h2;simp[aqc];omega
  by_cases h3:c=10
  ·subst h3;simp[aqc];omega
  ·simp[aqc,h1,h2,h3]
theorem apA(s:Str):spN s<=s.length:=List.countP_le_length
theorem awb{s:Str}{i:Nat}{c:UInt8}(h:s[i]?=some c):spN (s.take (i+1))=spN (s.take i)+(if aqc c=true then 1 else 0):=by
 unfold spN;rw[aCh,h];simp only[aCu,List.countP_append,List.countP_singleton]
theorem ati{s:Str}{i:Nat}{c:UInt8}(h:s[i]?=some c):p7 (s.take (i+1))=p7 (s.take i)++aqW c:=by
 rw[aCh,h];simp only[aCu,arR,p7,am5]
theorem axi{h:AH}{c:UInt8}:fv h 256 1 (.lz rpR) (.int .u8 c.toNat)=some (.lz (rpR.drop c.toNat),h):=asB c.toNat_lt (by rw[asw];have:=c.toNat_lt;omega)
theorem av0{c:UInt8}:(rpR.drop c.toNat)[0]?=some (rpF 0 c.toNat):=by
 rw[anl,aoy];exact apx _ _ c.toNat_lt
theorem au1:(rpR.drop 256)[0]?=some (.psl (rpT.map λs=>[.str s])):=by
 rw[anl];exact apw _ _
def ctN(s:Str)(m:Nat):Nat:=((rpT.take m).map λw=>s.count (w.headD 0)).sum
inductive RA1(h:AH)(s:Str):Nat->List AV->AH->Prop
 |mk {m:Nat} {h':AH} (i:Nat):i+m=3->h'.H=h.H->h.nx<=h'.nx->RA1 h s m [.lz rpR,.str s,I (s.length+ctN s i:Int),.bool (!decide (ctN s i=0)),.psl (rpT.map λs=>[.str s]),I 3,I i] h'
inductive RA2(h:AH)(s:Str):Nat->List AV->AH->Prop
 |mk {m:Nat} {h':AH} (i:Nat):i+m=s.length->h'.H=h.H->h.nx<=h'.nx->RA2 h s m [.lz rpR,.str s,I (s.length+spN (s.take i):Int),.bool (!decide (spN (s.take i)=0)),I i] h'
theorem azD(s:Str)(i:Nat){w:Str}(h:rpT[i]?=some w):ctN s (i+1)=ctN s i+s.count (w.headD 0):=by
 unfold ctN;rw[aCh,h];simp
theorem aAh(s:Str):ctN s 3=spN s:=by
 rw[art];simp[ctN,rpT];omega
theorem ayQ(s:Str)(i:Nat)(hi:i<=3):ctN s i<=spN s:=by
 have:i=0\/i=1\/i=2\/i=3:=by omega
 rw[art];rcases this with rfl|rfl|rfl|rfl<;>simp[ctN,rpT]<;>omega
theorem azH(h0 h:AH)(s:Str)(hs:s.length<=1000000)(hH:h.H=h0.H)(hn:h0.nx<=h.nx)(b:Bool){K:NT}
  (hq:∀h2:AH,h2.H=h0.H->h0.nx<=h2.nx->K [.lz rpR,.str s,I (s.length+spN s:Int),.bool (!decide (spN s=0))] h2):
  aqr (tb [axr]) (.lz rpR) (.str s) (I s.length) (.bool false) (.bool b) h K:=by
 have hle:=apA s;have hl:∀h:AH,aq h (.lz rpR)=some (.lz rpR,h):=λh=>rfl
 cases b with
 |true=>
  have hf:ah h 256 (.lz rpR)=some (.lz (rpR.drop 256),h):=Y8 (by rw[asw];omega);have hld:=au1;simp[aqr,hl,hf,hld];refine⟨RA1 h0 s,3,.mk 0 (by omega) hH hn,?_⟩;rintro m vs h1 ⟨i,him,hH1,hn1⟩;cases m with
  |zero=>
   obtain rfl:i=3:=by omega
   simp[ar0];simp[auj];simp[ass,aAh];have:=hq h1 hH1 hn1;simpa using this
  |succ m=>
   obtain⟨c,hc,hsp⟩:∃c:UInt8,rpT[i]?=some [c]/\aqc c=true:=by
    have:i=0\/i=1\/i=2:=by omega
    rcases this with rfl|rfl|rfl
    ·exact⟨10,rfl,rfl⟩
    ·exact⟨34,rfl,rfl⟩
    ·exact⟨92,rfl,rfl⟩
   obtain⟨x,_,hrp⟩:=aq1 hsp;have hcs:=azD s i hc;simp only[List.headD_cons]at hcs;have hlt:(i:Int)<3:=by omega
   have hgt:(rpT.map λs=>[AV.str s])[i]?=some [.str [c]]:=by rw[anb,hc];rfl
   have hix:∀h:AH,aF h 1 (.psl (rpT.map λs=>[.str s])) (I i)=some (.lz [.str [c]],h):=λh=>da hgt rfl
   have hl1:=ayQ s (i+1) (by omega);generalize hTT:(rpT.map λs=>[AV.str s])=TT at*;simp[ar0,hlt];refine⟨λvs h2=>vs=[.lz rpR,.str s,I (s.length+ctN s (i+1):Int),.bool (!decide (ctN s (i+1)=0)),.psl TT,I 3,I i]/\h2.H=h0.H/\h0.nx<=h2.nx,?_,?_⟩
   ·simp(disch:=first|go_size|fail)[auF,hix];refine axz s c ?_;by_cases h0c:s.count c=0
    ·rw[h0c]at hcs ⊢;rw[hcs];simp(disch:=first|go_size|fail)[];exact⟨hH1,hn1⟩
    ·have s0:∀h:AH,dH h (.str [c]) (I 0)=some (.int .u8 c.toNat,h):=λh=>bC (s:=[c]) (p:=0) rfl
     have aBd:¬((s.count c:Nat):Int)=0:=by omega
     have hld:= @av0 c;rw[hrp]at hld;have hf0:∀h:AH,ah h 0 (.lz rpR)=some (.lz rpR,h):=λh=>Y8 (by omega)
     have hat:∀h:AH,fv h 256 1 (.lz rpR) (.int .u8 c.toNat)=some (.lz (rpR.drop c.toNat),h):=λh=>axi
     have hln:∀h:AH,bh h (by2 92 x.toNat)=some (I 2,h):=λh=>rfl
     rw[hcs];have hkc:s.count c<=1000000:=ane List.count_le_length hs;have hne:¬ctN s i+s.count c=0:=by omega
     simp(disch:=first|go_size|fail)[h0c,aBd];simp(disch:=first|go_size|fail)[aum,s0,hl,hf0,hat,hld,hln];simp(disch:=first|go_size|fail)[avd];exact⟨by omega,hH1,by omega⟩
   ·rintro vs h2 ⟨rfl,hH2,hn2⟩;simp(disch:=first|go_size|fail)[auo];refine⟨m,by omega,?_⟩;have b:=RA1.mk (h:=h0) (s:=s) (m:=m) (i+1) (by omega) hH2 hn2;rw[hTT]at b;exact b
 |false=>
  simp(disch:=first|go_size|fail)[aqr];refine⟨RA2 h0 s,s.length,.mk 0 (by omega) hH hn,?_⟩;rintro m vs h1 ⟨i,him,hH1,hn1⟩;cases m with
  |zero=>
   obtain rfl:i=s.length:=by omega
   have hlt:¬(s.length:Int)<s.length:=by omega
   rw[aCg];simp(disch:=first|go_size|fail)[asv];simp(disch:=first|go_size|fail)[asN];simp(disch:=first|go_size|fail)[ar2];have:=hq h1 hH1 hn1;simpa using this
  |succ m=>
   have hi:i<s.length:=by omega
   have hlt:(i:Int)<s.length:=by omega
   obtain⟨c,hc⟩:∃c,s[i]?=some c:=⟨s[i],am0 hi⟩;have hst:=awb hc;have aBT:=apA (s.take i);have aBS:(s.take i).length<=s.length:=by simp;omega
   have hf0:∀h:AH,ah h 0 (.lz rpR)=some (.lz rpR,h):=λh=>Y8 (by omega)
   have hat:∀h:AH,fv h 256 1 (.lz rpR) (.int .u8 c.toNat)=some (.lz (rpR.drop c.toNat),h):=λh=>axi
   have hld:= @av0 c;have hix:∀h:AH,dH h (.str s) (I i)=some (.int .u8 c.toNat,h):=λh=>bC hc
   simp(disch:=first|go_size|fail)[asv,hlt];refine⟨λvs h2=>vs=[.lz rpR,.str s,I (s.length+spN (s.take (i+1)):Int),.bool (!decide (spN (s.take (i+1))=0)),I i]/\h2.H=h0.H/\h0.nx<=h2.nx,?_,?_⟩
   ·cases hsp:aqc c with
    |true=>
     obtain⟨x,_,hrp⟩:=aq1 hsp;rw[hrp]at hld;rw[hsp]at hst;have hln:∀h:AH,bh h (by2 92 x.toNat)=some (I 2,h):=λh=>rfl
     have hen:∀h:AH,NF h .sl true (by2 92 x.toNat) .aa=some (.bool true,h):=λh=>rfl
     rw[hst];simp(disch:=first|go_size|fail)[asm,hix,hl,hf0,hat,hld,hen];simp(disch:=first|go_size|fail)[auY,hat,hld,hln];exact⟨by omega,hH1,hn1⟩
    |false=>
     obtain⟨_,hrp⟩:=aq6 hsp;rw[hrp]at hld;rw[hsp]at hst;have hen:∀h:AH,NF h .sl true .aa .aa=some (.bool false,h):=λh=>rfl
     rw[hst];simp(disch:=first|go_size|fail)[asm,hix,hl,hf0,hat,hld,hen];exact⟨hH1,hn1⟩
   ·rintro vs h2 ⟨rfl,hH2,hn2⟩;simp(disch:=first|go_size|fail)[aup];refine⟨m,by omega,?_⟩;exact RA2.mk (h:=h0) (s:=s) (m:=m) (i+1) (by omega) hH2 hn2
theorem arz{A B:LA}{r:Nat}{z:AV}(h:B.length<=r):fi (A++List.replicate r z) A.length B=some (A++B++List.replicate (r-B.length) z):=by
 rw[bz (by simp;omega)];unfold stN;congr 1
 rw[List.take_left' rfl,List.drop_append,anf (by omega)];simp
theorem avA{h:AH}{b j r:Nat}{a c:Int}{cs cs':LA}(hr:2<=r)(hc:h.ab b=some cs)(hs:fi cs j [.int .u8 a,.int .u8 c]=some cs'):yq h 1 (.rsl b j r 1) (by2 a c)=some (I 2,h.set b (.cells cs')):=by
 have e:min 2 r=2:=by omega
 simp[yq,ae5,by2,cj,fj,e,dj,AV.one,hc,hs]
inductive RB(h:AH)(s:Str)(b:Nat):Nat->List AV->AH->Prop
 |mk {m:Nat} {h':AH} (i:Nat):i+m=s.length->Fr h h'->b<h'.nx->h.nx<=b->h'.ab b=some (aR (p7 (s.take i))++List.replicate ((p7 s).length-(p7 (s.take i)).length) (.int .u8 0))->
   RB h s b m [.lz rpR,.str s,.rsl b 0 (p7 s).length 1,I (p7 (s.take i)).length,I i] h'
theorem arO(s:Str)(i:Nat):(p7 (s.take i)).length<=(p7 s).length:=by
 conv=>rhs;rw[<-an9 i s]
 rw[arR,amX];omega
theorem avL(h:AH)(s:Str)(hs:s.length<=1000000):aK prog 251 [.lz rpR,.str s] h (.str (p7 s)) h:=by
 refine kM (λ_=>.str _) (aAS (aW [axr]) ?_);have hl:∀h:AH,aq h (.lz rpR)=some (.lz rpR,h):=λh=>rfl
 have hf:∀h:AH,ah h 256 (.lz rpR)=some (.lz (rpR.drop 256),h):=λh=>Y8 (by rw[asw];omega)
 have hld:=au1;have hln:∀h:AH,bh h (.psl (rpT.map λs=>[AV.str s]))=some (I 3,h):=λh=>rfl
 simp[ayV,hl,hf,hld,hln];refine⟨λvs h2=>vs=[.lz rpR,.str s,I (s.length+spN s:Int),.bool (!decide (spN s=0))]/\h2.H=h.H/\h.nx<=h2.nx,?_,?_⟩
 ·exact azH h h s hs rfl (amY _) _ λh2 h3 h4=>⟨rfl,h3,h4⟩
 rintro vs h2 ⟨rfl,hH2,hn2⟩;have hsl:=ao9 s;have hsp:=apA s;by_cases h0:spN s=0
 ·rw[ark s h0];simp[arA,h0];exact⟨hn2,λi _=>by rw[hH2]⟩
 ·have fr2:Fr h h2:=⟨hn2,λi _=>by rw[hH2]⟩;have e:(s.length+spN s:Int)=((p7 s).length:Nat):=by omega
  rw[e];have hmk:nZ h2 1 1 [.int .u8 0] (I (p7 s).length) (I (p7 s).length)=some (.rsl h2.nx 0 (p7 s).length 1,h2.add (.cells (List.replicate (p7 s).length (.int .u8 0)))):=by
   have q1:((p7 s).length:Int)<=9223372036854775807:=by omega
   have q2:(p7 s).length<=140737488355328:=by omega
   simp[nZ,lp,q1,q2]
  simp[arA,h0,hmk];refine⟨RB h s h2.nx,s.length,.mk 0 (by omega) (fr2.add _) (by simp) (by omega) (by simp[p7,aR]),?_⟩;generalize h2.nx=b at*;clear hmk hH2 hn2 fr2;rintro m vs h3 ⟨i,him,fr,hb,hbn,hc⟩;have fk:=arO s i;cases m with
  |zero=>
   obtain rfl:i=s.length:=by omega
   have hlt:¬(s.length:Int)<s.length:=by omega
   rw[aCg,Nat.sub_self,List.replicate_zero,am5]at hc;have hb2:=Co hc;simp[arx];simp[as1];simp[arv];rw[hb2];simp[];exact⟨fr.nx,fr.get⟩
  |succ m=>
   have hi:i<s.length:=by omega
   have hlt:(i:Int)<s.length:=by omega
   obtain⟨c,hcs⟩:∃c,s[i]?=some c:=⟨s[i],am0 hi⟩;have hwt:=ati hcs;have atf:=arO s (i+1);have hf0:∀h:AH,ah h 0 (.lz rpR)=some (.lz rpR,h):=λh=>Y8 (by omega)
   have hat:∀h:AH,fv h 256 1 (.lz rpR) (.int .u8 c.toNat)=some (.lz (rpR.drop c.toNat),h):=λh=>axi
   have hld:= @av0 c;have hix:∀h:AH,dH h (.str s) (I i)=some (.int .u8 c.toNat,h):=λh=>bC hcs
   have hA:(aR (p7 (s.take i))).length=(p7 (s.take i)).length:=by simp[aR]
   simp[arx,hlt];refine⟨λvs h2=>vs=[.lz rpR,.str s,.rsl b 0 (p7 s).length 1,I (p7 (s.take (i+1))).length,I i]/\Fr h h2/\b<h2.nx/\h2.ab b=some (aR (p7 (s.take (i+1)))++List.replicate ((p7 s).length-(p7 (s.take (i+1))).length) (.int .u8 0)),?_,?_⟩
   ·rw[hwt]at atf ⊢;generalize p7 (s.take i)=A at*;generalize p7 s=W at*;cases hsp:aqc c with
    |true=>
     obtain⟨x,hwe,hrp⟩:=aq1 hsp;rw[hrp]at hld;rw[hwe]at atf ⊢;have hen:∀h:AH,NF h .sl true (by2 92 x.toNat) .aa=some (.bool true,h):=λh=>rfl
     have hsl:∀h:AH,kSl h 1 (.rsl b 0 W.length 1) (some (I A.length)) none none=some (.rsl b A.length (W.length-A.length) 1,h):=λh=>by
      have:=iZ h b 0 W.length A.length fk;rwa [aoe]at this
     simp only[amX,am6,anr]at atf;have xY:=arz (A:=aR A) (B:=[.int .u8 92,.int .u8 x.toNat]) (r:=W.length-A.length) (z:=.int .u8 0) (by simp;omega);rw[hA]at xY;simp[arE,hix,hl,hf0,hat,hld,hen];simp[auX,hsl,hl,hf0,hat,hld];unfold ava;have hc':∀k,(AH.mk h3.H k).ab b=some (aR A++List.replicate (W.length-A.length) (.int .u8 0)):=λ_=>hc
     refine fR (avA (by omega) (hc' _) xY) (by simp) ?_;simp(disch:=first|go_size|fail)[];refine⟨(fr.bump (by omega)).set hbn _,by omega,?_⟩;simp[aR];omega
    |false=>
     obtain⟨hwe,hrp⟩:=aq6 hsp;rw[hrp]at hld;rw[hwe]at atf ⊢;have hen:∀h:AH,NF h .sl true .aa .aa=some (.bool false,h):=λh=>rfl
     simp only[amX,am6,anr]at atf;have xY:=arz (A:=aR A) (B:=[.int .u8 c.toNat]) (r:=W.length-A.length) (z:=.int .u8 0) (by simp;omega);rw[hA]at xY;have hia:aF h3 1 (.rsl b 0 W.length 1) (I A.length)=some (.ptr b A.length,h3):=by
      have:=dY (h:=h3) (z:=1) (id:=b) (off:=0) (len:=W.length) (i:=(A.length:Int)) (by omega) (by omega);simpa using this
     simp(disch:=first|go_size|fail)[arE,hix,hl,hf0,hat,hld,hen,hia,hc,xY];simp(disch:=first|go_size|fail)[auD];refine⟨fr.set hbn _,hb,?_⟩;simp[aR];omega
   ·rintro vs h2 ⟨rfl,fr2,hb2,hc2⟩;simp(disch:=first|go_size|fail)[asU];refine⟨m,by omega,?_⟩;exact RB.mk (h:=h) (s:=s) (b:=b) (m:=m) (i+1) (by omega) fr2 hb2 hbn hc2
def rpH(x y z:Int)(r o:AV):LA:=[.int .u32 x,.int .i32 y,.int .u32 z,r,o]
def rpI:AV:=.iface 231 (.lz rpR)
theorem avx(x y z:Int):vt (rpH x y z rpI .aa):=λH=>by
 unfold rpH rpI;exact⟨.int _ _,.int _ _,.int _ _,.iface _ _ _ (awB H),.dX,trivial⟩
def azQ:QE prog:=
 ⟨157,λargs h Q=>∃id k a b c d,args=[.ptr id 0]/\h.ab id=some [a,b,c,d,.rsl k 0 6 1]/\h.ab k=some R2/\id<h.nx/\k<h.nx/\Q rpI h,λargs h Q ⟨id,k,a,b,c,d,h1,h2,h3,h4,h5,h6⟩=>by
  subst h1;exact⟨_,_,axA h id k a b c d h2 h3 h4 h5,h6⟩⟩
theorem aza{tl h}{id k:Nat}{a b c d:AV}{Q:QT}(h1:h.ab id=some [a,b,c,d,.rsl k 0 6 1])(h2:h.ab k=some R2)(h3:id<h.nx)(h4:k<h.nx)(hq:Q rpI h):tb (azQ::tl) 157 [.ptr id 0] h Q:=by
 rw[dJ _ tl 157 _ _ _ rfl];exact⟨id,k,a,b,c,d,rfl,h1,h2,h3,h4,hq⟩
theorem avw(h:AH)(id k:Nat)(x y z:Int)(d:AV)(hc:h.ab id=some (rpH x y z d (.rsl k 0 6 1)))(hk:h.ab k=some R2)(hid:id<h.nx)(hkn:k<h.nx):
  aK prog 139 [.ptr id 0] h (.tup []) (h.set id (.cells (rpH x y z rpI .aa))):=by
 refine bm (R:=λv h'=>v =.tup []/\Ob h h' id (rpH x y z rpI .aa)) hid (avx x y z) (aA6 (aW [azQ]) ?_) λv' h' ⟨h1,h2⟩=>⟨by rw[h1];exact .tup _ _ rfl (by simp),h2⟩
 simp[aAc];refine aza hc hk hid hkn ?_;have hc':h.ab id=some [.int .u32 x,.int .i32 y,.int .u32 z,d,.rsl k 0 6 1]:=hc;have hs1:fi [AV.int .u32 x,.int .i32 y,.int .u32 z,d,.rsl k 0 6 1] 3 [rpI]=some [.int .u32 x,.int .i32 y,.int .u32 z,rpI,.rsl k 0 6 1]:=rfl;have hs2:fi [AV.int .u32 x,.int .i32 y,.int .u32 z,rpI,.rsl k 0 6 1] 4 [.aa]=some [.int .u32 x,.int .i32 y,.int .u32 z,rpI,.aa]:=rfl;have ho:rpI.one=true:=rfl;have hst:iU rpI=true:=rfl;have hcl:rpI.cells=[rpI]:=rfl;generalize rpI=R at*;simp[avh,hc',hs1,hs2,ho,hst,hcl];exact((Ob.start hc).set _).set _
theorem aw2(h:AH)(k:Nat)(hk:h.ab k=some R2)(hkn:k<h.nx):aK prog 104 [.rsl k 0 6 1] h (.ptr (h.nx+1) 0) ((h.add (.cells R2)).add (.cells (rpH 0 0 0 .gf (.rsl h.nx 0 6 1)))):=by
 refine aA5 (aW []) ?_;have aBa:ae h .rem (I 6) (I 2)=some (I 0,h):=rfl;have q1:cut R2 0 6=some R2:=rfl;have q2:dj R2=true:=rfl;have haf:bW [AV.int .u32 0,.int .i32 0,.int .u32 0,.gf,.aa] [(4,1,.rsl h.nx 0 6 1)]=some (rpH 0 0 0 .gf (.rsl h.nx 0 6 1)):=rfl;simp[azV,aBa];refine⟨λvs h'=>vs=[.rsl k 0 6 1]/\h'=h,?_,?_⟩
 ·simp[avb]
 ·rintro vs h' ⟨rfl,rfl⟩;simp[avj,hk,q1,q2,haf]
