/- ## the reference's digits. -/
import Derived.Lib.AtoiAll
import Derived.Lib.ItoaMem
import Derived.Lib.ValidU
import Derived.Test.YtndpneieplopaaaGreatDoorEngRS
import Derived.Handy
import Derived.KernelRfl
import Derived.ChangeArms
import Derived.ChangeSame
import Derived.OpenShut
import Derived.Below
import Derived.Shelf.Strings.Builder1
import Derived.Test.YtndpneieplopaaaGreatDoorProg
set_option linter.unusedSimpArgs false
set_option linter.unusedVariables false
noncomputable section
namespace Go.St
open Go.Eng
open Go.Lib
abbrev Str:=List UInt8
def bh:Int:=1099511627776
def gw(w:Str):Int:=match atoiAll w with |.ok n=>n |.range=>atoiSat w|_=>0
def fO(w:Str):Bool:=match atoiAll w with |.ok n=>itoa n==w&&decide (-bh<=n)&&decide (n<=bh)|_=>false
def fv(c:UInt8):Bool:=decide (48<=c.toNat)&&decide (c.toNat<=57)
theorem x8(d:Nat)(h:d<10):(UInt8.ofNat (48+d)).toNat=48+d:=by
 rw[UInt8.toNat_ofNat'];omega
theorem JS:∀(l:Str) (acc u d:Nat),parseUint10 acc l =.ok u->d<10->u*10+d<18446744073709551616->parseUint10 acc (l++[UInt8.ofNat (48+d)]) =.ok (u*10+d)
 |[],acc,u,d,h,a,hu=>by
  simp only[parseUint10]at h;injection h with h
  subst h;have:=x8 d a;simp only[cD,parseUint10,this];rw[Z (by omega),O (by omega),O (by omega)];congr 1
  omega
 |c::r,acc,u,d,h,a,hu=>by
  simp only[cp,parseUint10]at h ⊢;split at h
  ·rename_i h1;rw[Z h1];split at h
   ·cases h
   rename_i h2;rw[O h2];split at h
   ·cases h
   rename_i i;rw[O i];exact JS r _ u d h a hu
  cases h
theorem Kf(u:Nat):u<18446744073709551616->parseUint10 0 (decDigits u) =.ok u:=by
 induction u using Nat.strongRecOn with
 |_ u a=>
  intro hu;by_cases h:u<10
  ·rw[decDigits,dif_pos h];have:=JS [] 0 0 u rfl h (by omega);simpa using this
  rw[decDigits,dif_neg h];have:=JS (decDigits (u/10)) 0 (u/10) (u%10) (a (u/10) (by omega) (by omega)) (by omega) (by omega);rwa [show u/10*10+u%10=u by omega]at this
theorem so(u:Nat):decDigits u≠[]:=by
 intro h;have:=decDigits_length u;rw[h]at this;have:=nDigits_pos u;simp at*;omega
theorem rZ(u:Nat):∀c∈decDigits u,fv c=true:=by
 induction u using Nat.strongRecOn with
 |_ u d=>
  intro c a;by_cases h:u<10
  ·rw[decDigits,dif_pos h]at a;simp only[j6]at a;subst a;have:=x8 u h;simp[fv];omega
  rw[decDigits,dif_neg h]at a;simp only[nC,j6]at a;rcases a with a|rfl
  ·exact d (u/10) (by omega) c a
  have:=x8 (u%10) (by omega);simp[fv];omega
variable {u:Nat}
theorem Zv(h:u<18446744073709551616):parseMag (decDigits u) =.ok u:=by
 unfold parseMag;rw[O (so u)];exact Kf u h
theorem Mg{n:Int}(A : -9223372036854775808<=n)(h1:n<=9223372036854775807):atoiAll (itoa n) =.ok n:=by
 unfold itoa;by_cases a:n<0
 ·rw[Z a];unfold atoiAll;have:parseMag (decDigits n.natAbs) =.ok n.natAbs:=Zv (by omega);have e:(45:UInt8).toNat=45:=rfl;simp only[e,or_true,bt,this,zN,dm,true_and,bH];rw[O (by omega)];congr 1
  omega
 rw[O a];have d:=rZ n.toNat;have hm:=Zv (u:=n.toNat) (by omega);cases i:decDigits n.toNat with
 |nil=>exact absurd i (so _)
 |cons c r=>
  rw[i]at d hm;have h2:=d c (by simp);simp[fv]at h2;unfold atoiAll;have B:¬(c.toNat=43\/c.toNat=45):=by omega
  have j:¬c.toNat=45:=by omega
  have q:¬9223372036854775808<=n.toNat:=by omega
  have t:¬c.toNat=43:=by omega
  simp[j,q,t,hm];omega
theorem rG(w:Str):fO w=true↔∃n:Int, -bh<=n/\n<=bh/\w=itoa n/\gw w=n:=by
 constructor
 ·intro h;unfold fO at h;unfold gw;split at h
  ·rename_i n d;simp only[aI,fR,ck]at h;exact⟨n,h.1.2,h.2,h.1.1.symm,by rw[d]⟩
  cases h
 rintro⟨n,a,h1,rfl,_⟩;unfold bh at a h1;unfold fO;rw[Mg (by omega) (by omega)];simp[bh,a,h1]
theorem Z7{n:Int}(a : -bh<=n)(h1:n<=bh):gw (itoa n)=n:=by
 unfold bh at a h1;unfold gw;rw[Mg (by omega) (by omega)]
def eZ:Str->Nat->Nat×Str
 |[],n=>(n,[])
 |c::t,n=>if fv c=true/\(n:Int)<=bh then eZ t (10*n+(c.toNat-48))else(n,c::t)
theorem MO:∀(l:Str) (n:Nat),(eZ l n).2.length<=l.length
 |[],n=>by simp[eZ]
 |c::t,n=>by
  simp only[eZ];split
  ·have:=MO t (10*n+(c.toNat-48));simp;omega
  simp
theorem ZD:∀(l:Str) (n:Nat),∃p,l=p++(eZ l n).2
 |[],n=>⟨[],rfl⟩
 |c::t,n=>by
  simp only[eZ];split
  ·obtain⟨p,hp⟩:=ZD t (10*n+(c.toNat-48));refine⟨c::p,?_⟩;rw[cp,<-hp]
  exact⟨[],rfl⟩
theorem MA:∀(l:Str) (n:Nat),((eZ l n).1:Int)<=bh->∀c t,(eZ l n).2=c::t->fv c=false
 |[],n,h,c,t,e=>by simp[eZ]at e
 |a::r,n,h,c,t,e=>by
  simp only[eZ]at h e;split at e
  ·rename_i h1;rw[Z h1]at h;exact MA r _ h c t e
  rename_i h1;rw[O h1]at h;simp only at h e;cases e;cases d:fv a with
  |false=>rfl
  |true=>exact absurd ⟨d,h⟩ h1
theorem JF:∀(p r:Str) (n u:Nat),parseUint10 n p =.ok u->(u:Int)<=bh->(∀c t,r=c::t->fv c=false)->eZ (p++r) n=(u,r)
 |[],r,n,u,h,hu,j=>by
  simp only[parseUint10]at h;injection h with h
  subst h;cases r with
  |nil=>rfl
  |cons c t=>
   have:=j c t rfl;simp[eZ,this]
 |c::p,r,n,u,h,hu,j=>by
  have i:∀(l:Str) (a b:Nat),parseUint10 a l =.ok b->a<=b:=by
   intro l;induction l with
   |nil=>intro a b d;simp only[parseUint10]at d;injection d with d;omega
   |cons x l q=>
    intro a b d;simp only[parseUint10]at d;split at d
    ·split at d
     ·cases d
     split at d
     ·cases d
     have:=q _ _ d;omega
    cases d
  have A:=i _ _ _ h;simp only[parseUint10]at h;split at h
  ·rename_i h1;split at h
   ·cases h
   split at h
   ·cases h
   rw[cp];simp only[eZ];rw[Z ⟨by simp[fv];exact h1,by omega⟩];rw[show 10*n+(c.toNat-48)=n*10+(c.toNat-48)by omega];exact JF p r _ u h hu j
  cases h
def fw:Str->Str
 |[]=>[]
 |c::t=>if c=45 then t else c::t
def isM:Str->Bool
 |[]=>false
 |c::_=>decide (c=45)
def eg(l:Str):Int:=if isM l=true then -((eZ (fw l) 0).1:Int)else((eZ (fw l) 0).1:Int)
def fq(l:Str):Str:=(eZ (fw l) 0).2
def jG(l:Str):Bool:=decide ((fq l).length≠(fw l).length)&&decide (-bh<=eg l)&&decide (eg l<=bh)&&(itoa (eg l)==l.take (l.length-(fq l).length))
theorem ZG(l:Str):∃p,l=p++fq l:=by
 obtain⟨p,hp⟩:=ZD (fw l) 0;cases l with
 |nil=>exact⟨p,hp⟩
 |cons c t=>
  by_cases a:c=45
  ·subst a;refine⟨45::p,?_⟩;have:fw (45::t)=t:=by simp[fw]
   unfold fq;rw[this]at hp ⊢;rw[cp,<-hp]
  have:fw (c::t)=c::t:=by simp[fw,a]
  rw[this]at hp;refine⟨p,?_⟩;unfold fq;rw[this];exact hp
variable {l:Str}
theorem QU(h:jG l=true):-bh<=eg l/\eg l<=bh/\l=itoa (eg l)++fq l/\∀c t,fq l=c::t->fv c=false:=by
 unfold jG at h;simp only[aI,ck,fR]at h;obtain⟨⟨⟨h1,h2⟩,a⟩,d⟩:=h;refine⟨h2,a,?_,MA (fw l) 0 ?_⟩
 ·obtain⟨p,hp⟩:=ZG l;have hlen:l.length=p.length+(fq l).length:=by rw[<-au,<-hp]
  rw[d];have:l.take (l.length-(fq l).length)=p:=by
   rw[hlen,Nat.add_sub_cancel];conv=>lhs;rw[hp]
   simp
  rw[this];exact hp
 unfold eg at h2 a;split at h2<;>rename_i hm<;>simp[hm]at a<;>omega
variable {r:Str}
theorem adV{n:Int}(M : -bh<=n)(h1:n<=bh)(B:∀c t,r=c::t->fv c=false):eg (itoa n++r)=n/\fq (itoa n++r)=r/\jG (itoa n++r)=true:=by
 have Q:bh=1099511627776:=rfl;have key:eg (itoa n++r)=n/\fq (itoa n++r)=r/\(fw (itoa n++r)).length≠r.length:=by
  by_cases C:n<0
  ·have i:itoa n=45::decDigits n.natAbs:=by unfold itoa;rw[Z C]
   have j:eZ (decDigits n.natAbs++r) 0=(n.natAbs,r):=JF _ r 0 _ (Kf _ (by omega)) (by omega) B;have hlen:0<(decDigits n.natAbs).length:=j5.2 (so n.natAbs);have q:fw (itoa n++r)=decDigits n.natAbs++r:=by rw[i];simp[fw]
   have A:isM (itoa n++r)=true:=by rw[i];simp[isM]
   unfold eg fq;rw[q,A,j];refine⟨?_,rfl,?_⟩
   ·rw[Z rfl];show -(n.natAbs:Int)=n;omega
   rw[au];omega
  have i:itoa n=decDigits n.toNat:=by unfold itoa;rw[O C]
  have j:eZ (decDigits n.toNat++r) 0=(n.toNat,r):=JF _ r 0 _ (Kf _ (by omega)) (by omega) B;have hlen:0<(decDigits n.toNat).length:=j5.2 (so n.toNat);have a:=rZ n.toNat;have J:fw (itoa n++r)=decDigits n.toNat++r/\isM (itoa n++r)=false:=by
   rw[i];cases K:decDigits n.toNat with
   |nil=>exact absurd K (so _)
   |cons c t=>
    rw[K]at a;have h2:=a c (by simp);have d:c≠45:=by
     rintro rfl;simp[fv]at h2
    simp[fw,isM,d]
  unfold eg fq;rw[J.1,J.2,j];refine⟨?_,rfl,?_⟩
  ·rw[O (by simp)];show(n.toNat:Int)=n;omega
  rw[au];omega
 obtain⟨k1,k2,N⟩:=key;refine⟨k1,k2,?_⟩;unfold jG;rw[k1,k2];simp only[aI,ck,fR];refine⟨⟨⟨λe=>N e.symm,M⟩,h1⟩,?_⟩;rw[au,Nat.add_sub_cancel,tV];rfl
inductive Val where
 |mk (k n:Int) (s:Str) (l:List Val)
def Val.zero:Val:=.mk 0 0 [] []
instance:Inhabited Val:=⟨Val.zero⟩
def ja:Str:=[112,111,105,110,116,101,114]
def gX:Str:=[107,101,121]
def gI:Str:=[116,105,109,101]
def jj:Str:=[115,105,122,101]
def jh:Str:=[109,111,100,101]
def cK:Str:=[97,114,103,115]
def jc:Str:=[97,99,99,101,115,115]
def iI:Str:=[99,111,109,112,111,115,101]
def Xp:Str:=[100,111,119,110]
def Xh:Str:=[109,111,118,101]
def YN:Str:=[117,112]
def kj:Str:=[99,97,110,99,101,108]
def T0:Str:=[116,105,99,107]
def Qx:Str:=[119,104,101,101,108]
def abW:Str:=[112,114,101,115,115]
def acP:Str:=[102,111,99,117,115]
def y?:Str:=[105,110,99,114,101,97,115,101]
def E?:Str:=[100,101,99,114,101,97,115,101]
def M!:Str:=[115,101,116,116,101,120,116]
def abQ:Str:=[115,101,108,101,99,116]
def A?:Str:=[115,99,114,111,108,108,117,112]
def n?:Str:=[115,99,114,111,108,108,100,111,119,110]
def N?:Str:=[100,105,115,109,105,115,115]
def lN:Str:=[98,101,103,105,110]
def mB:Str:=[117,112,100,97,116,101]
def mz:Str:=[99,111,109,109,105,116]
def kl:Str:=[108,105,103,104,116]
def iy:Str:=[100,97,114,107]
def jB:Str:=[110,111,114,109,97,108]
def gU:Str:=[104,105,103,104]
def eI:Str:=[116,114,117,101]
def ed:Str:=[102,97,108,115,101]
structure PS where
 pos:Nat
 first:Bool
 ok:Bool
def aO(s:Str)(t:PS):Bool:=t.ok&&decide (t.pos<s.length)
def aD(s:Str)(b:UInt8)(t:PS):PS:=if aO s t=true/\s[t.pos]?=some b then⟨t.pos+1,t.first,t.ok⟩else⟨t.pos,t.first,false⟩
def bq(s:Str)(t:PS):PS:=if t.first=true then⟨t.pos,false,t.ok⟩else aD s 32 t
def aH(a:Bool)(c:UInt8):Bool:=c != 32&&(!a||c != 93)
def bX(s:Str)(cl:Bool)(t:PS):Str:=(s.drop t.pos).takeWhile (aH cl)
def dn(s:Str)(cl:Bool)(t:PS):PS:=⟨t.pos+(bX s cl t).length,t.first,t.ok && !(bX s cl t).isEmpty⟩
def b9(s:Str)(t:PS):Str:=bX s false (bq s t)
def bm(s:Str)(t:PS):PS:=dn s false (bq s t)
def idx(l:List Str)(w:Str):Int:=match l.findIdx? (· == w)with|some i=>(i:Int)|none=> -1
def bN(s:Str)(l:List Str)(t:PS):Int:=idx l (b9 s t)
def bc(s:Str)(l:List Str)(t:PS):PS:=⟨(bm s t).pos,(bm s t).first,(bm s t).ok&&decide (0<=idx l (b9 s t))⟩
def dB(s:Str)(t:PS):Int:=gw (b9 s t)
def bK(s:Str)(t:PS):PS:=⟨(bm s t).pos,(bm s t).first,(bm s t).ok&&fO (b9 s t)⟩
def jI(c:UInt8):Bool:=c==92||c==34||c==110
def oE(c:UInt8):UInt8:=if c=92 then 92 else if c=34 then 34 else if c=110 then 10 else 0
def lj(s:Str)(t:PS):UInt8:=if aO s t=true then(match s[t.pos]? with|some c=>oE c|none=>0)else 0
def fb(s:Str)(t:PS):PS:=if aO s t=true then(match s[t.pos]? with|some c=>⟨t.pos+1,t.first,jI c⟩|none=>⟨t.pos,t.first,false⟩)else⟨t.pos,t.first,false⟩
def pQ1(s:Str)(c:UInt8)(t:PS):UInt8×PS:=if c=92 then(lj s ⟨t.pos+1,t.first,t.ok⟩,fb s ⟨t.pos+1,t.first,t.ok⟩)else(c,⟨t.pos+1,t.first,t.ok⟩)
def pQL(s:Str):Nat->Str->PS->Str×PS
 |0,out,t=>(out,t)
 |n+1,out,t=>if aO s t=true then(match s[t.pos]? with
  |some c=>if c=34 then(out,t)else pQL s n (out++[(pQ1 s c t).1]) (pQ1 s c t).2
  |none=>(out,t))else(out,t)
def je(s:Str)(t:PS):Str×PS:=pQL s s.length [] (aD s 34 t)
def ku(s:Str)(t:PS):Str:=(je s t).1
def fk(s:Str)(t:PS):PS:=⟨(aD s 34 (je s t).2).pos,(aD s 34 (je s t).2).first,(aD s 34 (je s t).2).ok&&validD (je s t).1⟩
def iv(s:Str)(t:PS):Str:=ku s (bq s t)
def fY(s:Str)(t:PS):PS:=fk s (bq s t)
end Go.St
end
noncomputable section
namespace Go.Eng
structure Ob(h h1:AH)(id:Nat)(cs:LA):Prop where
 c:h1.E id=some cs
 nx:h.nx<=h1.nx
 get:∀i,i≠id->i<h.nx->h1.H.get i=h.H.get i
variable {h:AH}{id:Nat}{cs:LA}
theorem Ob.start(a:h.E id=some cs):Ob h h id cs:=⟨a,ay _,λ_ _ _=>rfl⟩
variable {h1:AH}
theorem Ob.bump(o:Ob h h1 id cs)(k:Nat)(a:h1.nx<=k):Ob h ⟨h1.H,k⟩ id cs:=⟨o.c,bf o.nx a,o.get⟩
theorem Ob.set(o:Ob h h1 id cs)(a:LA):Ob h (h1.set id (.cells a)) id a:=
 ⟨cse,o.nx,λi hi d=>by rw[dQ,O hi];exact o.get i hi d⟩
theorem Ob.lt(o:Ob h h1 id cs)(a:id<h.nx):id<h1.nx:=gq a o.nx
theorem Ob.new{h2:AH}(o:Ob h h1 id cs)(a:id<h.nx)(q:h1.nx<=h2.nx)(d:∀i,i<h1.nx->h2.H.get i=h1.H.get i):Ob h h2 id cs:=
 ⟨(aV (d id (o.lt a))).trans o.c,bf o.nx q,λi hi j=>by rw[d i (gq j o.nx)];exact o.get i hi j⟩
def qv(cs:LA):Prop:=∀H:AH,bU H false cs cs
variable {P:Program}{f:Nat}
theorem rL{args:LA}{v:AV}{R:QT}(B:id<h.nx)(hp:qv cs)(A:ah P f args h R)
  (j:∀d a,R d a->Frz (fresh a h.nx) false d v/\Ob h a id cs):ab P f args h v (h.set id (.cells cs)):=by
 refine DZ A rfl (λi hi=>?_) λd a q=>⟨(j d a q).1,λi hi=>?_⟩
 ·show(h.set id _).H.get i=_
  rw[gsn]
 have t:=(j d a q).2;by_cases he:i=id
 ·subst he;exact .inr ⟨cs,cs,rz t.c,by rw[dQ,Z rfl],hp _⟩
 exact .inl ⟨by rw[dQ,O he],t.get i he hi⟩
theorem kY{args:LA}{v:AV}{R:QT}(t:ah P f args h R)
  (j:∀d a,R d a->Frz (fresh a h.nx) false d v/\h.nx<=a.nx/\∀i,i<h.nx->a.H.get i=h.H.get i):ab P f args h v h:=
 ab5 t λd a q=>⟨(j d a q).1,(j d a q).2.2⟩
section
variable {P:Program} {f id:Nat} {args cs:LA} {h:AH} {v:AV}
theorem fU(d:ah P f args h λj a=>Frz (fresh a h.nx) false j v/\h.nx<=a.nx/\∀i,i<h.nx->a.H.get i=h.H.get i):ab P f args h v h:=kY d λ_ _ q=>q
theorem nM(d:ah P f args h λj a=>j=v/\h.nx<=a.nx/\∀i,i<h.nx->a.H.get i=h.H.get i)(t:∀H,Frz H false v v:=by first|exact λ_=>.int _ _|exact λ_=>.bool _|exact λ_=>.str _):ab P f args h v h:=
 kY d λ_ _ q=>⟨by rw[q.1];exact t _,q.2⟩
theorem wv(a:ah P f args h λd i=>d=v/\i=h)(j:∀H,Frz H false v v:=by first|exact λ_=>.int _ _|exact λ_=>.bool _|exact λ_=>.str _):ab P f args h v h:=
 kY a λ_ _ q=>⟨by rw[q.1];exact j _,by rw[q.2];exact⟨ay _,λ_ _=>rfl⟩⟩
theorem o9(a:id<h.nx)(hp:qv cs)(i:ah P f args h λj d=>Frz (fresh d h.nx) false j v/\Ob h d id cs):ab P f args h v (h.set id (.cells cs)):=rL a hp i λ_ _ q=>q
theorem fD(a:id<h.nx)(hp:qv cs)(d:ah P f args h λi j=>i=v/\Ob h j id cs)(t:∀H,Frz H false v v:=by first|exact λ_=>.int _ _|exact λ_=>.bool _|exact λ_=>.str _|exact λ_=>.tup _ _ rfl (by simp)):ab P f args h v (h.set id (.cells cs)):=
 rL a hp d λ_ _ q=>⟨by rw[q.1];exact t _,q.2⟩
end
def Gx(V:List (Nat×LA))(h:AH):Prop:=∀g cs,(g,cs)∈V->h.H.get g=some (.dN g cs)
open Go.St
variable {c:UInt8}
theorem dA{s:Str}{p:Nat}(a:s[p]?=some c):jl h (.str s) (I p)=some (.int .u8 c.toNat,h):=by
 have hp:p<s.length:=(aL.1 a).1;have he:s[p]=c:=by
  have:=bF hp;rw[a]at this;exact(j8 this).symm
 simp[jl,aix,hJ,hp,he]
theorem b8(c d:UInt8):((c.toNat:Int)==(d.toNat:Int))=(c==d):=by
 cases h:(c==d)with
 |true=>have:=eq_of_beq h;subst this;simp
 |false=>
  have a:c≠d:=by simpa using h
  have:c.toNat≠d.toNat:=λe=>a (UInt8.toNat_inj.1 e)
  simp;omega
theorem b8n(c d:UInt8):((c.toNat:Int) != (d.toNat:Int))=(c != d):=by
 show(!((c.toNat:Int)==(d.toNat:Int))) = !(c==d)
 rw[b8]
theorem af1(c:UInt8):((c.toNat:Int)==10)=(c==10):=b8 c 10
theorem xZ(c:UInt8):((c.toNat:Int) != 32)=(c != 32):=b8n c 32
theorem za(c:UInt8):((c.toNat:Int)==34)=(c==34):=b8 c 34
theorem xN(c:UInt8):((c.toNat:Int) != 34)=(c != 34):=b8n c 34
theorem ahd(c:UInt8):((c.toNat:Int)==45)=(c==45):=b8 c 45
theorem ag4(c:UInt8):((c.toNat:Int)==91)=(c==91):=b8 c 91
theorem zb(c:UInt8):((c.toNat:Int)==92)=(c==92):=b8 c 92
theorem aeK(c:UInt8):((c.toNat:Int) != 92)=(c != 92):=b8n c 92
theorem WZ(c:UInt8):((c.toNat:Int) != 93)=(c != 93):=b8n c 93
theorem WJ(c:UInt8):((c.toNat:Int)==110)=(c==110):=b8 c 110
theorem afI(h:AH):kX h (.nz false) [.bR]=some (.bool true,h):=ag rfl rfl
theorem XH(h:AH)(t:TypeId)(v:AV):kX h (.nz false) [.iface t v]=some (.bool false,h):=ag rfl rfl
theorem uD{s:Str}{a b:Nat}(h1:a<=b)(h2:b<=s.length):iD h (.str s) (some (I a)) (some (I b))=some (.str ((s.drop a).take (b-a)),h):=by
 have q1:(a:Int)<=b:=by omega
 have q2:(b:Int)<=s.length:=by omega
 simp[iD,qh,abd,hJ,q1,q2]
variable {α:Type}
theorem IG(p:α->Bool):∀(l:List α) (j:Nat),j<=(l.takeWhile p).length->(j<(l.takeWhile p).length↔∃x,l[j]?=some x/\p x=true)
 |[],j,_=>by simp
 |a::l,j,d=>by
  by_cases i:p a=true
  ·rw[tL i]at d ⊢;cases j with
   |zero=>simp[i]
   |succ j=>
    have:=IG p l j (by simpa using d);simpa using this
  rw[vB i]at d ⊢;simp at d;subst d;simp[i]
theorem OY(p:α->Bool)(l:List α):l.take (l.takeWhile p).length=l.takeWhile p:=by
 induction l with
 |nil=>rfl
 |cons a l i=>
  by_cases d:p a=true
  ·rw[tL d];simp[i]
  rw[vB d];simp
theorem ln(p:α->Bool)(l:List α):(l.takeWhile p).length<=l.length:=(List.takeWhile_sublist p).length_le
open Go.RowKit
def gA(g:AV)(r:Option (AV×AH))(h:AH)(k:AV->AH->Prop):Prop:=wg (gdv true g) (λk=>wk r k) h k
def gB(g:AV)(r:Option (AV×AH))(h:AH)(k:AV->AH->Prop):Prop:=wg (gdv false g) (λk=>wk r k) h k
abbrev F(n:Nat):AV:=.func (.func n) [] []
inductive An where
 |j (lo:List Nat)
 |jn (lo:List Nat)
 |l (li lo:List Nat)
def anD(d:Option Nat)(done:List Nat):List Nat:=
 match d with
 |some n=>done.filter λx=> !Nat.beq x n
 |none=>done
def anM(n:Nat):List Nat->Bool
 |[]=>false
 |x::l=>cond (Nat.beq x n) true (anM n l)
def zm(o:aq)(done:List Nat):Option Nat×List Nat:=
 match o.guard with
 |some (g,_)=>cond (anM g done) (none,anD o.dst done) (some g,anD o.dst (g::done))
 |none=>(none,anD o.dst done)
def xJ:List aq->List Nat->List (aq×Option Nat)
 |[],_=>[]
 |o::l,d=>(o,(zm o d).1)::xJ l (zm o d).2
def yM:List (aq×Nat)->List Nat->List ((aq×Nat)×Option Nat)
 |[],_=>[]
 |o::l,d=>(o,(zm o.1 d).1)::yM l (zm o.1 d).2
def Kz:List (aq×Nat)->Bool
 |[]=>false
 |o::l=>match o.1.guard with
  |some _=>true
  |none=>Kz l
def ID(a:List aq):dL:=.zG (xJ a [])
def Hu(a:List (aq×Nat)):dL:=cond (Kz a) (.zi (yM a [])) (.draw a)
def uY(i:Nat):List (Nat×An)->Option An
 |(k,t)::_=>cond (Nat.beq i k) (some t) none
 |[]=>none
def oe(i:Nat):List (Nat×An)->List (Nat×An)
 |(k,t)::l=>cond (Nat.beq i k) l ((k,t)::l)
 |[]=>[]
def tj(a:Option An)(s:dL):dL:=
 match a with
 |some (.j lo)=>.join lo s
 |some (.jn lo)=>.zj lo s
 |_=>s
def I3(a:Option An)(s:dL):dL:=
 match a with
 |some (.l li lo)=>.loop li lo s
 |_=>.loop [] [] s
structure AnS where
 c:dL
 i:Nat
 l:List (Nat×An)
def ann:jU->Nat->List (Nat×An)->AnS
 |.skip,i,l=>⟨.skip,i,l⟩
 |.reg ops,i,l=>⟨tj (uY i l) (ID ops),i+1,oe i l⟩
 |.draw ops,i,l=>⟨tj (uY i l) (Hu ops),i+1,oe i l⟩
 |.seq a b,i,l=>
  match ann a i l with
  |⟨x,j,l1⟩=>match ann b j l1 with
   |⟨y,k,l2⟩=>⟨.seq x y,k,l2⟩
 |.cond c a b,i,l=>
  match ann a (i+1) (oe i l)with
  |⟨x,j,l1⟩=>match ann b j l1 with
   |⟨y,k,l2⟩=>⟨tj (uY i l) (.cond c x y),k,l2⟩
 |.block id a,i,l=>
  match ann a (i+1) (oe i l)with
  |⟨x,j,l1⟩=>⟨tj (uY i l) (.block id x),j,l1⟩
 |.loop a,i,l=>
  match ann a (i+1) (oe i l)with
  |⟨x,j,l1⟩=>⟨I3 (uY i l) x,j,l1⟩
 |.exit id,i,l=>⟨.exit id,i,l⟩
 |.ret,i,l=>⟨.ret,i,l⟩
 |.stuck,i,l=>⟨.stuck,i,l⟩
 |.rng g ps a b,i,l=>
  match ann a i l with
  |⟨x,j,l1⟩=>match ann b j l1 with
   |⟨y,k,l2⟩=>⟨.rng [] g ps x y,k,l2⟩
theorem ZU:∀(l:List aq) (d:List Nat),(xJ l d).map (·.1)=l
 |[],_=>rfl
 |o::l,d=>by simp[xJ,ZU l]
theorem Z_:∀(l:List (aq×Nat)) (d:List Nat),(yM l d).map (·.1)=l
 |[],_=>rfl
 |o::l,d=>by simp[yM,Z_ l]
theorem aa8(a:List aq):(ID a).erase =.reg a:=by simp[ID,dL.erase,ZU]
theorem N!(a:List (aq×Nat)):(Hu a).erase =.draw a:=by
 unfold Hu;cases Kz a
 ·rfl
 simp[dL.erase,Z_]
theorem AK(a:Option An)(s:dL):(tj a s).erase=s.erase:=by
 unfold tj;split<;>rfl
theorem abJ(a:Option An)(s:dL):(I3 a s).erase =.loop s.erase:=by
 unfold I3;split<;>rfl
theorem pr:∀(c:jU) (i:Nat) (l:List (Nat×An)),(ann c i l).c.erase=c
 |.skip,i,l=>rfl
 |.reg ops,i,l=>by simp only[ann];rw[AK,aa8]
 |.draw ops,i,l=>by simp only[ann];rw[AK,N!]
 |.seq a b,i,l=>by
  simp only[ann];have h1:=pr a i l;have h2:=pr b (ann a i l).i (ann a i l).l;simp only[dL.erase];rw[h1,h2]
 |.cond c a b,i,l=>by
  simp only[ann];have h1:=pr a (i+1) (oe i l);have h2:=pr b (ann a (i+1) (oe i l)).i (ann a (i+1) (oe i l)).l;rw[AK];simp only[dL.erase];rw[h1,h2]
 |.block id a,i,l=>by
  simp only[ann];have h1:=pr a (i+1) (oe i l);rw[AK];simp only[dL.erase];rw[h1]
 |.loop a,i,l=>by
  simp only[ann];have h1:=pr a (i+1) (oe i l);rw[abJ,h1]
 |.exit id,i,l=>rfl
 |.ret,i,l=>rfl
 |.stuck,i,l=>rfl
 |.rng g d a b,i,l=>by
  simp only[ann];have h1:=pr a i l;have h2:=pr b (ann a i l).i (ann a i l).l;simp only[dL.erase];rw[h1,h2]
def YB:SFn:=⟨0,[],.stuck⟩
def zx(P:Program)(fn:Func)(l:List (Nat×An)):SFn:=
 match cFn P fn with
 |some af=>⟨af.nt,af.res,(ann af.body 0 l).c⟩
 |none=>YB
def I_(P:Program)(fn:Func)(l:List (Nat×An)):Bool:=(cFn P fn).isSome&&fn.name != "runtime.NumGoroutine"
variable {cl:CL}{fn:Func}{args:List AV}{R:AV->AH->Prop}{G:Prop}
theorem aii(d:mm P cl)(l:List (Nat×An))(j:P.funcs[f]?=some fn)(a:I_ P fn l=true)
  (q:vh cl (zx P fn l) args h R=G) (i:G):ah P f args h R:=by
 simp only[I_,aI]at a;obtain⟨h1,t⟩:=a;have A:fn.name ≠ "runtime.NumGoroutine":=by simpa using t
 have B:cFn P fn=some (zx P fn l).erase:=by
  unfold zx;cases C:cFn P fn with
  |none=>rw[C]at h1;cases h1
  |some J=>simp only[SFn.erase,pr]
 rw[<-q]at i;exact aeW d j B A i
def tU(P:Program):CL:=λf args h Q=>∃v h',ab P f args h v h'/\Q v h'
theorem ahj(P:Program):mm P (tU P):=λ_ _ _ _ q=>q
theorem sD{a:AH}{v:AV}{Q:AV->AH->Prop}(c:ab P f args h v a)(q:Q v a):tU P f args h Q:=⟨v,a,c,q⟩
theorem ax(l:List (Nat×An))(d:P.funcs[f]?=some fn)(i:G)(a:I_ P fn l=true:=by kernel_rfl)(j:vh (tU P) (zx P fn l) args h R=G:=by kernel_rfl):ah P f args h R:=aii (ahj P) l d a j i
def hiK:Prop:=vh (λ_ _ _ _=>False) YB [] emp λ_ _=>True
abbrev HP:=AH->Prop
abbrev OV:=Option (AV×AH)
abbrev X:Type:=QT->HP
def X.v(a:AV):X:=λk h=>(λ_:Prop=>k a h) hiK
instance:Coe AV X:=⟨X.v⟩
def xi(n:Int):X:=λk h=>(λ_:Prop=>k (.int .i64 n) h) hiK
def xn(t:IntKind)(n:Int):X:=λk h=>(λ_:Prop=>k (.int t n) h) hiK
def xs'(s:List UInt8):X:=λk h=>(λ_:Prop=>k (.str s) h) hiK
def xt:X:=λk h=>(λ_:Prop=>k (.bool true) h) hiK
def xf:X:=λk h=>(λ_:Prop=>k (.bool false) h) hiK
def xl:X:=λk h=>(λ_:Prop=>k .D h) hiK
def o0(f:AH->OV):X:=λk h=>wk (f h) k
def o1(f:AV->AH->OV)(x:X):X:=λk h=>x (λa h=>wk (f a h) k) h
def o2(f:AV->AV->AH->OV)(x y:X):X:=λk h=>x (λa h=>y (λb h=>wk (f a b h) k) h) h
def o3(f:AV->AV->AV->AH->OV)(x y z:X):X:=λk h=>x (λa h=>y (λb h=>z (λc h=>wk (f a b c h) k) h) h) h
def q0(b:Bool)(g:AV)(f:AH->OV):X:=λk h=>wg (gdv b g) (λk=>wk (f h) k) h k
def q1(b:Bool)(g:AV)(f:AV->AH->OV)(x:X):X:=λk h=>x (λa h=>wg (gdv b g) (λk=>wk (f a h) k) h k) h
def q2(b:Bool)(g:AV)(f:AV->AV->AH->OV)(x y:X):X:=λk h=>x (λa h=>y (λc h=>wg (gdv b g) (λk=>wk (f a c h) k) h k) h) h
def q3(b:Bool)(g:AV)(f:AV->AV->AV->AH->OV)(x y z:X):X:=λk h=>x (λa h=>y (λc h=>z (λd h=>wg (gdv b g) (λk=>wk (f a c d h) k) h k) h) h) h
def qm(b:Bool)(g v:AV):X:=λk h=>wg (gdv b g) (λk=>k v h) h k
noncomputable def evL(l:List X):(List AV->HP)->HP:=
 List.rec (motive:=λ_=>(List AV->HP)->HP) (λk h=>(λ_:Prop=>k [] h) hiK) (λx _ ih k h=>x (λa h=>ih (λr h=>k (a::r) h) h) h) l
section
variable (k:QT) (h:AH) (x y z:X) (b:Bool) (g v:AV)
@[simp ↓] theorem iT(a:AV):X.v a k h=k a h:=ag rfl rfl
@[simp ↓] theorem alA(n:Int):xi n k h=k (.int .i64 n) h:=ag rfl rfl
@[simp ↓] theorem al4(t:IntKind)(n:Int):xn t n k h=k (.int t n) h:=ag rfl rfl
@[simp ↓] theorem IY(s:List UInt8):xs' s k h=k (.str s) h:=ag rfl rfl
@[simp ↓] theorem alk:xt k h=k (.bool true) h:=ag rfl rfl
@[simp ↓] theorem alE:xf k h=k (.bool false) h:=ag rfl rfl
@[simp ↓] theorem al6:xl k h=k .D h:=ag rfl rfl
@[simp ↓] theorem y5(f:AH->OV):o0 f k h=wk (f h) k:=ag rfl rfl
@[simp ↓] theorem lp(f:AV->AH->OV):o1 f x k h=x (λa h=>wk (f a h) k) h:=ag rfl rfl
@[simp ↓] theorem sC(f:AV->AV->AH->OV):o2 f x y k h=x (λa h=>y (λb h=>wk (f a b h) k) h) h:=ag rfl rfl
@[simp ↓] theorem alB(f:AV->AV->AV->AH->OV):o3 f x y z k h=x (λa h=>y (λb h=>z (λc h=>wk (f a b c h) k) h) h) h:=ag rfl rfl
@[simp ↓] theorem alm(f:AH->OV):q0 b g f k h=wg (gdv b g) (λk=>wk (f h) k) h k:=ag rfl rfl
@[simp ↓] theorem alZ(f:AV->AH->OV):q1 b g f x k h=x (λa h=>wg (gdv b g) (λk=>wk (f a h) k) h k) h:=ag rfl rfl
@[simp ↓] theorem alV(f:AV->AV->AH->OV):q2 b g f x y k h=x (λa h=>y (λc h=>wg (gdv b g) (λk=>wk (f a c h) k) h k) h) h:=ag rfl rfl
@[simp ↓] theorem al3(f:AV->AV->AV->AH->OV):q3 b g f x y z k h=x (λa h=>y (λc h=>z (λd h=>wg (gdv b g) (λk=>wk (f a c d h) k) h k) h) h) h:=ag rfl rfl
@[simp ↓] theorem alU:qm b g v k h=wg (gdv b g) (λk=>k v h) h k:=ag rfl rfl
@[simp ↓] theorem adM(k:List AV->HP):evL [] k h=k [] h:=ag rfl rfl
@[simp ↓] theorem abi(l:List X)(k:List AV->HP):evL (x::l) k h=x (λa h=>evL l (λr h=>k (a::r) h) h) h:=ag rfl rfl
end
abbrev Y:Type:=(AV->Rec->HP)->HP
def Y.v(a:AV):Y:=λk h=>(λ_:Prop=>k a .pure h) hiK
instance:Coe AV Y:=⟨Y.v⟩
def yi(n:Int):Y:=λk h=>(λ_:Prop=>k (.int .i64 n) .pure h) hiK
def yn(t:IntKind)(n:Int):Y:=λk h=>(λ_:Prop=>k (.int t n) .pure h) hiK
def ys(s:List UInt8):Y:=λk h=>(λ_:Prop=>k (.str s) .pure h) hiK
def yt:Y:=λk h=>(λ_:Prop=>k (.bool true) .pure h) hiK
def yf:Y:=λk h=>(λ_:Prop=>k (.bool false) .pure h) hiK
abbrev Md:Type:=OV->Rec->AH->(AV->Rec->HP)->Prop
def Md.n:Md:=λr c h k=>wdp h r c k
def Md.a(g:AV):Md:=λr c h k=>wgd (gdv true g) (λk=>wdp h r c k) h k
def Md.b(g:AV):Md:=λr c h k=>wgd (gdv false g) (λk=>wdp h r c k) h k
def p0(f:AH->OV)(m:Md):Y:=λk h=>(λ_:Prop=>m (f h) .pure h k) hiK
def p1(f:AV->AH->OV)(m:Md)(x:Y):Y:=λk h=>(λ_:Prop=>x (λa _ h=>m (f a h) .pure h k) h) hiK
def p1r(f:AV->AH->OV)(m:Md)(x:Y):Y:=λk h=>(λ_:Prop=>x (λa _ h=>m (f a h) (rdK (rdv a)) h k) h) hiK
def p2(f:AV->AV->AH->OV)(m:Md)(x y:Y):Y:=λk h=>(λ_:Prop=>x (λa _ h=>y (λb _ h=>m (f a b h) .pure h k) h) h) hiK
def p3(f:AV->AV->AV->AH->OV)(m:Md)(x y z:Y):Y:=λk h=>(λ_:Prop=>x (λa _ h=>y (λb _ h=>z (λc _ h=>m (f a b c h) .pure h k) h) h) h) hiK
def pe(f:AV->AV->AH->OV)(x y:Y):Y:=λk h=>x (λa _ h=>y (λb _ h=>wde h (f a b h) k) h) h
noncomputable def evY(l:List Y):(List AV->HP)->HP:=
 List.rec (motive:=λ_=>(List AV->HP)->HP) (λk h=>(λ_:Prop=>k [] h) hiK) (λx _ ih k h=>x (λa _ h=>ih (λr h=>k (a::r) h) h) h) l
def cY(P:Program)(n:Nat)(l:List Y):Y:=λk h=>evY l (λu h=>wdc (tU P) (F n) u h k) h
def cYg(P:Program)(b:Bool)(g:AV)(n:Nat)(l:List Y):Y:=λk h=>evY l (λu h=>wgd (gdv b g) (λk=>wdc (tU P) (F n) u h k) h k) h
def wSy(x:Y)(k:AV->HP):HP:=λh=>x (λa _ h=>wsp a λb=>k b h) h
def wdR(n:Nat)(k:Nat->HP):HP:=λh=>wdr h n k
def wdA(r:Nat)(x:Option (bg×(Nat->AV)))(k:AV->Rec->HP):HP:=λh=>wda r h x k
def wK(a b:Rec)(p:HP):HP:=λh=>bT a b=true/\p h
section
variable (k:AV->Rec->HP) (h:AH) (x y z:Y) (m:Md) (g v:AV) (r:OV) (c:Rec)
@[simp ↓] theorem alT(a:AV):Y.v a k h=k a .pure h:=ag rfl rfl
@[simp ↓] theorem alz(n:Int):yi n k h=k (.int .i64 n) .pure h:=ag rfl rfl
@[simp ↓] theorem alX(t:IntKind)(n:Int):yn t n k h=k (.int t n) .pure h:=ag rfl rfl
@[simp ↓] theorem alj(s:List UInt8):ys s k h=k (.str s) .pure h:=ag rfl rfl
@[simp ↓] theorem alY:yt k h=k (.bool true) .pure h:=ag rfl rfl
@[simp ↓] theorem aly:yf k h=k (.bool false) .pure h:=ag rfl rfl
@[simp ↓] theorem al9:Md.n r c h k=wdp h r c k:=ag rfl rfl
@[simp ↓] theorem ama:Md.a g r c h k=wgd (gdv true g) (λk=>wdp h r c k) h k:=ag rfl rfl
@[simp ↓] theorem al_:Md.b g r c h k=wgd (gdv false g) (λk=>wdp h r c k) h k:=ag rfl rfl
@[simp ↓] theorem alr(f:AH->OV):p0 f m k h=m (f h) .pure h k:=ag rfl rfl
@[simp ↓] theorem alD(f:AV->AH->OV):p1 f m x k h=x (λa _ h=>m (f a h) .pure h k) h:=ag rfl rfl
@[simp ↓] theorem alh(f:AV->AH->OV):p1r f m x k h=x (λa _ h=>m (f a h) (rdK (rdv a)) h k) h:=ag rfl rfl
@[simp ↓] theorem al7(f:AV->AV->AH->OV):p2 f m x y k h=x (λa _ h=>y (λb _ h=>m (f a b h) .pure h k) h) h:=ag rfl rfl
@[simp ↓] theorem alq(f:AV->AV->AV->AH->OV):p3 f m x y z k h=x (λa _ h=>y (λb _ h=>z (λc _ h=>m (f a b c h) .pure h k) h) h) h:=ag rfl rfl
@[simp ↓] theorem al8(f:AV->AV->AH->OV):pe f x y k h=x (λa _ h=>y (λb _ h=>wde h (f a b h) k) h) h:=ag rfl rfl
@[simp ↓] theorem akF(k:List AV->HP):evY [] k h=k [] h:=ag rfl rfl
@[simp ↓] theorem akX(l:List Y)(k:List AV->HP):evY (x::l) k h=x (λa _ h=>evY l (λr h=>k (a::r) h) h) h:=ag rfl rfl
@[simp ↓] theorem alp(P:Program)(n:Nat)(l:List Y):cY P n l k h=evY l (λu h=>wdc (tU P) (F n) u h k) h:=ag rfl rfl
@[simp ↓] theorem ak9(P:Program)(b:Bool)(n:Nat)(l:List Y):cYg P b g n l k h=evY l (λu h=>wgd (gdv b g) (λk=>wdc (tU P) (F n) u h k) h k) h:=ag rfl rfl
@[simp ↓] theorem alK(k:AV->HP):wSy x k h=x (λa _ h=>wsp a λb=>k b h) h:=ag rfl rfl
@[simp ↓] theorem alf(n:Nat)(k:Nat->HP):wdR n k h=wdr h n k:=ag rfl rfl
@[simp ↓] theorem akZ(r:Nat)(x:Option (bg×(Nat->AV))):wdA r x k h=wda r h x k:=ag rfl rfl
@[simp ↓] theorem alo(a b:Rec)(p:HP):wK a b p h=(bT a b=true/\p h):=ag rfl rfl
end
def wI(x:X)(p q:HP):HP:=λh=>x (λc h=>wif c (p h) (q h)) h
def wS(x:X)(k:AV->HP):HP:=λh=>x (λa h=>wsp a λb=>k b h) h
def cC(P:Program)(n:Nat)(l:List X):X:=λk h=>evL l (λu h=>tU P n u h k) h
def cW(P:Program)(f:X)(l:List X):X:=λk h=>f (λf h=>evL l (λu h=>mR (tU P) f u h k) h) h
def cG(P:Program)(b:Bool)(g:AV)(n:Nat)(l:List X):X:=λk h=>evL l (λu h=>wg (gdv b g) (λk=>tU P n u h k) h k) h
def wJ(A:AH->NT->Prop)(k:NT):HP:=λh=>qz (A h) k
def wJx(A:AH->JT->Prop)(k:JT):HP:=λh=>zg (A h) k
def wL(B:List AV->AH->KT->Prop)(a:List AV)(k:JT):HP:=λh=>uW B a h k
def wV(l:List RV)(Q:QT):HP:=λh=>ou (mg h l) h Q
def wF:HP:=λ_=>False
noncomputable def lkC(l:List (Nat×HP))(j:Nat)(h:AH):Prop:=
 (λ_:Prop=>List.rec (motive:=λ_=>Prop) False (λx _ ih=>cond (Nat.beq j x.1) (x.2 h) ih) l) hiK
def wX(x:AX)(p:HP)(l:List (Nat×HP))(q:HP):HP:=λh=>xs x (p h) (λj=>lkC l j h) (q h)
section
variable (k:QT) (h:AH) (x:X) (b:Bool) (g:AV) (P:Program) (n:Nat) (l:List X)
@[simp ↓] theorem alC(p q:HP):wI x p q h=x (λc h=>wif c (p h) (q h)) h:=ag rfl rfl
@[simp ↓] theorem alv(k:AV->HP):wS x k h=x (λa h=>wsp a λb=>k b h) h:=ag rfl rfl
@[simp ↓] theorem agr:cC P n l k h=evL l (λu h=>tU P n u h k) h:=ag rfl rfl
@[simp ↓] theorem al1:cW P x l k h=x (λf h=>evL l (λu h=>mR (tU P) f u h k) h) h:=ag rfl rfl
@[simp ↓] theorem al2:cG P b g n l k h=evL l (λu h=>wg (gdv b g) (λk=>tU P n u h k) h k) h:=ag rfl rfl
@[simp ↓] theorem aln(A:AH->NT->Prop)(k:NT):wJ A k h=qz (A h) k:=ag rfl rfl
@[simp ↓] theorem alG(A:AH->JT->Prop)(k:JT):wJx A k h=zg (A h) k:=ag rfl rfl
@[simp ↓] theorem al0(B:List AV->AH->KT->Prop)(a:List AV)(k:JT):wL B a k h=uW B a h k:=ag rfl rfl
@[simp ↓] theorem alW(l:List RV)(Q:QT):wV l Q h=ou (mg h l) h Q:=ag rfl rfl
@[simp ↓ high] theorem akk(j:Nat)(p:HP)(l:List (Nat×HP)):lkC ((j,p)::l) j h=p h:=by
 have e:lkC ((j,p)::l) j h=cond (Nat.beq j j) (p h) (lkC l j h):=ag rfl rfl;rw[e,Nat.beq_refl];exact ag rfl rfl
@[simp ↓] theorem alF(p q:HP)(l:List (Nat×HP)):wX .nrm p l q h=p h:=ag rfl rfl
@[simp ↓] theorem akx(j:Nat)(p q:HP)(l:List (Nat×HP)):wX (.exit j) p l q h=lkC l j h:=ag rfl rfl
@[simp ↓] theorem alO(p q:HP)(l:List (Nat×HP)):wX .ret p l q h=q h:=ag rfl rfl
end
open Go.RowKit
theorem JH{p:Nat->α->Prop}:∀(n:Nat),(∀i,i<n->∃y,p i y)->∃l:List α,l.length=n/\∀i y,l[i]?=some y->p i y
 |0,_=>⟨[],rfl,λi y h=>by simp at h⟩
 |n+1,h=>by
  obtain⟨l,h1,h2⟩:=JH n λi hi=>h i (by omega)
  obtain⟨y,d⟩:=h n (by omega);refine⟨l++[y],by simp[h1],λi z a=>?_⟩;rw[i_]at a;split at a
  ·exact h2 i z a
  rename_i hi;have:i=n:=by
   have:=(aL.1 a).1;simp at this;omega
  subst this;simp[h1]at a;subst a;exact d
section
variable {H:Type} {enc:TypeId×Value->H} {P:Program} {w:World} {spare:Nat->Bool} {held:Bool} {L:Nat->Prop}
def td(w:World)(L:Nat->Prop)(a:List AV)(cs:List Value):Prop:=a.length=cs.length/\∀(i:Nat) (c:AV) (v:Value),a[i]?=some c->cs[i]?=some v->VR w.heap L noB c v
end
open Go.RowKit
mutual
def mT{H:Type}(P:Program):Nat->TypeId->DataW H->Option (List AV)
 |0,_,_=>none
 |n+1,t,d=>match P.underlying t with
  |some .bool=>match d with
   |.lit (.bool b)=>some [.bool b]
   |_=>none
  |some (.int k)=>match d with
   |.lit (.int k' m)=>if k'=k then some [.int k m]else none
   |_=>none
  |some (.array len e)=>match d with
   |.agg ds=>if ds.length=len/\P.cellsOf t=len*P.cellsOf e then u6 P n e (P.cellsOf e) ds else none
   |_=>none
  |some (.struct fs)=>match d with
   |.agg ds=>match oa P n fs.toList 0 ds with
    |some al=>if al.length=P.cellsOf t then some al else none
    |none=>none
   |_=>none
  |_=>none
def u6{H:Type}(P:Program):Nat->TypeId->Nat->List (DataW H)->Option (List AV)
 |_,_,_,[]=>some []
 |n,e,z,d::ds=>match mT P n e d,u6 P n e z ds with
  |some a,some b=>if a.length=z then some (a++b)else none
  |_,_=>none
def oa{H:Type}(P:Program):Nat->List Field->Nat->List (DataW H)->Option (List AV)
 |_,[],_,[]=>some []
 |n,f::fs,o,d::ds=>match mT P n f.type d with
  |some a=>if f.offset=o/\a.length=P.cellsOf f.type then(match oa P n fs (o+a.length) ds with
   |some b=>some (a++b)
   |none=>none)else none
  |none=>none
 |_,_,_,_=>none
end
variable {al bs:List AV}{z m:Nat}{e:TypeId}
section
variable {H:Type} {enc:TypeId×Value->H} {P:Program} {w:World} {base:Nat} {spare:Nat->Bool} {held:Bool} {hp:Array Obj} {L:Nat->Prop} {β:Bl}
theorem RL.take_drop{cs:List Value}(h1:RL hp L β al (cs.take z))(a:al.length=z)(h2:RL hp L β bs (cs.drop z)):RL hp L β (al++bs) cs:=by
 have:=h1.append h2;rwa [pV]at this
theorem NP{n:Nat}(A:∀(cs:List Value) (d:DataW H) (p:List MemPlace) (al:List AV),DataW.trod enc P w base spare held m e cs=some (d,p)->mT P n e d=some al->RL hp L β al cs):
  ∀(xs:List (DataW H×List MemPlace)) (cs:List Value) (al:List AV),cs.length=xs.length*P.cellsOf e->(∀i,i<xs.length->DataW.trod enc P w base spare held m e ((cs.drop (i*P.cellsOf e)).take (P.cellsOf e))=xs[i]?)->
   u6 P n e (P.cellsOf e) (xs.map (·.1))=some al->RL hp L β al cs
 |[],cs,al,q,t,j=>by
  simp[u6]at j;subst j;have:cs=[]:=mu.1 (by simpa using q);subst this;exact .nil
 |x::xs,cs,al,q,t,j=>by
  simp only[da,u6]at j;split at j
  ·rename_i a b C J;split at j
   ·rename_i K;cases j;have B:=t 0 (by simp);simp at B;obtain⟨d,p⟩:=x;have r1:=A _ d p a B C;refine r1.take_drop K (NP A xs _ _ ?_ (λi hi=>?_) J)
    ·simp only[bW,q,aF,oO];omega
    have:=t (i+1) (by simp;omega);rw[oO]at this;rw[lB,Nat.add_comm];simpa using this
   cases j
  cases j
theorem MY{n:Nat}(T:∀(t:TypeId) (cs:List Value) (d:DataW H) (p:List MemPlace) (al:List AV),DataW.trod enc P w base spare held m t cs=some (d,p)->mT P n t d=some al->RL hp L β al cs):
  ∀(q:List Field) (xs:List (DataW H×List MemPlace)) (o:Nat) (cs:List Value) (al:List AV),al.length=cs.length->(∀(i:Nat) (f:Field),q[i]?=some f->∃x,xs[i]?=some x/\o<=f.offset/\DataW.trod enc P w base spare held m f.type ((cs.drop (f.offset-o)).take (P.cellsOf f.type))=some x)->
   oa P n q o (xs.map (·.1))=some al->RL hp L β al cs
 |[],[],o,cs,al,J,K,j=>by
  simp[oa]at j;subst j;have:cs=[]:=mu.1 (by simpa using J.symm);subst this;exact .nil
 |[],x::xs,o,cs,al,J,K,j=>by simp[oa]at j
 |f::q,[],o,cs,al,J,K,j=>by simp[oa]at j
 |f::q,x::xs,o,cs,al,J,K,j=>by
  simp only[da,oa]at j;split at j
  ·rename_i a ha;split at j
   ·rename_i U;obtain⟨N,V⟩:=U;split at j
    ·rename_i b A;cases j;obtain⟨x',h1,h2,W⟩:=K 0 f rfl;simp at h1;subst h1;rw[N,rm,rq]at W;obtain⟨d,p⟩:=x;have r1:=T _ _ d p a W ha;refine r1.take_drop V (MY T q xs _ _ _ ?_ (λi g B=>?_) A)
     ·simp at J ⊢; omega
     obtain⟨y,q1,q2,q3⟩:=K (i+1) g (by simpa using B);have C:o+a.length<=g.offset:=by
      clear q3;have:∀(q:List Field) (M:List (DataW H)) (o:Nat) (b:List AV),oa P n q o M=some b->∀(i:Nat) (g:Field),q[i]?=some g->o<=g.offset:=by
       intro q;induction q with
       |nil=>intro M o b _ i g B;simp at B
       |cons f q Q=>
        intro M o b A i g B;cases M with
        |nil=>simp[oa]at A
        |cons d M=>
        simp only[oa]at A;split at A
        ·split at A
         ·rename_i U;split at A
          ·rename_i b' S;cases i with
           |zero=>simp at B;subst B;omega
           |succ i=>have:=Q _ _ _ S i g (by simpa using B);omega
          cases A
         cases A
        cases A
      exact this _ _ _ _ A i g B
     refine⟨y,by simpa using q1,C,?_⟩;rw[<-V,lB,show a.length+(g.offset-(o+a.length))=g.offset-o by omega];exact q3
    cases j
   cases j
  cases j
theorem K8:∀(n m:Nat) (t:TypeId) (cs:List Value) (d:DataW H) (p:List MemPlace) (al:List AV),DataW.trod enc P w base spare held m t cs=some (d,p)->mT P n t d=some al->RL hp L β al cs
 |0,m,t,cs,d,p,al,J,a=>by simp[mT]at a
 |n+1,m,t,cs,d,p,al,J,a=>by
  unfold mT at a;split at a
  ·rename_i hu;obtain⟨b,rfl,j⟩:=DataW.trod_bool hu J;cases j;cases a;exact .cons (.bool _) .nil
  ·rename_i k hu;obtain⟨q,rfl,j,_⟩:=DataW.trod_int hu J;cases j;simp only[bt]at a;cases a;exact .cons (.int _ _) .nil
  ·rename_i len e hu;obtain⟨xs,m1,rfl,j,A,B,C⟩:=DataW.trod_array hu J;cases j;simp only at a;split at a
   ·rename_i Q;exact NP (n:=n) (λcs d p al h1 h2=>K8 n m1 e cs d p al h1 h2) xs cs al (by rw[A,Q.2,B]) (λi hi=>C i (by omega)) a
   cases a
  ·rename_i N hu;obtain⟨xs,m1,rfl,j,A,B,C⟩:=DataW.trod_struct hu J;cases j;simp only at a;split at a
   ·rename_i T h1;split at a
    ·rename_i S;cases a;refine MY (n:=n) (λt cs d p al h1 h2=>K8 n m1 t cs d p al h1 h2) N.toList xs 0 cs al (by rw[S,A]) (λi f hi=>?_) h1;have K:N[i]?=some f:=by simpa using hi
     have M:i<xs.length:=by rw[B];exact(oN.1 K).1
     have:=C i f K;rw[bF M]at this;exact⟨xs[i],by simp[M],fJ _,by simpa using this⟩
    cases a
   cases a
  cases a
end
variable {hp hp':Array Obj}{L L':Nat->Prop}{β β':Bl}{w w':World}{xs:List Value}{o:Oper}
section
variable {P:Program} {w:World}
def uw:AV->Bool
 |.bool _ |.int _ _=>true
 |_=>false
theorem R!{a:AV}{v:Value}(h1:uw a=true)(h:VR hp L β a v):VR hp' L' β' a v:=by
 cases a<;>simp[uw]at h1<;>cases h
 ·exact .bool _
 exact .int _ _
def Shp(w w':World):Prop:=∀(k:Nat) (cur:Array Value) (e:TypeId) (fz:Nat×Nat),w.heap[k]?=some (.cells cur e fz)->∃cur',w'.heap[k]?=some (.cells cur' e fz)/\cur'.size=cur.size
theorem Shp.trans{a d:World}(h:Shp w a)(k:Shp a d):Shp w d:=λx cur e i j=>by
 obtain⟨c1,h1,h2⟩:=h x cur e i j;obtain⟨c2,q,t⟩:=k x c1 e i h1;exact⟨c2,q,t.trans h2⟩
theorem Shp.refl(w:World):Shp w w:=λ_ cur _ _ h=>⟨cur,h,rfl⟩
theorem Shp.grown(h:w.grownBy w' none):Shp w w':=λk cur e d a=>⟨cur,by rw[h.block k (gR a) (by simp)];exact a,rfl⟩
theorem Shp.setCell(w:World)(a:Addr)(v:Value):Shp w (w.setCell a v):=λk cur e j i=>by
 simp only[World.setCell,tM];by_cases d:a.block=k
 ·rw[Z d,i];exact⟨if a.spot.isSome=true then cur else cur.setIfInBounds a.off v,rfl,by split<;>simp⟩
 rw[O d];exact⟨cur,i,rfl⟩
def fc(e:TypeId)(v:Value)(xs:List Value)(w:World):Prop:=
 (v =.slice none 0 0/\xs=[])\/∃g cap cur,v =.slice (some ⟨g,0,none⟩) xs.length cap/\w.heap[g]?=some (.cells cur e (0,0))/\xs.length<=cap/\cap<=maxLen/\cap<=cur.size/\cur.toList.take xs.length=xs
theorem fc.of{v:Value}{n:Nat}(h:w.ownsRow 0 e 1 v n xs):fc e v xs w:=by
 have a:xs.length=n:=by simpa using h.1
 rcases h.2 with⟨h1,h2⟩|⟨g,cap,cur,h1,_,d,q,i,t,j⟩
 ·exact .inl ⟨h1,fQ (by omega)⟩
 exact .inr ⟨g,cap,cur,by rw[a];exact h1,d,by omega,i,by omega,by rw[a];simpa using j⟩
theorem fc.other{v:Value}(h:fc e v xs w)(a:∀g,v.ownBlock=some g->w'.heap[g]?=w.heap[g]?):fc e v xs w':=by
 rcases h with h|⟨g,cap,cur,rfl,d,i⟩
 ·exact .inl h
 exact .inr ⟨g,cap,cur,rfl,by rw[a g rfl];exact d,i⟩
theorem l?(t u M e:TypeId)(i:TypeInfo)(U:P.underlying t=some (.slice e))(V:P.underlying u=some .string)(W:P.info? e=some i)(hz:i.zero=some (.int .u8 0))
  (d:i.size=1) (C:i.bytes=1) (v:Value) (xs:List Value) (T:fc e v xs w) (s:ByteArray) (a:xs.length+s.size<=140737488355328):
  ∃B w',(Builtin.append_ #[t,u] M #[v,.string s]).run P w =.ok B w'/\fc e B (xs++Lib.strCells s) w'/\w.grownBy w' v.ownBlock/\
   (B =.slice none 0 0↔v =.slice none 0 0/\s.size=0)/\(B.ownBlock=v.ownBlock\/B.ownBlock=some w.heap.size)/\Shp w w':=by
 rcases T with⟨rfl,rfl⟩|⟨g,cap,cur,rfl,N,an,ad,ao,q⟩
 ·obtain⟨B,w',K,h1,h2,h3⟩:=Lib.run_append_own_string (P:=P) w 0 t u M e i U V W hz d C (.slice none 0 0) 0 [] (World.ownsRow_nil w 0 e 1) s (by simp only[maxLen];simp at a;omega) (by simpa using a) (fJ _);refine⟨B,w',K,fc.of h1,h2,h3,?_,.grown h2⟩;by_cases hm:s.size=0
  ·rw[h3.2 ⟨rfl,hm⟩];exact .inl rfl
  simp at a;have Q:=run_append_nil_string (P:=P) w t u M e i (.int .u8 0) U V W hz s (by omega) (by omega) (by rw[C];omega);rw[K]at Q;cases Q;exact .inr rfl
 have hl:(xs++Lib.strCells s).length=xs.length+s.size:=by rw[au,Lib.strCells_length]
 by_cases J:xs.length+s.size<=cap
 ·have K:=Lib.run_append_room_string (P:=P) w t u M e i U V W d g xs.length cap cur N s J (by omega);refine⟨_,_,K,.inr ⟨g,cap,_,by rw[hl],setRow_heap w g cur _ e _ N,by omega,ad,?_,?_⟩,⟨rfl,rfl,rfl,by simp,λk _ A=>vF w g k _ (λe=>A (by simp[Value.ownBlock,e]))⟩,by simp,.inl rfl,λk c2 e2 fz A=>?_⟩
  ·simp only[rn,au,mv,bW,tQ,Lib.strCells_length];omega
  ·rw[q];exact vK
  by_cases S:k=g
  ·subst S;rw[N]at A;cases A;refine⟨_,setRow_heap w k _ _ e _ N,?_⟩;simp only[rn,au,mv,bW,tQ,Lib.strCells_length];omega
  exact⟨c2,by rw[vF w g k _ S];exact A,rfl⟩
 have holds:∀(j:Nat) u,xs[j]?=some u->w.cell? ((⟨g,0,none⟩:Addr).add j)=some u:=λj u hj=>by
  have af:j<xs.length:=(aL.1 hj).1;rw[<-q,gN,Z af]at hj;have e1:((⟨g,0,none⟩:Addr).add j)=⟨g,j,none⟩:=by cases j<;>simp[Addr.add]
  rw[e1];simp only[World.cell?,N];simpa using hj
 have K:=Lib.run_append_grow_string (P:=P) w t u M e i (.int .u8 0) U V W hz ⟨g,0,none⟩ xs.length cap xs (by rw[d];simp) holds s (by omega) (by omega) (by rw[C];exact growslice_fits (by omega) (by omega));have ar:=grownCap_ge w (xs.length+s.size) cap e;have hm:grownCap w (xs.length+s.size) cap e<=maxLen:=zJ w (xs.length+s.size) cap e (by simp only[maxLen];omega);refine⟨_,_,K,.inr ⟨w.heap.size,_,_,by rw[hl],vI w.drew _,by omega,hm,?_,?_⟩,⟨rfl,rfl,rfl,by simp,λk A _=>heap_alloc_old w.drew _ A⟩,by simp,.inr rfl,λk c2 e2 fz A=>⟨c2,by rw[heap_alloc_old w.drew _ (gR A)];exact A,rfl⟩⟩
 ·have aj:(Value.int IntKind.u8 0).cells.size=1:=rfl;simp only[zM,rn,size_zeroCells,aj,Lib.strCells_length];omega
 simp only[zI,gr];rw[<-gr];exact vK
theorem aiL{A:Array Oper}{iX:List Oper}{a:Act}{Q:Exit->Act->World->Prop}(C:o.guard=none)(M x:Operand)(t u:TypeId)
  (N:o.op =.call { callee:=.builtin .append,args:= #[M,x],argTypes:= #[t,u] })
  (e:TypeId) (i:TypeInfo) (S:P.underlying t=some (.slice e)) (T:P.underlying u=some .string) (U:P.info? e=some i) (V:i.zero=some (.int .u8 0))
  (q:i.size=1) (J:i.bytes=1) (v:Value) (xs:List Value) (W:a.eval M=v) (B:fc e v xs w) (s:ByteArray) (hx:a.eval x =.string s)
  (d:xs.length+s.size<=140737488355328)
  (h:∀j w',fc e j (xs++Lib.strCells s) w'->w.grownBy w' v.ownBlock->(j =.slice none 0 0↔v =.slice none 0 0/\s.size=0)->(j.ownBlock=v.ownBlock\/j.ownBlock=some w.heap.size)->Shp w w'->wpList P A Q iX (a.put o.dst j) w'):wpList P A Q (o::iX) a w:=by
 refine wpList_plain C λK hK=>?_
 obtain⟨j,w',hr,h2,h3,h4,h5,h6⟩:=l? (P:=P) (w:=w) t u o.type e i S T U V q J v xs B s d;unfold Oper.wp execOp;simp only[N,resolve,invoke,builtin,dy,fC,ey,List.map_toArray,da,h_,W,hx,hr];exact hK _ _ (h j w' h2 h3 h4 h5 h6)
structure Bld(tE:TypeId)(b:Nat)(v:Value)(bs:List Value)(w:World):Prop where
 own:fc tE v bs w
 ne:v.ownBlock≠some b
def SL(P:Program)(f:Nat)(tB tE:TypeId):Prop:=
 ∀(b:Nat) (p v:Value) (bs:List Value) (s:ByteArray) (w:World),w.heap[b]?=some (.cells #[p,v] tB (0,0))->(p =.pointer none\/p =.pointer (some ⟨b,0,none⟩))->Bld tE b v bs w->bs.length+s.size<=140737488355328->
  Calls P f #[.pointer (some ⟨b,0,none⟩),.string s] w λe w'=>e =.returned (.tuple #[.int .i64 s.size,.nilIface])/\
   ∃v',w'.heap[b]?=some (.cells #[.pointer (some ⟨b,0,none⟩),v'] tB (0,0))/\Bld tE b v' (bs++Lib.strCells s) w'/\(v' =.slice none 0 0↔v =.slice none 0 0/\s.size=0)/\(v'.ownBlock=v.ownBlock\/∃g,v'.ownBlock=some g/\w.heap.size<=g)/\
    w'.os=w.os/\w'.tape=w.tape/\w'.output=w.output/\w.heap.size<=w'.heap.size/\(∀k,k<w.heap.size->k≠b->some k≠v.ownBlock->w'.heap[k]?=w.heap[k]?)/\Shp w w'
end
def fg(s:List UInt8):List AV:=s.map λc=>.int .u8 c.toNat
theorem q!(s:List UInt8):Lib.strCells ⟨s.toArray⟩=s.map λc=>Value.int .u8 c.toNat:=by simp[Lib.strCells]
def IQ(h:AH):Option Nat->AH
 |none=>h
 |some g=>h.kill g
theorem Y'(h:AH)(og:Option Nat)(i:Nat):(IQ h og).H.get i=if og=some i then none else h.H.get i:=by
 cases og with
 |none=>simp[IQ]
 |some g=>
  show(h.kill g).H.get i=_
  rw[my];by_cases hi:i=g
  ·subst hi;simp
  rw[O hi,O (by simpa using λe=>hi e.symm)]
def mJ(h:AH)(id:Nat)(og:Option Nat)(tB tE:TypeId)(cs:List AV)(s:List UInt8):AH:=
 ⟨((IQ h og).H.put id (.typ (2*tB+1) [.ptr id 0,.rsl h.nx 0 (cs.length+s.length) 1])).put h.nx (.typ (2*tE) (cs++fg s)),h.nx+1⟩
theorem ZV(h:AH)(id:Nat)(og:Option Nat)(tB tE:TypeId)(cs:List AV)(s:List UInt8)(i:Nat):(mJ h id og tB tE cs s).H.get i=if i=h.nx then some (.typ (2*tE) (cs++fg s))else if i=id then some (.typ (2*tB+1) [.ptr id 0,.rsl h.nx 0 (cs.length+s.length) 1])else if og=some i then none else h.H.get i:=by
 unfold mJ;simp only[PM.lT];rw[Y']
theorem Ka(t:Nat):2*t/2=t:=by omega
def uV(h:AH)(id:Nat)(tE:TypeId)(bv:AV)(cs:List AV)(og:Option Nat):Prop:=
 (bv =.D/\cs=[]/\og=none)\/∃g,og=some g/\g≠id/\cs≠[]/\bv =.rsl g 0 cs.length 1/\h.H.get g=some (.typ (2*tE) cs)
variable {own:Nat->Prop}{tE:TypeId}{bv:AV}{og:Option Nat}{vv:Value}
theorem uV.row(N:aB own β h.H h.nx w){b:Nat}{cs:List AV}(U:uV h id tE bv cs og)(t:∃o,h.H.get id=some o)(hβ:β id=some (b,0))(q:VR w.heap (LL own β h.H) β bv vv):
  ∃bs:List Value,fc tE vv bs w/\bs.length=cs.length/\(∀(i:Nat) (c:AV) (u:Value),cs[i]?=some c->bs[i]?=some u->VR w.heap (LL own β h.H) β c u)/\vv.ownBlock≠some b/\
   ((og=none/\vv.ownBlock=none/\vv =.slice none 0 0)\/∃g d,og=some g/\β g=some (d,0)/\vv.ownBlock=some d/\¬own d):=by
 rcases U with⟨rfl,rfl,rfl⟩|⟨g,rfl,A,B,rfl,Q⟩
 ·cases q;exact⟨[],.inl ⟨rfl,rfl⟩,rfl,λi c u h1=>by simp at h1,by simp[Value.ownBlock],.inl ⟨rfl,rfl,rfl⟩⟩
 obtain⟨d,base,j,C,J⟩:=N.obj g _ Q;obtain⟨rfl,cur,q1,q2,q3⟩:=J;rw[Ka]at q1;have K:cs.length≠0:=λe=>B (fQ e)
 generalize S:cs.length=n at q;cases q with
 |gi=>exact absurd S K
 |rsl _ _ _ _ b2 M cap T e2 W g1 g2 g3 g4 g5=>
  rw[j]at g1;cases g1;rw[q1]at g2;cases g2;have hq:=q2.1;have a:(cur.toList.take n).length=n:=by rw[mv,tQ];omega
  refine⟨cur.toList.take n,.inr ⟨d,cap,cur,by rw[a],q1,by rw[a];exact g3,g4,by simpa using g5,by rw[a]⟩,by rw[a],λi c u h1 h2=>?_,?_,.inr ⟨g,d,rfl,j,rfl,C⟩⟩
  ·have hi:i<n:=by rw[<-S];exact(aL.1 h1).1
   rw[gN,Z hi]at h2;exact q3 i c u h1 (by simpa using h2)
  intro e;have:d=b:=by simpa[Value.ownBlock]using e
  subst this;obtain⟨o,V⟩:=t;exact A (N.inj g id _ o d 0 0 Q V j hβ)
variable {cargs:Array Value}
theorem Nv{a b:AV}(d:RL hp L β [a,b] cargs.toList):∃u v,cargs = #[u,v]/\VR hp L β a u/\VR hp L β b v:=by
 have i:=d.1;obtain⟨l⟩:=cargs;match l,i with
 |[u,v],_=>exact⟨u,v,rfl,d.2 0 a u rfl rfl,d.2 1 b v rfl rfl⟩
theorem VR.plain{a:AV}{v:Value}(h1:uw a=true)(h:VR hp L β a v):VR hp' L' β' a v:=R! h1 h
def K7(P:Program)(f:Nat)(tB tE:TypeId)(arg:Value)(s:ByteArray):Prop:=
 ∀(b:Nat) (p v:Value) (bs:List Value) (w:World),w.heap[b]?=some (.cells #[p,v] tB (0,0))->(p =.pointer none\/p =.pointer (some ⟨b,0,none⟩))->Bld tE b v bs w->bs.length+s.size<=140737488355328->
  Calls P f #[.pointer (some ⟨b,0,none⟩),arg] w λe w'=>e =.returned (.tuple #[.int .i64 s.size,.nilIface])/\
   ∃v',w'.heap[b]?=some (.cells #[.pointer (some ⟨b,0,none⟩),v'] tB (0,0))/\Bld tE b v' (bs++Lib.strCells s) w'/\(v'.ownBlock=v.ownBlock\/∃g,v'.ownBlock=some g/\w.heap.size<=g)/\
    w'.os=w.os/\w'.tape=w.tape/\w'.output=w.output/\w.heap.size<=w'.heap.size/\(∀k,k<w.heap.size->k≠b->some k≠v.ownBlock->w'.heap[k]?=w.heap[k]?)/\Shp w w'
variable {tB:TypeId}{xa p:AV}{arg:Value}{s:List UInt8}
theorem QK(bd:∀(hp:Array Obj) (L:Nat->Prop) (β:Bl) (u:Value),VR hp L β xa u->u=arg)(hw:K7 P f tB tE arg ⟨s.toArray⟩)(hf:Fex P f){cs:List AV}
  (hg:h.H.get id=some (.typ (2*tB+1) [p,bv])) (hp:p =.dh\/p =.ptr id 0) (hb:uV h id tE bv cs og) (bk:cs.all uw=true) (aT:s≠[]) (a1:cs.length+s.length<=140737488355328):
  ab P f [.ptr id 0,xa] h (.tup [.int .i64 s.length,.bR]) (mJ h id og tB tE cs s):=by
 refine⟨hf,λown β w cargs hs hR=>?_⟩;obtain⟨c0,c1,rfl,v0,v1⟩:=Nv hR;cases v0 with
 |ptr _ _ b base hβ=>
 have bp:=bd _ _ _ _ v1;subst bp;obtain⟨b',cb,hβ',bx,bY⟩:=hs.obj id _ hg;rw[hβ]at hβ';cases hβ';obtain⟨rfl,cur,q1,q2,q3⟩:=bY;rw[wA]at q1;have b0:cur.size=2:=q2.2 (by omega);obtain⟨pv,vv,rfl⟩:∃pv vv,cur = #[pv,vv]:=by
  obtain⟨l⟩:=cur;match l,b0 with
  |[x,y],_=>exact⟨x,y,rfl⟩
 have r0:=q3 0 p pv rfl rfl;have r1:=q3 1 bv vv rfl rfl;have hp':pv =.pointer none\/pv =.pointer (some ⟨b,0,none⟩):=by
  rcases hp with rfl|rfl
  ·cases r0;exact .inl rfl
  cases r0 with
  |ptr _ _ b2 cc h2=>rw[hβ]at h2;cases h2;exact .inr rfl
 obtain⟨bs,a6,U,b1,b3,aj⟩:=hb.row hs ⟨_,hg⟩ hβ r1;have b4:=hw b pv vv bs w q1 hp' ⟨a6,b3⟩ (by simpa[ByteArray.size,U]using a1);refine b4.mono ?_;rintro e w' ⟨rfl,v',k1,⟨kr,kn⟩,b5,b6,ar,a7,an,S,V⟩;have cn:0<s.length:=j5.2 aT;have av:(⟨s.toArray⟩:ByteArray).size=s.length:=by simp[ByteArray.size]
 rw[q!]at kr;rcases kr with⟨rfl,he⟩|⟨A,cap,ad,rfl,m1,m2,m3,m4,m5⟩
 ·simp at he;exact absurd he.2 aT
 have b7:(bs++s.map λc=>Value.int .u8 c.toNat).length=cs.length+s.length:=by simp[U]
 rw[b7]at m2 m5;have cf:A≠b:=λe=>kn (by rw[e];rfl)
 have ao:(∃g,og=some g/\β g=some (A,0)/\¬own A)\/w.heap.size<=A:=by
  rcases b5 with h1|⟨x,h1,h2⟩
  ·rcases aj with⟨_,a,_⟩|⟨g,gb,a,C,T,W⟩
   ·rw[a]at h1;simp[Value.ownBlock]at h1
   rw[T]at h1;have:A=gb:=by simpa[Value.ownBlock]using h1
   subst this;exact .inl ⟨g,a,C,W⟩
  have:A=x:=by simpa[Value.ownBlock]using h1
  subst this;exact .inr h2
 have a8:¬own A:=by
  rcases ao with⟨_,_,_,W⟩|W
  ·exact W
  intro ho;have:=hs.iU _ ho;omega
 have cd:id<h.nx:=by
  rcases nF id h.nx with k|k
  ·exact k
  rw[hs.fresh id k]at hβ;cases hβ
 have q:∀i,i≠h.nx->upd β h.nx A 0 i=β i:=λi hi=>gW _ _ _ hi
 have N:∀i x,β i=some x->upd β h.nx A 0 i=some x:=λi x K=>by
  rw[q i λe=>by rw[e,hs.fresh _ (ay _)]at K;cases K];exact K
 have Q:=ZV h id og tB tE cs s;have aw:∀x,live (upd β h.nx A 0) (mJ h id og tB tE cs s).H x->live β h.H x\/w.heap.size<=x:=by
  rintro x ⟨i,o,M,h1,h2⟩;rw[Q]at h1;by_cases hi:i=h.nx
  ·subst hi;rw[fL]at h2;cases h2;rcases ao with⟨g,a,C,_⟩|a
   ·rcases hb with⟨_,_,T⟩|⟨g2,T,_,_,_,W⟩
    ·rw[T]at a;cases a
    rw[T]at a;cases a;exact .inl ⟨_,_,0,W,C⟩
   exact .inr a
  rw[q i hi]at h2;rw[O hi]at h1;by_cases t:i=id
  ·subst t;exact .inl ⟨_,_,M,hg,h2⟩
  rw[O t]at h1;split at h1
  ·cases h1
  exact .inl ⟨i,o,M,h1,h2⟩
 have aS:∀x,x<w.heap.size->¬live β h.H x->w'.heap[x]?=w.heap[x]?:=by
  intro x K hl;refine S x K (λe=>hl ⟨id,_,0,hg,e▸hβ⟩) λe=>hl ?_
  rcases aj with⟨_,a,_⟩|⟨g,gb,a,C,T,W⟩
  ·rw[a]at e;cases e
  rw[T]at e;cases e;rcases hb with⟨_,_,B⟩|⟨g2,B,_,_,_,k6⟩
  ·rw[B]at a;cases a
  rw[B]at a;cases a;exact⟨_,_,0,k6,C⟩
 have hT:aX own β h w (upd β h.nx A 0) (mJ h id og tB tE cs s) w':=by
  refine⟨N,λi hi=>q i (by omega),by simp[mJ],an,aS,aw,λx cur e fz K=>?_,b6,ar,a7⟩;obtain⟨c,h1,h2⟩:=V x cur e fz K;exact⟨c,fz,h1,h2,λ_=>rfl⟩
 refine⟨_,_,_,upd β h.nx A 0,rfl,⟨rfl,rfl⟩,?_,?_,hT⟩
 ·refine⟨λi hi=>?_,λi x M hi=>?_,λx K=>gq (hs.iU x K) an,λi o hi=>?_,λi j o o' x y z h1 h2 a C=>?_⟩
  ·have:h.nx+1<=i:=hi;rw[q i (by omega)];exact hs.fresh i (by omega)
  ·by_cases d:i=h.nx
   ·subst d;rw[fL]at hi;cases hi;exact gR m1
   rw[q i d]at hi;exact gq (hs.lt i x M hi) an
  ·rw[Q]at hi;by_cases d:i=h.nx
   ·subst d;rw[Z rfl]at hi;cases hi;refine⟨A,0,fL _ _ _ _,a8,rfl,ad,by rw[Ka];exact m1,⟨by simp[fg];omega,λhh=>by omega⟩,λj c u h1 h2=>?_⟩;have hj:j<cs.length+s.length:=by
     have:=(aL.1 h1).1;simpa[fg]using this
    have a:(bs++s.map λc=>Value.int .u8 c.toNat)[j]?=some u:=by
     rw[<-m5,gN,Z hj];simpa using h2
    by_cases ca:j<cs.length
    ·rw[lF ca]at h1;rw[lF (by omega)]at a;exact(b1 j c u h1 a).plain (fi.1 bk c (cQ h1))
    rw[iZ (by omega)]at h1;rw[iZ (by omega),U]at a;unfold fg at h1;rw[cA,jy]at h1 a;obtain⟨x,K,rfl⟩:=h1;obtain⟨y,hy,rfl⟩:=a;rw[K]at hy;cases hy;exact .int _ _
   rw[O d]at hi;by_cases t:i=id
   ·subst t;rw[Z rfl]at hi;cases hi;refine⟨b,0,N _ _ hβ,bx,rfl,_,by rw[wA];exact k1,⟨by simp,λ_=>by simp⟩,λj c u h1 h2=>?_⟩;match j with
    |0=>simp at h1 h2;subst h1;subst h2;exact .ptr _ 0 b 0 (N _ _ hβ)
    |1=>
     simp at h1 h2;subst h1;subst h2;rw[U];exact .rsl h.nx 0 (cs.length+s.length) 1 A 0 cap ad tE (0,0) (fL _ _ _ _) m1 m2 m3 (by omega)
    |j+2=>simp at h1
   rw[O t]at hi;split at hi
   ·cases hi
   rename_i bb;obtain⟨x,M,p1,p2,p3⟩:=hs.obj i o hi;refine⟨x,M,N _ _ p1,p2,p3.later hT.later (S x (hs.lt i x M p1) (λe=>?_) λe=>?_)⟩
   ·subst e;exact t (hs.inj i id o _ x M 0 hi hg p1 hβ)
   rcases aj with⟨_,a,_⟩|⟨g,gb,a,C,T,W⟩
   ·rw[a]at e;cases e
   rw[T]at e;cases e;rcases hb with⟨_,_,B⟩|⟨g2,B,_,_,_,k6⟩
   ·rw[B]at a;cases a
   rw[B]at a;cases a;exact bb (by rw[B,hs.inj i _ o _ x M 0 hi k6 p1 C])
  have hold:∀i o,(mJ h id og tB tE cs s).H.get i=some o->i≠h.nx->(∃o0,h.H.get i=some o0)/\og≠some i:=by
   intro i o hi d;rw[Q,O d]at hi;by_cases t:i=id
   ·subst t;refine⟨⟨_,hg⟩,λe=>?_⟩;rcases hb with⟨_,_,B⟩|⟨g2,B,k7,_⟩
    ·rw[B]at e;cases e
    rw[B]at e;cases e;exact k7 rfl
   rw[O t]at hi;split at hi
   ·cases hi
   exact⟨⟨o,hi⟩,by assumption⟩
  have af:∀i o M,(mJ h id og tB tE cs s).H.get i=some o->i≠h.nx->β i=some (A,M)->False:=by
   intro i o M hi d K;obtain⟨⟨o0,k1⟩,k2⟩:=hold i o hi d;rcases ao with⟨g,a,C,_⟩|a
   ·rcases hb with⟨_,_,B⟩|⟨g2,B,_,_,_,k6⟩
    ·rw[B]at a;cases a
    rw[B]at a;cases a;exact k2 (by rw[B,hs.inj i _ o0 _ A M 0 k1 k6 K C])
   have:=hs.lt i A M K;omega
  by_cases d:i=h.nx
  ·by_cases J:j=h.nx
   ·rw[d,J]
   subst d;rw[fL]at a;cases a;rw[q j J]at C;exact(af j o' _ h2 J C).elim
  by_cases J:j=h.nx
  ·subst J;rw[fL]at C;cases C;rw[q i d]at a;exact(af i o _ h1 d a).elim
  rw[q i d]at a;rw[q j J]at C;obtain⟨⟨o1,k1⟩,_⟩:=hold i o h1 d;obtain⟨⟨o2,k2⟩,_⟩:=hold j o' h2 J;exact hs.inj i j o1 o2 x y z k1 k2 a C
 rw[av];refine .tup _ _ rfl λi c v hc hv=>?_
 match i with
 |0=>simp at hc hv;subst hc;subst hv;exact .int _ _
 |1=>simp at hc hv;subst hc;subst hv;exact .bR
 |i+2=>simp at hc
def aaA(P:Program)(f:Nat)(tB tE:TypeId):Prop:=
 ∀(b g cap:Nat) (p:Value) (cur:Array Value) (l:List UInt8) (w:World),w.heap[b]?=some (.cells #[p,.slice (some ⟨g,0,none⟩) l.length cap] tB (0,0))->w.heap[g]?=some (.cells cur tE (0,0))->
  l≠[]->l.length<=cap->cap<=maxLen->cap<=cur.size->cur.toList.take l.length=(l.map λc=>Value.int .u8 c.toNat)->
  Calls P f #[.pointer (some ⟨b,0,none⟩)] w λe w'=>e =.returned (.string ⟨l.toArray⟩)/\w'=w.drew.freeze ⟨g,0,none⟩ l.length
theorem ack(q:SL P f tB tE)(t:Fex P f){cs:List AV}
  (A:h.H.get id=some (.typ (2*tB+1) [p,bv])) (hp:p =.dh\/p =.ptr id 0) (B:uV h id tE bv cs og) (i:cs.all uw=true) (j:s≠[]) (a:cs.length+s.length<=140737488355328):
  ab P f [.ptr id 0,.str s] h (.tup [.int .i64 s.length,.bR]) (mJ h id og tB tE cs s):=by
 refine QK (arg:=.string ⟨s.toArray⟩) (λ_ _ _ u hu=>by cases hu;rfl) (λb p v bs w h1 h2 d C=>(q b p v bs ⟨s.toArray⟩ w h1 h2 d C).mono ?_) t A hp B i j a;rintro e w' ⟨h1,J,h2,d,_,K⟩;exact⟨h1,J,h2,d,K⟩
theorem rR{a:AV}(d:RL hp L β [a] cargs.toList):∃u,cargs = #[u]/\VR hp L β a u:=by
 have i:=d.1;obtain⟨l⟩:=cargs;match l,i with
 |[u],_=>exact⟨u,rfl,d.2 0 a u rfl rfl⟩
theorem r?(w:World)(g n:Nat)(x:Nat)(a:x≠g):(w.drew.freeze ⟨g,0,none⟩ n).heap[x]?=w.heap[x]?:=by
 unfold World.freeze;split
 ·rfl
 show(Array.modify _ _ _)[x]?=_
 rw[tM,O (λe=>a e.symm)];rfl
variable {l:List UInt8}
theorem abw(hw:aaA P f tB tE)(hf:Fex P f){g:Nat}
  (hg:h.H.get id=some (.typ (2*tB+1) [p,.rsl g 0 l.length 1])) (q:h.H.get g=some (.typ (2*tE) (fg l))) (ad:g≠id) (h0:l≠[]):
  ab P f [.ptr id 0] h (.str l) ((h.kill g).kill id):=by
 refine⟨hf,λown β w cargs hs hR=>?_⟩;obtain⟨c0,rfl,v0⟩:=rR hR;cases v0 with
 |ptr _ _ b base hβ=>
 obtain⟨b',ao,hβ',a6,af⟩:=hs.obj id _ hg;rw[hβ]at hβ';cases hβ';obtain⟨rfl,cur,q1,q2,q3⟩:=af;rw[wA]at q1;have aj:cur.size=2:=q2.2 (by omega);obtain⟨U,vv,rfl⟩:∃U vv,cur = #[U,vv]:=by
  obtain⟨l⟩:=cur;match l,aj with
  |[x,y],_=>exact⟨x,y,rfl⟩
 have r1:=q3 1 _ vv rfl rfl;obtain⟨C,ar,t,aS,S⟩:=hs.obj g _ q;obtain⟨rfl,a,p1,p2,p3⟩:=S;rw[Ka]at p1;have aT:C≠b:=λe=>ad (hs.inj g id _ _ C 0 0 q hg t (e▸hβ))
 have N:l.length≠0:=λe=>h0 (fQ e)
 have av:(fg l).length=l.length:=by simp[fg]
 generalize hn:l.length=n at r1;cases r1 with
 |gi=>exact absurd hn N
 |rsl _ _ _ _ b2 aw cap a1 e2 a7 g1 g2 g3 g4 g5=>
 rw[t]at g1;cases g1;rw[p1]at g2;cases g2;subst hn;have hq:=p2.1;have ht:a.toList.take l.length=l.map λc=>Value.int .u8 c.toNat:=by
  apply zO;intro j;by_cases V:j<l.length
  ·rw[gN,Z V,cA,bF V];have an:j<a.size:=by omega
   have h1:(fg l)[j]?=some (.int .u8 (l[j]).toNat):=by simp[fg,cA,bF V]
   have h2:a[j]?=some a[j]:=rk an;have J:=p3 j _ _ h1 h2;have W:a[j] =.int .u8 (l[j]).toNat:=by
    generalize a[j]=z at J;cases J;rfl
   rw[Array.getElem?_toList,h2,W];rfl
  rw[j_ (by rw[mv];omega),j_ (by simp;omega)]
 refine(hw b C cap U a l w q1 p1 h0 g3 g4 (by simpa using g5) ht).mono ?_;rintro e w' ⟨rfl,rfl⟩;have hk:=r? w C l.length;have T:∀i,((h.kill g).kill id).H.get i=if i=id then none else if i=g then none else h.H.get i:=λi=>by rw[my,my]
 have d:∀i o,((h.kill g).kill id).H.get i=some o->h.H.get i=some o/\i≠id/\i≠g:=λi o hi=>by
  rw[T]at hi;split at hi
  ·cases hi
  split at hi
  ·cases hi
  exact⟨hi,by assumption,by assumption⟩
 have A:∀x,live β ((h.kill g).kill id).H x->live β h.H x/\x≠C:=by
  rintro x ⟨i,o,K,h1,h2⟩;obtain⟨J,_,W⟩:=d i o h1;exact⟨⟨i,o,K,J,h2⟩,λe=>W (hs.inj i g o _ x K 0 J q h2 (e▸t))⟩
 have B:(w.drew.freeze ⟨C,0,none⟩ l.length).heap.size=w.heap.size:=by
  unfold World.freeze;split
  ·rfl
  show(Array.modify _ _ _).size=_
  rw[Array.size_modify];rfl
 have hT:aX own β h w β ((h.kill g).kill id) (w.drew.freeze ⟨C,0,none⟩ l.length):=by
  refine⟨λ_ _ h=>h,λ_ _=>rfl,ay _,by omega,λx _ hl=>hk x λe=>hl ⟨g,_,0,q,e▸t⟩,λx M=>.inl (A x M).1,λx cur e fz M=>?_,?_,?_,?_⟩
  ·by_cases Q:x=C
   ·subst Q;rw[p1]at M;cases M;refine⟨a,(0,0+l.length),?_,rfl,λhl=>absurd rfl (A _ hl).2⟩;unfold World.freeze;rw[O N];show(Array.modify _ _ _)[x]?=_
    rw[tM,Z rfl];show Option.map _ (w.heap[x]?)=_
    rw[p1];rfl
   exact⟨cur,fz,by rw[hk x Q];exact M,rfl,λ_=>rfl⟩
  all_goals (unfold World.freeze;split<;>rfl)
 refine⟨_,_,_,β,rfl,⟨rfl,rfl⟩,⟨hs.fresh,λi x K hi=>by rw[B];exact hs.lt i x K hi,λx M=>by rw[B];exact hs.iU x M,λi o hi=>?_,λi j o o' x y z h1 h2=>hs.inj i j o o' x y z (d i o h1).1 (d j o' h2).1⟩,.str l,hT⟩;obtain⟨h1,h2,J⟩:=d i o hi;obtain⟨x,K,k1,k2,k3⟩:=hs.obj i o h1;exact⟨x,K,k1,k2,k3.later hT.later (hk x λe=>J (hs.inj i g o _ x K 0 h1 q k1 (e▸t)))⟩
end Go.Eng
end
noncomputable section
namespace Go.Proofs.YtndpneieplopaaaGreatDoor
open Go.Eng Tryz
abbrev Ap(z n:Nat):=o2 (λa b h=>fy h z n a b)
abbrev ApE(z n:Nat):=pe (λa b h=>fy h z n a b)
abbrev Ar(o:BinOp):=o2 (λa b h=>aG h o a b)
abbrev ArG(d:Bool)(g:AV)(o:BinOp):=q2 d g (λa b h=>aG h o a b)
abbrev ArY(o:BinOp):=p2 (λa b h=>aG h o a b)
abbrev Bd(z:LA)(p:List (Nat×Nat×AV)):=o0 (λh=>l9 h z p)
abbrev BdG(a:Bool)(g:AV)(z:LA)(p:List (Nat×Nat×AV)):=q0 a g (λh=>l9 h z p)
abbrev BdY(z:LA)(p:List (Nat×Nat×AV)):=p0 (λh=>l9 h z p)
abbrev Bs(z n:Nat)(l:LA)(p:List (Nat×Nat×AV)):=o0 (λh=>o8 h z n l p)
abbrev Bx:=o1 (λa h=>cL h a)
abbrev Cv(t:IntKind):=o1 (λa h=>lg h t a)
abbrev CvG(d:Bool)(g:AV)(t:IntKind):=q1 d g (λa h=>lg h t a)
abbrev CvY(t:IntKind):=p1 (λa h=>lg h t a)
abbrev EfG(d:Bool)(g:AV)(t:Bool)(l:_):=q2 d g (λa b h=>nu h t l a b)
abbrev EfY(t:Bool)(l:_):=p2 (λa b h=>nu h t l a b)
abbrev En(t:_)(u:Bool):=o2 (λa b h=>lx h t u a b)
abbrev EsG(d:Bool)(g:AV)(t:Bool):=q2 d g (λa b h=>oK h t a b)
abbrev Ex(n:Nat):=o1 (λa h=>ml h a n)
abbrev ExY(n:Nat):=p1 (λa h=>ml h a n)
abbrev Fa(n:Nat):=o1 (λa h=>gZ h n a)
abbrev FaG(d:Bool)(g:AV)(n:Nat):=q1 d g (λa h=>gZ h n a)
abbrev FaY(n:Nat):=p1 (λa h=>gZ h n a)
abbrev Ir(n z:Nat):=o2 (λa b h=>gv h n z a b)
abbrev IrY(n z:Nat):=p2 (λa b h=>gv h n z a b)
abbrev Is:=o2 (λa b h=>jl h a b)
abbrev IsG(d:Bool)(g:AV):=q2 d g (λa b h=>jl h a b)
abbrev IsY:=p2 (λa b h=>jl h a b)
abbrev Ix(z:Nat):=o2 (λa b h=>aC h z a b)
abbrev IxG(d:Bool)(g:AV)(z:Nat):=q2 d g (λa b h=>aC h z a b)
abbrev IxY(z:Nat):=p2 (λa b h=>aC h z a b)
abbrev Ld:=o1 (λa h=>jw h a)
abbrev LdG(d:Bool)(g:AV):=q1 d g (λa h=>jw h a)
abbrev LdY:=p1r (λa h=>jw h a)
abbrev Le:=o1 (λa h=>bn h a)
abbrev LeG(d:Bool)(g:AV):=q1 d g (λa h=>bn h a)
abbrev LeY:=p1 (λa h=>bn h a)
abbrev Ln(n:Nat):=o1 (λa h=>gh h n a)
abbrev LnG(d:Bool)(g:AV)(n:Nat):=q1 d g (λa h=>gh h n a)
abbrev LnY(n:Nat):=p1r (λa h=>gh h n a)
abbrev Ls:=o1 (λa h=>mO h a)
abbrev LsG(d:Bool)(g:AV):=q1 d g (λa h=>mO h a)
abbrev LsY:=p1 (λa h=>mO h a)
abbrev Mk(z n:Nat)(l:LA)(a b:AV):=o0 (λh=>kz h z n l a b)
abbrev Mm(t:Bool):=o2 (λa b h=>jk h t a b)
abbrev MvY:=p1 (λa h=>nq h a)
abbrev Nc:=o1 (λa h=>k_ h a)
abbrev NcG(d:Bool)(g:AV):=q1 d g (λa h=>k_ h a)
abbrev NcY:=p1 (λa h=>k_ h a)
abbrev Nw(z:LA):=o0 (λh=>pJ h z)
abbrev Pk:=o3 (λa b c h=>mb h a b c)
abbrev PkG(d:Bool)(g:AV):=q3 d g (λa b c h=>mb h a b c)
abbrev PkY:=p3 (λa b c h=>mb h a b c)
abbrev Sli(z:Nat)(x y w:Option AV):=o1 (λa h=>kSl h z a x y w)
abbrev vf(z:Nat)(x y w:Option AV):=p1 (λa h=>kSl h z a x y w)
abbrev Ss(x y:Option AV):=o1 (λa h=>iD h a x y)
abbrev SsG(d:Bool)(g:AV)(x y:Option AV):=q1 d g (λa h=>iD h a x y)
abbrev SsY(x y:Option AV):=p1 (λa h=>iD h a x y)
abbrev St(n:Nat):=o2 (λa b h=>kSt h n a b)
abbrev StE(n:Nat):=pe (λa b h=>kSt h n a b)
abbrev Un(o:UnOp):=o1 (λa h=>kUn h o a)
abbrev UnG(d:Bool)(g:AV)(o:UnOp):=q1 d g (λa h=>kUn h o a)
abbrev UnY(o:UnOp):=p1 (λa h=>kUn h o a)
def z37:LA:=[I 0,I 0,I 0,I 0,I 0,I 0,I 0,I 0,I 0,I 0,I 0,I 0,.bool false,.bool false,I 0,.D,I 0,I 0,I 0,I 0,I 0,.str [],I 0,.D,.D,.D,I 0,I 0,.bool false,I 0,I 0,I 0,I 0,I 0,I 0,.D,I 0]
@[simp] theorem ali:z37=[I 0,I 0,I 0,I 0,I 0,I 0,I 0,I 0,I 0,I 0,I 0,I 0,.bool false,.bool false,I 0,.D,I 0,I 0,I 0,I 0,I 0,.str [],I 0,.D,.D,.D,I 0,I 0,.bool false,I 0,I 0,I 0,I 0,I 0,I 0,.D,I 0]:=ag rfl rfl
def Yx:LA:=List.replicate 256 (.int .u8 0)
def tw:LA:=List.replicate 257 .D
abbrev Ca:=cC prog
abbrev Cw:=cW prog
abbrev Cg:=cG prog
abbrev CaY:=cY prog
abbrev CgY:=cYg prog
def nJ1{α:Type}(f:AV->AH->α->Prop)(k:α)(a:LA)(h:AH):Prop:=(λ_:Prop=>f (aa a 0) h k) hiK
variable {α:Type}
@[simp ↓] theorem akE(f:AV->AH->α->Prop)(k:α)(a:LA)(h:AH):nJ1 f k a h=f (aa a 0) h k:=ag rfl rfl
def nJ2{α:Type}(f:AV->AV->AH->α->Prop)(k:α)(a:LA)(h:AH):Prop:=(λ_:Prop=>f (aa a 0) (aa a 1) h k) hiK
@[simp ↓] theorem alH(f:AV->AV->AH->α->Prop)(k:α)(a:LA)(h:AH):nJ2 f k a h=f (aa a 0) (aa a 1) h k:=ag rfl rfl
def nJ3{α:Type}(f:AV->AV->AV->AH->α->Prop)(k:α)(a:LA)(h:AH):Prop:=(λ_:Prop=>f (aa a 0) (aa a 1) (aa a 2) h k) hiK
@[simp ↓] theorem alS(f:AV->AV->AV->AH->α->Prop)(k:α)(a:LA)(h:AH):nJ3 f k a h=f (aa a 0) (aa a 1) (aa a 2) h k:=ag rfl rfl
def nJ4{α:Type}(f:AV->AV->AV->AV->AH->α->Prop)(k:α)(a:LA)(h:AH):Prop:=(λ_:Prop=>f (aa a 0) (aa a 1) (aa a 2) (aa a 3) h k) hiK
@[simp ↓] theorem alN(f:AV->AV->AV->AV->AH->α->Prop)(k:α)(a:LA)(h:AH):nJ4 f k a h=f (aa a 0) (aa a 1) (aa a 2) (aa a 3) h k:=ag rfl rfl
def nJ5{α:Type}(f:AV->AV->AV->AV->AV->AH->α->Prop)(k:α)(a:LA)(h:AH):Prop:=(λ_:Prop=>f (aa a 0) (aa a 1) (aa a 2) (aa a 3) (aa a 4) h k) hiK
@[simp ↓] theorem ak6(f:AV->AV->AV->AV->AV->AH->α->Prop)(k:α)(a:LA)(h:AH):nJ5 f k a h=f (aa a 0) (aa a 1) (aa a 2) (aa a 3) (aa a 4) h k:=ag rfl rfl
def nJ6{α:Type}(f:AV->AV->AV->AV->AV->AV->AH->α->Prop)(k:α)(a:LA)(h:AH):Prop:=(λ_:Prop=>f (aa a 0) (aa a 1) (aa a 2) (aa a 3) (aa a 4) (aa a 5) h k) hiK
@[simp ↓] theorem alx(f:AV->AV->AV->AV->AV->AV->AH->α->Prop)(k:α)(a:LA)(h:AH):nJ6 f k a h=f (aa a 0) (aa a 1) (aa a 2) (aa a 3) (aa a 4) (aa a 5) h k:=ag rfl rfl
def nJ7{α:Type}(f:AV->AV->AV->AV->AV->AV->AV->AH->α->Prop)(k:α)(a:LA)(h:AH):Prop:=(λ_:Prop=>f (aa a 0) (aa a 1) (aa a 2) (aa a 3) (aa a 4) (aa a 5) (aa a 6) h k) hiK
@[simp ↓] theorem akR(f:AV->AV->AV->AV->AV->AV->AV->AH->α->Prop)(k:α)(a:LA)(h:AH):nJ7 f k a h=f (aa a 0) (aa a 1) (aa a 2) (aa a 3) (aa a 4) (aa a 5) (aa a 6) h k:=ag rfl rfl
def nL1(f:AV->AH->KT->Prop)(a:LA)(h:AH)(k:KT):Prop:=(λ_:Prop=>f (aa a 0) h k) hiK
@[simp ↓] theorem ak2(f:AV->AH->KT->Prop)(a:LA)(h:AH)(k:KT):nL1 f a h k=f (aa a 0) h k:=ag rfl rfl
def nL2(f:AV->AV->AH->KT->Prop)(a:LA)(h:AH)(k:KT):Prop:=(λ_:Prop=>f (aa a 0) (aa a 1) h k) hiK
@[simp ↓] theorem alR(f:AV->AV->AH->KT->Prop)(a:LA)(h:AH)(k:KT):nL2 f a h k=f (aa a 0) (aa a 1) h k:=ag rfl rfl
def nL3(f:AV->AV->AV->AH->KT->Prop)(a:LA)(h:AH)(k:KT):Prop:=(λ_:Prop=>f (aa a 0) (aa a 1) (aa a 2) h k) hiK
@[simp ↓] theorem alM(f:AV->AV->AV->AH->KT->Prop)(a:LA)(h:AH)(k:KT):nL3 f a h k=f (aa a 0) (aa a 1) (aa a 2) h k:=ag rfl rfl
def nL4(f:AV->AV->AV->AV->AH->KT->Prop)(a:LA)(h:AH)(k:KT):Prop:=(λ_:Prop=>f (aa a 0) (aa a 1) (aa a 2) (aa a 3) h k) hiK
@[simp ↓] theorem ak3(f:AV->AV->AV->AV->AH->KT->Prop)(a:LA)(h:AH)(k:KT):nL4 f a h k=f (aa a 0) (aa a 1) (aa a 2) (aa a 3) h k:=ag rfl rfl
def nL5(f:AV->AV->AV->AV->AV->AH->KT->Prop)(a:LA)(h:AH)(k:KT):Prop:=(λ_:Prop=>f (aa a 0) (aa a 1) (aa a 2) (aa a 3) (aa a 4) h k) hiK
@[simp ↓] theorem alb(f:AV->AV->AV->AV->AV->AH->KT->Prop)(a:LA)(h:AH)(k:KT):nL5 f a h k=f (aa a 0) (aa a 1) (aa a 2) (aa a 3) (aa a 4) h k:=ag rfl rfl
def nL6(f:AV->AV->AV->AV->AV->AV->AH->KT->Prop)(a:LA)(h:AH)(k:KT):Prop:=(λ_:Prop=>f (aa a 0) (aa a 1) (aa a 2) (aa a 3) (aa a 4) (aa a 5) h k) hiK
@[simp ↓] theorem ale(f:AV->AV->AV->AV->AV->AV->AH->KT->Prop)(a:LA)(h:AH)(k:KT):nL6 f a h k=f (aa a 0) (aa a 1) (aa a 2) (aa a 3) (aa a 4) (aa a 5) h k:=ag rfl rfl
def nL7(f:AV->AV->AV->AV->AV->AV->AV->AH->KT->Prop)(a:LA)(h:AH)(k:KT):Prop:=(λ_:Prop=>f (aa a 0) (aa a 1) (aa a 2) (aa a 3) (aa a 4) (aa a 5) (aa a 6) h k) hiK
@[simp ↓] theorem akY(f:AV->AV->AV->AV->AV->AV->AV->AH->KT->Prop)(a:LA)(h:AH)(k:KT):nL7 f a h k=f (aa a 0) (aa a 1) (aa a 2) (aa a 3) (aa a 4) (aa a 5) (aa a 6) h k:=ag rfl rfl
def nX1{α:Type}(f:AX->AV->AH->α->Prop)(k:α)(x:AX)(a:LA)(h:AH):Prop:=(λ_:Prop=>f x (aa a 0) h k) hiK
@[simp ↓] theorem ak4(f:AX->AV->AH->α->Prop)(k:α)(x:AX)(a:LA)(h:AH):nX1 f k x a h=f x (aa a 0) h k:=ag rfl rfl
def nX2{α:Type}(f:AX->AV->AV->AH->α->Prop)(k:α)(x:AX)(a:LA)(h:AH):Prop:=(λ_:Prop=>f x (aa a 0) (aa a 1) h k) hiK
@[simp ↓] theorem alw(f:AX->AV->AV->AH->α->Prop)(k:α)(x:AX)(a:LA)(h:AH):nX2 f k x a h=f x (aa a 0) (aa a 1) h k:=ag rfl rfl
def nX3{α:Type}(f:AX->AV->AV->AV->AH->α->Prop)(k:α)(x:AX)(a:LA)(h:AH):Prop:=(λ_:Prop=>f x (aa a 0) (aa a 1) (aa a 2) h k) hiK
@[simp ↓] theorem alP(f:AX->AV->AV->AV->AH->α->Prop)(k:α)(x:AX)(a:LA)(h:AH):nX3 f k x a h=f x (aa a 0) (aa a 1) (aa a 2) h k:=ag rfl rfl
def nX4{α:Type}(f:AX->AV->AV->AV->AV->AH->α->Prop)(k:α)(x:AX)(a:LA)(h:AH):Prop:=(λ_:Prop=>f x (aa a 0) (aa a 1) (aa a 2) (aa a 3) h k) hiK
@[simp ↓] theorem alg(f:AX->AV->AV->AV->AV->AH->α->Prop)(k:α)(x:AX)(a:LA)(h:AH):nX4 f k x a h=f x (aa a 0) (aa a 1) (aa a 2) (aa a 3) h k:=ag rfl rfl
def nX5{α:Type}(f:AX->AV->AV->AV->AV->AV->AH->α->Prop)(k:α)(x:AX)(a:LA)(h:AH):Prop:=(λ_:Prop=>f x (aa a 0) (aa a 1) (aa a 2) (aa a 3) (aa a 4) h k) hiK
@[simp ↓] theorem ak0(f:AX->AV->AV->AV->AV->AV->AH->α->Prop)(k:α)(x:AX)(a:LA)(h:AH):nX5 f k x a h=f x (aa a 0) (aa a 1) (aa a 2) (aa a 3) (aa a 4) h k:=ag rfl rfl
def nX6{α:Type}(f:AX->AV->AV->AV->AV->AV->AV->AH->α->Prop)(k:α)(x:AX)(a:LA)(h:AH):Prop:=(λ_:Prop=>f x (aa a 0) (aa a 1) (aa a 2) (aa a 3) (aa a 4) (aa a 5) h k) hiK
@[simp ↓] theorem alc(f:AX->AV->AV->AV->AV->AV->AV->AH->α->Prop)(k:α)(x:AX)(a:LA)(h:AH):nX6 f k x a h=f x (aa a 0) (aa a 1) (aa a 2) (aa a 3) (aa a 4) (aa a 5) h k:=ag rfl rfl
def nX9{α:Type}(f:AX->AV->AV->AV->AV->AV->AV->AV->AV->AV->AH->α->Prop)(k:α)(x:AX)(a:LA)(h:AH):Prop:=(λ_:Prop=>f x (aa a 0) (aa a 1) (aa a 2) (aa a 3) (aa a 4) (aa a 5) (aa a 6) (aa a 7) (aa a 8) h k) hiK
@[simp ↓] theorem alQ(f:AX->AV->AV->AV->AV->AV->AV->AV->AV->AV->AH->α->Prop)(k:α)(x:AX)(a:LA)(h:AH):nX9 f k x a h=f x (aa a 0) (aa a 1) (aa a 2) (aa a 3) (aa a 4) (aa a 5) (aa a 6) (aa a 7) (aa a 8) h k:=ag rfl rfl
