/- The reference's examination of values. -/
import Derived.Test.YtndpneieplopaaaGreatDoorStRc
set_option linter.unusedSimpArgs false
set_option linter.unusedVariables false
noncomputable section
namespace Go.Proofs.YtndpneieplopaaaGreatDoor
open Go.Eng Go.St Tryz
def tC:Ty->List AV
 |.s k=>[I k,.psl []]
 |.l t=>[I 4,.psl [tC t]]
def tyK:Ty->Int
 |.s k=>k
 |.l _=>4
def tyO:Ty->List (LA)
 |.s _=>[]
 |.l t=>[tC t]
theorem cp(t:Ty):tC t=[I (tyK t),.psl (tyO t)]:=by cases t<;>simp[tC,tyK,tyO]
theorem qn(t:Ty):(tC t).length=2:=by rw[cp];rfl
theorem kC:∀(t:Ty) (H:AH),ea H false (tC t) (tC t)
 |.s k,H=>by
  rw[bK];refine⟨rfl,λi a b ha hb=>?_⟩;rw[ha]at hb;cases hb;match i with
  |0=>simp[tC]at ha;subst ha;exact .int _ _
  |1=>simp[tC]at ha;subst ha;exact .psl rfl _ _ rfl (λi x y hx _=>by simp at hx) λi x y j c d hx=>by simp at hx
  |i+2=>simp[tC]at ha
 |.l t,H=>by
  rw[bK];refine⟨rfl,λi a b ha hb=>?_⟩;rw[ha]at hb;cases hb;match i with
  |0=>simp[tC]at ha;subst ha;exact .int _ _
  |1=>
   simp[tC]at ha;subst ha;refine .psl rfl _ _ rfl (λi x y hx hy=>by rw[hx]at hy;cases hy;rfl) λi x y j c d hx hy hc hd=>?_
   match i with
   |0=>
    simp at hx hy;subst hx;subst hy;rw[hc]at hd;cases hd;exact((bK _ _ _ _).1 (kC t H)).2 j c c hc hc
   |i+1=>simp at hx
  |i+2=>simp[tC]at ha
theorem LH(t:Ty)(H:AH):Frz H false (.agg (tC t)) (.agg (tC t)):=.agg _ _ rfl ((bK _ _ _ _).1 (kC t H)).2
theorem lg(H:AH):Frz H false (.agg [I 0,.aa]) (.agg (tC (.s 0))):=by
 refine .agg _ _ rfl λi c d hc hd=>?_
 match i with
 |0=>simp[tC]at hc hd;subst hc;subst hd;exact .int _ _
 |1=>simp[tC]at hc hd;subst hc;subst hd;exact .aa
 |i+2=>simp at hc
theorem IH{h':AH}{n k:Nat}{t:Ty}{y:Int}(hy:y=4)(hc:h'.ab k=some (tC t))(hn:n<=k):Frz (fresh h' n) false (.agg [I y,.rsl k 0 1 2]) (.agg (tC (.l t))):=by
 subst hy;refine .agg _ _ rfl λi c d hc1 hd=>?_
 match i with
 |0=>simp[tC]at hc1 hd;subst hc1;subst hd;exact .int _ _
 |1=>
  simp[tC]at hc1 hd;subst hc1;subst hd;exact Bi (qn t) hc hn λH j a ha=>((bK _ _ _ _).1 (kC t H)).2 j a a ha ha
 |i+2=>simp at hc1
theorem agL{H:AH}{x y:LA}(h:Frz H false (.agg x) (.agg y)):ea H false x y:=by
 rw[bK];cases h with
 |agg _ _ hl hc=>exact⟨hl,hc⟩
theorem gP{H:AH}{x y a b:AV}(h1:Frz H false x a)(h2:Frz H false y b):Frz H false (.tup [x,y]) (.tup [a,b]):=by
 refine .tup _ _ rfl λi c d hc hd=>?_
 match i with
 |0=>simp at hc hd;subst hc;subst hd;exact h1
 |1=>simp at hc hd;subst hc;subst hd;exact h2
 |i+2=>simp at hc
def cN(a b:Ty):AV:=.tup [.agg (tC ((di a b).getD (.s 0))),.bool (di a b).isSome]
def BU(a:Ty):Prop:=∀(h:AH) (b:Ty),aK prog 141 [.agg (tC a),.agg (tC b)] h (cN a b) h
def eJ(a:Ty)(hk:BU a):QE prog:=
 ⟨141,λargs h Q=>∃b,args=[.agg (tC a),.agg (tC b)]/\Q (cN a b) h,λargs h Q ⟨b,h1,h2⟩=>by
  subst h1;exact⟨_,_,hk h b,h2⟩⟩
theorem ahZ{a:Ty}{hk:BU a}{tl h}{b:Ty}{Q:QT}(hq:Q (cN a b) h):tb (eJ a hk::tl) 141 [.agg (tC a),.agg (tC b)] h Q:=by
 rw[dJ _ tl 141 _ _ _ rfl];exact⟨b,rfl,hq⟩
structure J3(h h':AH)(a b r:LA):Prop where
 a:h'.ab h.nx=some a
 b:h'.ab (h.nx+1)=some b
 r:h'.ab (h.nx+1+1)=some r
 nx:h.nx+3<=h'.nx
 get:∀i,i<h.nx->h'.H.get i=h.H.get i
theorem J3.start(h:AH)(a b r:LA):J3 h (((h.add (.cells a)).add (.cells b)).add (.cells r)) a b r:=by
 refine⟨?_,?_,?_,by simp,λi hi=>?_⟩
 ·rw[aC _ _ _ (by simp;omega),aC _ _ _ (by simp)];exact aj _ _ _ rfl
 ·rw[aC _ _ _ (by simp)];exact aj _ _ _ rfl
 ·exact aj _ _ _ rfl
 ·rw[az,amU (by simp;omega),az,amU (by simp;omega),az,amU (by omega)]
theorem yK{a:Ty}{es:List (QE prog)}(mj:∀t,a =.l t->∃hk,es=[eJ t hk]):BU a:=by
 intro h b;refine aZ (R:=λv h'=>Frz (fresh h' h.nx) false v (cN a b)/\h.nx<=h'.nx/\∀i,i<h.nx->h'.H.get i=h.H.get i) (aio (aW es) ?_) λv' h' h1=>h1
 have hJ:=J3.start h [I (tyK a),.psl (tyO a)] [I (tyK b),.psl (tyO b)] [I 0,.aa];rw[cp a,cp b];have ne1:¬h.nx=h.nx+1+1:=by omega
 have hn:=hJ.nx;have hg:=hJ.get;have e2:h.nx+1+1=h.nx+2:=rfl;by_cases hk:tyK a=tyK b
 ·simp[Y2,ne1,hk];rw[hk]at hJ hn hg;generalize((h.add (.cells [I (tyK b),.psl (tyO a)])).add (.cells [I (tyK b),.psl (tyO b)])).add (.cells [I 0,.aa])=h1 at*;have ha:=hJ.a;have hb:=hJ.b;have hr:=hJ.r;have hgs:∀(o:dx) (i:Nat),i<h.nx->(h1.set (h.nx+1+1) o).H.get i=h.H.get i:=λo i hi=>by rw[au,amU (by omega)];exact hg i hi
  cases a with
  |s x=>
   have hx:x=tyK b:=hk;have eR:cN (.s x) b =.tup [.agg (tC b),.bool true]:=by
    unfold cN;cases b with
    |s y=>have:x=y:=hx;simp[di,this]
    |l y=>have:x=4:=hx;simp[di,this]
   rw[eR];have o1:tyO (.s x)=[]:=rfl;rw[o1]at ha;simp[uH,ha,hb,hr];refine⟨?_,by omega,hgs _⟩;rw[<-cp];exact kC _ _
  |l x=>
   have hx:4=tyK b:=hk;rw[<-hx]at ha hb;have o0:tyO (.l x)=[tC x]:=rfl;rw[o0]at ha;cases b with
   |s y=>
    have eR:cN (.l x) (.s y) =.tup [.agg (tC (.l x)),.bool true]:=by
     unfold cN;have:y=4:=hx.symm;simp[di,this]
    rw[eR];have o1:tyO (.s y)=[]:=rfl;rw[o1]at hb;simp[uH,ha,hb,hr];simp[Ld,ha,hb,hr];refine⟨?_,by omega,hgs _⟩;exact kC (.l x) _
   |l y=>
    have o1:tyO (.l y)=[tC y]:=rfl;rw[o1]at hb;obtain⟨hk2,rfl⟩:=mj x rfl;have hix:∀(h:AH) (t:Ty),aF h 2 (.psl [tC t]) (I 0)=some (.cd (tC t),h):=λh t=>da (i:=0) rfl (qn t)
    have hld:∀(h:AH) (t:Ty),bj h 2 (.cd (tC t))=some (.agg (tC t),h):=λh t=>by rw[cp];rfl
    simp[uH,ha,hb,hr];simp[L_,ha];rw[hix];simp[hb,hld];rw[hix];simp[hld];simp[Lc];refine ahZ ?_;have ej:di (.l x) (.l y)=(di x y).map .l:=rfl;cases hj:di x y with
    |none=>
     rw[hj]at ej;have e1:cN x y =.tup [.agg [I 0,.psl []],.bool false]:=by unfold cN;rw[hj];rfl
     have e2:cN (.l x) (.l y) =.tup [.agg (tC (.s 0)),.bool false]:=by unfold cN;rw[ej];rfl
     rw[e1,e2];simp[];refine⟨by omega,by omega,?_⟩;have q1:¬h.nx+1+1=h1.nx+12:=by omega
     have q2:¬h1.nx+12=h.nx+1+1:=by omega
     have q4:¬h.nx=h1.nx+10:=by omega
     have q5:¬h.nx=h1.nx+13:=by omega
     have q6:¬h.nx=h1.nx+11:=by omega
     simp[Mf,hr,q1,q2,q4,q5,q6];refine⟨?_,by omega,λi hi=>?_⟩
     ·have h0:=lg (fresh ((((AH.mk h1.H (h1.nx+15)).set (h1.nx+12) (.cells [I 0,.aa])).set (h1.nx+12) (.cells [I 0,.psl []])).set (h.nx+1+1) (.cells [I 0,.aa])) h.nx);rw[bK];cases h0 with
      |agg _ _ hl hc=>exact⟨hl,hc⟩
     ·rw[au,amU (by omega),au,amU (by omega),au,amU (by omega)];exact hg i hi
    |some t=>
     rw[hj]at ej;have e1:cN x y =.tup [.agg [I (tyK t),.psl (tyO t)],.bool true]:=by unfold cN;rw[hj,<-cp];rfl
     have e2:cN (.l x) (.l y) =.tup [.agg (tC (.l t)),.bool true]:=by unfold cN;rw[ej];rfl
     rw[e1,e2];simp[];refine⟨by omega,by omega,?_⟩;have q1:¬h.nx+1+1=h1.nx+12:=by omega
     have q2:¬h1.nx+12=h.nx+1+1:=by omega
     have q4:¬h.nx=h1.nx+10:=by omega
     have q5:¬h.nx=h1.nx+13:=by omega
     have q6:¬h.nx=h1.nx+11:=by omega
     have q3:¬h.nx=h1.nx+12:=by omega
     simp[LQ,hr,ha,q1,q2,q3,q4,q5,q6];refine⟨?_,by omega,λi hi=>?_⟩
     ·refine agL (IH rfl ?_ (by omega));rw[ak _ _ _ _ (by omega),cp];exact aj _ _ _ rfl
     ·rw[au,amU (by omega),az,amU (by simp;omega),au,amU (by omega),au,amU (by omega)];exact hg i hi
 ·have hkb:di a b=none:=by
   cases a with
   |s x=>cases b with
    |s y=>simp[di];exact hk
    |l y=>simp[di];exact hk
   |l x=>cases b with
    |s y=>simp[di];exact λh=>hk h.symm
    |l y=>exact absurd rfl hk
  have eR:cN a b =.tup [.agg (tC (.s 0)),.bool false]:=by unfold cN;rw[hkb];rfl
  rw[eR];simp[Y2,ne1,hk];generalize((h.add (.cells [I (tyK a),.psl (tyO a)])).add (.cells [I (tyK b),.psl (tyO b)])).add (.cells [I 0,.aa])=h1 at*;have ha:=hJ.a;have hb:=hJ.b;have hr:=hJ.r;simp[Lg,hr,ha];refine⟨?_,by omega,λi hi=>?_⟩
  ·have h0:=lg (fresh (h1.set (h.nx+1+1) (.cells [I 0,.aa])) h.nx);rw[bK];cases h0 with
   |agg _ _ hl hc=>exact⟨hl,hc⟩
  ·rw[au,amU (by omega)];exact hg i hi
theorem D2:∀a,BU a
 |.s k=>yK (es:=[]) λt h=>by cases h
 |.l t=>yK (es:=[eJ t (D2 t)]) λt' h=>by cases h;exact⟨_,rfl⟩
theorem Z4(h:AH)(a b:Ty)(_:True):aK prog 141 [.agg (tC a),.agg (tC b)] h (cN a b) h:=D2 a h b
def O_:QE prog:=QE.fn 141 (λ_=>True) (fun(y:Ty×Ty)=>match y with|⟨a,b⟩=>[.agg (tC a),.agg (tC b)]) (fun(y:Ty×Ty)(h:AH)=>match y with|⟨a,b⟩=>True) (fun(y:Ty×Ty)=>match y with|⟨a,b⟩=>cN a b) (λh y hj hx=>match y,hx with|⟨a,b⟩,hx=>Z4 h a b hx)
theorem aaf{tl h}(a:Ty)(b:Ty){Q:QT}(hx:True)(hq:Q (cN a b) h):tb (O_::tl) 141 [.agg (tC a),.agg (tC b)] h Q:=aV (a,b) trivial hx hq
@[simp ↓] theorem ahE:TbT O_ 141:=aH O_
def jT(k n:Int)(s:Str)(l:List Val):Bool:=
 decide (k<1)||decide (4<k)||(decide (n≠0)&&decide (k≠1)&&decide (k≠2))||(decide (s≠[])&&decide (k≠3))||(decide (0<l.length)&&decide (k≠4))
def oY(k n:Int):Bool:=(decide (k=1)&&(decide (n < -1099511627776)||decide (1099511627776<n)))||(decide (k=2)&&decide (n≠0)&&decide (n≠1))
def u5(o:Option Ty)(t:Ty):Option Ty×Bool:=
 match o with
 |none=>(some t,true)
 |some u=>(some ((di u t).getD (.s 0)),(di u t).isSome)
def nY(k:Int)(R:Int×(Option Ty×Bool)×Int):Int×Ty×Int:=
 if R.1≠0 then(R.1,.s 0,R.2.2)else if R.2.1.2=false then(5,.s 0,R.2.2)else(0,(match R.2.1.1 with|none=>.s k|some t=>.l t),R.2.2)
mutual
def dw(d:Int):Val->Int->Int×Ty×Int
 |.mk k n s l,m=>
  if k=4/\16<d then(8,.s 0,m+1)
  else if jT k n s l=true then(9,.s 0,m+1)
  else if oY k n=true then(1,.s 0,m+1)
  else if 2000<s.length\/100<l.length\/1000<m+1 then(2,.s 0,m+1)
  else if Lib.validD s=false then(3,.s 0,m+1)
  else nY k (fe (d+1) l (m+1) (none,true))
def fe(d:Int):List Val->Int->Option Ty×Bool->Int×(Option Ty×Bool)×Int
 |[],m,o=>(0,o,m)
 |v::l,m,o=>
  if(dw d v m).1≠0 then((dw d v m).1,o,(dw d v m).2.2)
  else if o.2=false then fe d l (dw d v m).2.2 o
  else fe d l (dw d v m).2.2 (u5 o.1 (dw d v m).2.1)
end
open Go.Eng Go.St Tryz
def ckR(d:Int)(v:Val)(m:Int):AV:=.tup [.agg (tC (dw d v m).2.1),I (dw d v m).2.2,I (dw d v m).1]
def Wb(d:Int):Prop:=∀(h:AH) (v:Val) (m:Int),0<=m/\m<=1000->aK prog 116 [.agg (vC v),I d,I m] h (ckR d v m) h
def eK(d:Int)(hk:Wb d):QE prog:=
 ⟨116,λargs h Q=>∃v m,args=[.agg (vC v),I d,I m]/\(0<=m/\m<=1000)/\Q (ckR d v m) h,λargs h Q ⟨v,m,h1,h2,h3⟩=>by
  subst h1;exact⟨_,_,hk h v m h2,h3⟩⟩
theorem aic{d:Int}{hk:Wb d}{tl h}{v:Val}{m:Int}{Q:QT}(hm:0<=m/\m<=1000)(hq:Q (ckR d v m) h):tb (eK d hk::tl) 116 [.agg (vC v),I d,I m] h Q:=by
 rw[dJ _ tl 116 _ _ _ rfl];exact⟨v,m,rfl,hm,hq⟩
theorem gb{H:AH}{x y z a b c:AV}(h1:Frz H false x a)(h2:Frz H false y b)(h3:Frz H false z c):Frz H false (.tup [x,y,z]) (.tup [a,b,c]):=by
 refine .tup _ _ rfl λi c d hc hd=>?_
 match i with
 |0=>simp at hc hd;subst hc;subst hd;exact h1
 |1=>simp at hc hd;subst hc;subst hd;exact h2
 |2=>simp at hc hd;subst hc;subst hd;exact h3
 |i+3=>simp at hc
structure K2(h h':AH)(a:LA):Prop where
 a:h'.ab h.nx=some a
 r:h'.ab (h.nx+1)=some [I 0,.aa]
 nx:h.nx+2<=h'.nx
 get:∀i,i<h.nx->h'.H.get i=h.H.get i
theorem K2.start(h:AH)(a:LA):K2 h ((h.add (.cells a)).add (.cells [I 0,.aa])) a:=by
 refine⟨?_,?_,by simp,λi hi=>?_⟩
 ·rw[aC _ _ _ (by simp)];exact aj _ _ _ rfl
 ·exact aj _ _ _ rfl
 ·rw[az,amU (by simp;omega),az,amU (by omega)]
def CQ(h:AH)(e:Int)(t:Ty)(c:Int):QT:=λv h'=>Frz (fresh h' h.nx) false v (.tup [.agg (tC t),I c,I e])/\h.nx<=h'.nx/\∀i,i<h.nx->h'.H.get i=h.H.get i
theorem K2.fail{h h':AH}{a:LA}(k:K2 h h' a)(e c:Int):CQ h e (.s 0) c (.tup [.agg [I 0,.aa],I c,I e]) (h'.set (h.nx+1) (.cells [I 0,.aa])):=by
 have hn:=k.nx;refine⟨gb (lg _) (.int _ _) (.int _ _),by simp;omega,λi hi=>?_⟩;rw[au,amU (by omega)];exact k.get i hi
theorem ZN(k n:Int)(s:Str)(l:List Val):(jT k n s l=true)=(k<1\/4<k\/(n≠0/\k≠1/\k≠2)\/(s.length≠0/\k≠3)\/(0<l.length/\k≠4)):=by
 simp[jT,or_assoc,and_assoc]
theorem aaI(k n:Int)(s:Str)(l:List Val):(jT k n s l=false) = ¬(k<1\/4<k\/(n≠0/\k≠1/\k≠2)\/(s.length≠0/\k≠3)\/(0<l.length/\k≠4)):=by
 rw[<-ZN];simp
theorem afX(k n:Int):oY k n=decide ((k=1/\(n < -1099511627776\/1099511627776<n))\/(k=2/\n≠0/\n≠1)):=by
 simp[oY,aoP,Bool.decide_or,Bool.and_assoc]
mutual
theorem wL(d:Int):∀(v:Val) (m:Int),(dw d v m).1=0->m<=(dw d v m).2.2/\(dw d v m).2.2<=1000
 |.mk k n s l,m=>by
  unfold dw;split
  ·intro h;simp at h
  ·split
   ·intro h;simp at h
   ·split
    ·intro h;simp at h
    ·split
     ·intro h;simp at h
     ·rename_i c4;split
      ·intro h;simp at h
      ·unfold nY;split
       ·rename_i c6;intro h;exact absurd h c6
       ·rename_i c6;have:=sB (d+1) l (m+1) (none,true) (by omega) (by simpa using c6);split
        ·intro h;simp at h
        ·intro _;simp only;omega
theorem sB(d:Int):∀(l:List Val) (m:Int) (o:Option Ty×Bool),m<=1000->(fe d l m o).1=0->m<=(fe d l m o).2.2/\(fe d l m o).2.2<=1000
 |[],m,o,hm,_=>by unfold fe;simp only;omega
 |v::l,m,o,hm,h=>by
  unfold fe at h ⊢;split
  ·rename_i c;rw[am1 c]at h;exact absurd h c
  ·rename_i c;have h1:=wL d v m (by simpa using c);rw[amU c]at h;split
   ·rename_i c2;rw[am1 c2]at h;have:=sB d l _ o h1.2 h;omega
   ·rename_i c2;rw[amU c2]at h;have:=sB d l _ _ h1.2 h;omega
end
structure CLs(h h':AH)(a:LA)(k10:Nat)(k:Int)(o:Option Ty)(lv:AV):Prop where
 base:K2 h h' a
 r10:h'.ab k10=some [I k,lv]
 lo:h.nx+2<=k10
 hi:k10<h'.nx
 k4:∀t,o=some t->k=4
 of:match o with|none=>lv =.aa|some t=>∃kk,lv =.rsl kk 0 1 2/\h.nx+2<=kk/\kk<h'.nx/\kk≠k10/\h'.ab kk=some (tC t)
theorem K2.new{h h' h2:AH}{a:LA}(k:K2 h h' a)(hn:h'.nx<=h2.nx)(hg:∀i,i<h'.nx->h2.H.get i=h'.H.get i):K2 h h2 a:=
 have n1:=k.nx
 ⟨by rw[ay (hg _ (by omega))];exact k.a,by rw[ay (hg _ (by omega))];exact k.r,by omega,λi hi=>by rw[hg i (by omega)];exact k.get i hi⟩
theorem K2.aiz{h h':AH}{a:LA}(k:K2 h h' a):K2 h (h'.set (h.nx+1) (.cells [I 0,.aa])) a:=
 ⟨by rw[ak _ _ _ _ (by omega)];exact k.a,an _ _ _ _ rfl,k.nx,λi hi=>by rw[au,amU (by omega)];exact k.get i hi⟩
theorem CLs.new{h h' h2:AH}{a:LA}{k10:Nat}{k:Int}{o:Option Ty}{lv:AV}(c:CLs h h' a k10 k o lv)(hn:h'.nx<=h2.nx)(hg:∀i,i<h'.nx->h2.H.get i=h'.H.get i):CLs h h2 a k10 k o lv:=by
 have h1:=c.hi;refine⟨c.base.new hn hg,by rw[ay (hg _ h1)];exact c.r10,c.lo,by omega,c.k4,?_⟩;have:=c.of;cases o with
 |none=>exact this
 |some t=>
  obtain⟨kk,e1,e2,e3,e4,e5⟩:=this;exact⟨kk,e1,e2,by omega,e4,by rw[ay (hg _ e3)];exact e5⟩
theorem CLs.put{h h':AH}{a:LA}{k10:Nat}{k:Int}{o:Option Ty}{lv:AV}(c:CLs h h' a k10 k o lv)(hk:k=4)(t:Ty):CLs h ((h'.add (.cells (tC t))).set k10 (.cells [I k,.rsl h'.nx 0 1 2])) a k10 k (some t) (.rsl h'.nx 0 1 2):=by
 have h1:=c.hi;have h2:=c.lo;have h3:=c.base.nx;have hg:∀i,i≠k10->i<h'.nx->((h'.add (.cells (tC t))).set k10 (.cells [I k,.rsl h'.nx 0 1 2])).H.get i=h'.H.get i:=λi hi hlt=>by
  rw[au,amU hi,az,amU (by omega)]
 refine⟨⟨by rw[ay (hg _ (by omega) (by omega))];exact c.base.a,by rw[ay (hg _ (by omega) (by omega))];exact c.base.r,by simp;omega,λi hi=>by rw[hg i (by omega) (by omega)];exact c.base.get i hi⟩,an _ _ _ _ rfl,h2,by simp;omega,λ_ _=>hk,?_⟩;refine⟨h'.nx,rfl,by omega,by simp,by omega,?_⟩;rw[ak _ _ _ _ (by omega)];exact aj _ _ _ rfl
structure OB where
 o:Option Ty
 ok:Bool
theorem Rs{d k n:Int}{s:Str}{l:List Val}{L:List (LA)}{cnt:Int}{h h4:AH}{es:List (QE prog)}(hL:vCs l=L)(hd:1<=d/\d<=17)(hc:0<=cnt/\cnt<=1000)(hk4:l.length≠0->k=4/\d<=16)
  (mj:d<=16->∃hk,es=[eK (d+1) hk]) (hK:K2 h h4 [I k,I n,.str s,.psl L]) (hll:l.length<=100):
  xx (tb (Nl::O_::es)) (I d) (I cnt) (.ptr h.nx 0) (.ptr (h.nx+1) 0) (.ptr h4.nx 0) (.agg [I k,.aa]) (h4.add (.cells [I 0,.aa]))
   (CQ h (nY k (fe (d+1) l cnt (none,true))).1 (nY k (fe (d+1) l cnt (none,true))).2.1 (nY k (fe (d+1) l cnt (none,true))).2.2):=by
 have hLl:L.length=l.length:=by rw[<-hL,dr]
 have hn4:=hK.nx;simp(disch:=first|go_size|fail)[xx];have hC:CLs h ((h4.add (.cells [I 0,.aa])).set h4.nx (.cells [I k,.aa])) [I k,I n,.str s,.psl L] h4.nx k none .aa:=by
  have hg:∀i,i<h4.nx->((h4.add (.cells [I 0,.aa])).set h4.nx (.cells [I k,.aa])).H.get i=h4.H.get i:=λi hi=>by
   rw[au,amU (by omega),az,amU (by omega)]
  exact⟨hK.new (by simp) hg,an _ _ _ _ rfl,hn4,by simp,λt h=>by(cases h),rfl⟩
 generalize(h4.add (.cells [I 0,.aa])).set h4.nx (.cells [I k,.aa])=h5 at*;generalize h4.nx=k10 at*;generalize hR:fe (d+1) l cnt (none,true)=R at*;refine⟨λN vs h'=>∃(i:Nat) (cnt:Int) (o:OB) (lv:AV),vs=[I d,I cnt,.ptr h.nx 0,.ptr (h.nx+1) 0,.ptr k10 0,.bool o.ok,I i]/\CLs h h' [I k,I n,.str s,.psl L] k10 k o.o lv/\i<=l.length/\(0<=cnt/\cnt<=1000)/\fe (d+1) (l.drop i) cnt (o.o,o.ok)=R/\N=l.length-i,l.length,?_,?_⟩
 ·exact⟨0,cnt,⟨none,true⟩,.aa,rfl,hC,by omega,hc,by simpa using hR,rfl⟩
 ·rintro N vs h' ⟨i,s_,⟨o,ok⟩,lv,rfl,hC',hi,hc',hR',rfl⟩;simp only at hC' hR' ⊢;have ha:=hC'.base.a;have agv:=hC'.r10;have hrr:=hC'.base.r;by_cases hlt:i<l.length
  ·have cw:(i:Int)<L.length:=by omega
   obtain⟨v,hv⟩:∃v,l[i]?=some v:=⟨l[i],am0 hlt⟩;obtain⟨rfl,ai3⟩:=hk4 (by omega);obtain⟨hk2,rfl⟩:=mj ai3;have hLv:L[i]?=some (vC v):=by rw[<-hL,ql,anb,hv];rfl
   have hix:∀h:AH,aF h 4 (.psl L) (I i)=some (.cd (vC v),h):=λh=>da (i:=i) hLv (cH v)
   have tU:cut (vC v) 0 4=some (vC v):=by
    have:=aM (α:=vC v) (b:=[]) (n:=4) (cH v);rwa [am5]at this
   have EV:l.drop i=v::l.drop (i+1):=by
    obtain⟨hl1,hl2⟩:=amV.1 hv;rw[ang hl1,hl2]
   rw[EV]at hR';have eS:fe (d+1) (v::l.drop (i+1)) s_ (o,ok)=if(dw (d+1) v s_).1≠0 then((dw (d+1) v s_).1,(o,ok),(dw (d+1) v s_).2.2)else if ok=false then fe (d+1) (l.drop (i+1)) (dw (d+1) v s_).2.2 (o,ok)else fe (d+1) (l.drop (i+1)) (dw (d+1) v s_).2.2 (u5 o (dw (d+1) v s_).2.1):=by rw[fe]
   rw[eS]at hR';have hcn:=wL (d+1) v s_;have hck:ckR (d+1) v s_ =.tup [.agg (tC (dw (d+1) v s_).2.1),I (dw (d+1) v s_).2.2,I (dw (d+1) v s_).1]:=rfl;generalize dw (d+1) v s_=r at*;obtain⟨e,t,c⟩:=r;simp only at hR' hcn hck;simp(disch:=first|go_size|fail)[Cn,ha,cw];refine⟨λx vs h6=>(e≠0/\x =.ret/\vs=[I d,I c,.ptr h.nx 0,.ptr (h.nx+1) 0,I c,I e,.ptr k10 0,.bool ok,I i]/\K2 h h6 [I 4,I n,.str s,.psl L])\/(e=0/\x =.nrm/\∃lv,vs=[I d,I c,.ptr h.nx 0,.ptr (h.nx+1) 0,.undef,.undef,.ptr k10 0,.bool (if ok=false then ok else(u5 o t).2),I i]/\CLs h h6 [I 4,I n,.str s,.psl L] k10 4 (if ok=false then o else(u5 o t).1) lv),?_,?_⟩
   ·simp(disch:=first|go_size|fail)[Lo,ha];rw[hix];simp(disch:=first|go_size|fail)[tU];refine aic hc' ?_;rw[hck,cp];have hnn:=hC'.base.nx;have hkn:=hC'.hi;have hgn:∀i,i<h'.nx->((h'.add (.cells [I 0,.aa])).set h'.nx (.cells [I (tyK t),.psl (tyO t)])).H.get i=h'.H.get i:=λi hi=>by
     rw[au,amU (by omega),az,amU (by omega)]
    have hC2:=hC'.new (h2:=(h'.add (.cells [I 0,.aa])).set h'.nx (.cells [I (tyK t),.psl (tyO t)])) (by simp) hgn;have ht2:((h'.add (.cells [I 0,.aa])).set h'.nx (.cells [I (tyK t),.psl (tyO t)])).ab h'.nx=some [I (tyK t),.psl (tyO t)]:=an _ _ _ _ rfl;have hn2:((h'.add (.cells [I 0,.aa])).set h'.nx (.cells [I (tyK t),.psl (tyO t)])).nx=h'.nx+1:=by simp
    have q1:¬h.nx+1=h'.nx:=by omega
    by_cases he:e=0
    ·cases ok
     ·simp(disch:=first|go_size|fail)[qY,he];exact⟨lv,hC2⟩
     ·simp[qY,he];generalize(h'.add (.cells [I 0,.aa])).set h'.nx (.cells [I (tyK t),.psl (tyO t)])=h7 at*;have hr7:=hC2.r10;cases o with
      |none=>
       have hlv:lv =.aa:=hC2.of;subst hlv;have hk7:=hC2.hi;have q2:¬k10=h7.nx:=by omega
       have q3:¬h'.nx=h7.nx:=by omega
       simp[vT,hr7,ht2,q2];refine⟨rfl,.rsl h7.nx 0 1 2,?_⟩;have:=hC2.put rfl t;rw[cp t]at this;exact this
      |some u=>
       obtain⟨kk,rfl,e2,e3,e4,e5⟩:=hC2.of;have aiI:∀h:AH,aF h 2 (.rsl kk 0 1 2) (I 0)=some (.ptr kk 0,h):=λh=>dY (by omega) (by omega)
       rw[cp]at e5;simp[vT,hr7];rw[aiI];simp[e5,ht2];rw[<-cp u,<-cp t];simp[Ee];refine aaf u t trivial ?_;refine⟨amY _,?_⟩;have eA:u5 (some u) t=(some ((di u t).getD (.s 0)),(di u t).isSome):=rfl;have eR:cN u t =.tup [.agg (tC ((di u t).getD (.s 0))),.bool (di u t).isSome]:=rfl;rw[eA,eR];generalize(di u t).getD (.s 0)=T at*;generalize(di u t).isSome=B at*;have hk7:=hC2.hi;have hg8:∀i,i<h7.nx->(((AH.mk h7.H (h7.nx+12)).set (h7.nx+9) (.cells [I 0,.aa])).set (h7.nx+9) (.cells (tC T))).H.get i=h7.H.get i:=λi hi=>by
        rw[au,amU (by omega),au,amU (by omega)]
       have hC8:=hC2.new (h2:=((AH.mk h7.H (h7.nx+12)).set (h7.nx+9) (.cells [I 0,.aa])).set (h7.nx+9) (.cells (tC T))) (by simp) hg8;have hn8:(((AH.mk h7.H (h7.nx+12)).set (h7.nx+9) (.cells [I 0,.aa])).set (h7.nx+9) (.cells (tC T))).nx=h7.nx+12:=rfl;have ht8:(((AH.mk h7.H (h7.nx+12)).set (h7.nx+9) (.cells [I 0,.aa])).set (h7.nx+9) (.cells (tC T))).ab (h7.nx+9)=some (tC T):=an _ _ _ _ rfl;rw[cp T]at*;have q4:¬h7.nx+9=k10:=by omega
       have q5:¬h7.nx+9=kk:=by omega
       have q6:¬h7.nx+9=h'.nx:=by omega
       simp[q4,q5,q6];generalize((AH.mk h7.H (h7.nx+12)).set (h7.nx+9) (.cells [I 0,.aa])).set (h7.nx+9) (.cells [I (tyK T),.psl (tyO T)])=h8 at*;have hr8:=hC8.r10;have q7:¬k10=h8.nx:=by omega
       simp[Et,hr8,q7];have:=hC8.put rfl T;rw[cp T]at this;exact⟨_,this⟩
    ·simp[qY,he,q1,hrr];simp[J0];exact hC2.base.aiz
   ·rintro x vs h6 (⟨he,rfl,rfl,hK6⟩|⟨he,rfl,lv6,rfl,hC6⟩)
    ·rw[am1 he]at hR';subst hR';have hr6:=hK6.r;have hF:nY 4 (e,(o,ok),c)=(e,.s 0,c):=by unfold nY;rw[am1 he]
     rw[hF];simp[Bs];simp[B2,hr6];exact⟨gb (lg _) (.int _ _) (.int _ _),by have:=hK6.nx;omega,hK6.get⟩
    ·have hnE:¬(e≠0):=by simpa using he
     rw[amU hnE]at hR';simp(disch:=first|go_size|fail)[Bs];have:=hcn he;refine⟨l.length-(i+1),by omega,i+1,c,⟨if ok=false then o else(u5 o t).1,if ok=false then ok else(u5 o t).2⟩,⟨rfl,rfl,by omega⟩,⟨lv6,hC6⟩,?_,?_,?_,rfl⟩
     ·omega
     ·omega
     rw[<-hR'];cases ok<;>rfl
  ·have cw:¬(i:Int)<L.length:=by omega
   obtain rfl:i=l.length:=by omega
   rw[aoM,fe]at hR';subst hR';simp(disch:=first|go_size|fail)[Cn,ha,cw];simp(disch:=first|go_size|fail)[B2];cases ok
   ·simp(disch:=first|go_size|fail)[ry,hrr];exact hC'.base.fail _ _
   ·have hlo:=hC'.lo;have hbn:=hC'.base.nx;have hhi:=hC'.hi;cases o with
    |none=>
     have hlv:lv =.aa:=hC'.of;subst hlv;simp(disch:=first|go_size|fail)[ry,hrr,agv];refine⟨gb ?_ (.int _ _) (.int _ _),by simp;omega,λi hi=>by rw[au,amU (by omega)];exact hC'.base.get i hi⟩;refine .agg _ _ rfl λi c d hc hd=>?_
     match i with
     |0=>simp[nY,tC]at hc hd;subst hc;subst hd;exact .int _ _
     |1=>simp[nY,tC]at hc hd;subst hc;subst hd;exact .aa
     |i+2=>simp at hc
    |some u=>
     obtain⟨kk,rfl,e2,e3,e4,e5⟩:=hC'.of;simp(disch:=first|go_size|fail)[ry,hrr,agv];refine⟨gb ?_ (.int _ _) (.int _ _),by simp;omega,λi hi=>by rw[au,amU (by omega)];exact hC'.base.get i hi⟩;refine IH (hC'.k4 u rfl) ?_ (by omega);rw[ak _ _ _ _ (by omega)];exact e5
theorem DE{d:Int}{es:List (QE prog)}(hd:1<=d/\d<=17)(mj:d<=16->∃hk,es=[eK (d+1) hk]):Wb d:=by
 rintro h ⟨k,n,s,l⟩ m hm;refine aZ (R:=CQ h (dw d (.mk k n s l) m).1 (dw d (.mk k n s l) m).2.1 (dw d (.mk k n s l) m).2.2) (ahD (aW (Nl::O_::es)) ?_) λv' h' h1=>h1
 have hK:=K2.start h (vC (.mk k n s l));unfold dw;simp only[vC]at hK ⊢;generalize hL:vCs l=L at*;have hLl:L.length=l.length:=by rw[<-hL,dr]
 simp(disch:=first|go_size|fail)[afw];generalize((h.add (.cells [I k,I n,.str s,.psl L])).add (.cells [I 0,.aa]))=h1 at*;have ha:=hK.a;have hr:=hK.r;refine⟨λvs h'=>vs=[I d,I (m+1),.ptr h.nx 0,.ptr (h.nx+1) 0,.bool (decide (k=4)),.bool (decide (k=4)&&decide (16<d))]/\h'=h1,?_,?_⟩
 ·have e:(k==4)=decide (k=4):=rfl;rw[e];by_cases q:k=4
  ·simp(disch:=first|go_size|fail)[CE,q]
  ·simp(disch:=first|go_size|fail)[CE,q]
 ·rintro vs h' ⟨rfl,rfl⟩;by_cases c1:k=4/\16<d
  ·rw[am1 c1];simp[vI,c1,hr];exact hK.fail _ _
  ·rw[amU c1];have e1:(decide (k=4)&&decide (16<d))=false:=by simp only[an_,ano];omega
   rw[e1];simp[vI];refine⟨λvs h2=>vs=[I d,I (m+1),.ptr h.nx 0,.ptr (h.nx+1) 0,.bool (jT k n s l)]/\h2=h',?_,?_⟩
   ·simp[LO,ha];by_cases q:k=4
    ·simp[A9,ha,q];simp[B0,ha];simp[Ap,ha];simp[Bw];have hL0:(L=[])=(l.length=0):=by rw[<-hLl,anE]
     have hs0:(s=[])=(s.length=0):=by rw[anE]
     simp only[ZN,aaI,hL0,hs0,hLl];omega
    ·simp[A9,ha,q];simp[B0,ha];simp[Ap,ha];simp[Bw];have hL0:(L=[])=(l.length=0):=by rw[<-hLl,anE]
     have hs0:(s=[])=(s.length=0):=by rw[anE]
     simp only[ZN,aaI,hL0,hs0,hLl];omega
   ·rintro vs h2 ⟨rfl,rfl⟩;cases c2:jT k n s l
    ·simp only[am7,ans];simp[vh];refine⟨λvs h3=>vs=[I d,I (m+1),.ptr h.nx 0,.ptr (h.nx+1) 0,.bool (oY k n)]/\h3=h2,?_,?_⟩
     ·simp[Jl,ha];simp[Ki,ha];simp[Jv,ha];simp[KY];have hb:(n != 1)=decide (n≠1):=by by_cases q:n=1<;>simp[q]
      simp only[afX,hb,ana,ano,aoh];omega
     ·rintro vs h3 ⟨rfl,rfl⟩;cases c3:oY k n
      ·simp only[am7,ans];simp[wz];refine⟨λvs h4=>vs=[I d,I (m+1),.ptr h.nx 0,.ptr (h.nx+1) 0,.bool (decide (2000<s.length\/100<l.length\/1000<m+1))]/\h4=h3,?_,?_⟩
       ·simp[Mk,ha];simp[LD];rw[hLl];simp only[<-Bool.decide_or,aoh];omega
       ·rintro vs h4 ⟨rfl,rfl⟩;by_cases c4:2000<s.length\/100<l.length\/1000<m+1
        ·rw[am1 c4,anA c4];simp[u0,hr];exact hK.fail _ _
        ·rw[amU c4,anw c4];simp[u0,ha];refine SR (s:=s) (by omega) ?_;cases c5:Lib.validD s
         ·simp[hr];exact hK.fail _ _
         ·simp[ha];have:=Rs (k:=k) (n:=n) (s:=s) (l:=l) (cnt:=m+1) (h:=h) (h4:=h4) (es:=es) hL hd (by omega) (λh0=>by
           rw[aaI]at c2;omega) mj hK (by omega)
          exact this
      ·simp only[anH];simp[wz,hr];exact hK.fail _ _
    ·simp only[anH];simp[vh,hr];exact hK.fail _ _
theorem Mq:∀(k:Nat) (d:Int),d+k=17->1<=d->Wb d
 |0,d,h1,h0=>DE (es:=[]) ⟨h0,by omega⟩ λh=>by omega
 |k+1,d,h1,h0=>DE (es:=[eK (d+1) (Mq k (d+1) (by omega) (by omega))]) ⟨h0,by omega⟩ λh=>⟨_,rfl⟩
theorem QO(h:AH)(v:Val)(_:True):aK prog 116 [.agg (vC v),I 1,I 0] h (ckR 1 v 0) h:=Mq 16 1 (by omega) (by omega) h v 0 (by omega)
def adA:QE prog:=QE.fn 116 (λ_=>True) (fun(v:Val)=>[.agg (vC v),I 1,I 0]) (fun(v:Val)(h:AH)=>True) (fun(v:Val)=>ckR 1 v 0) (λh v hj hx=>QO h v hx)
theorem ZU{tl h}(v:Val){Q:QT}(hx:True)(hq:Q (ckR 1 v 0) h):tb (adA::tl) 116 [.agg (vC v),I 1,I 0] h Q:=aV v trivial hx hq
theorem Nt(h:AH)(v:Val)(_:True):aK prog 84 [.agg (vC v)] h (.tup [.agg (tC (dw 1 v 0).2.1),I (dw 1 v 0).1]) h:=by
 refine aZ (R:=λv' h'=>v' =.tup [.agg (tC (dw 1 v 0).2.1),I (dw 1 v 0).1]/\h.nx<=h'.nx/\∀i,i<h.nx->h'.H.get i=h.H.get i) (C84 (aW [adA]) ?_) λv' h' ⟨h1,h2,h3⟩=>⟨by rw[h1];exact gP (LH _ _) (.int _ _),h2,h3⟩
 have hl:(vC v).length=4:=cH v;have ho:=iH v;simp(disch:=first|go_size|fail)[g84,ho];refine ZU v trivial ?_;unfold ckR;generalize dw 1 v 0=r at*;obtain⟨e,t,c⟩:=r;simp only;rw[cp];have hg:∀i,i<h.nx->((h.add (.cells (vC v))).add (.cells [I 0,.aa])).H.get i=h.H.get i:=λi hi=>by
  rw[az,amU (by simp;omega),az,amU (by omega)]
 have hn:h.nx+2<=((h.add (.cells (vC v))).add (.cells [I 0,.aa])).nx:=by simp
 have hr:((h.add (.cells (vC v))).add (.cells [I 0,.aa])).ab (h.nx+1)=some [I 0,.aa]:=aj _ _ _ rfl;generalize(h.add (.cells (vC v))).add (.cells [I 0,.aa])=h1 at*;have q:¬h.nx+1=h1.nx:=by omega
 simp[SU,hr,q];refine⟨by omega,λi hi=>?_⟩;rw[au,amU (by omega),au,amU (by omega),az,amU (by omega)];exact hg i hi
def e84:QE prog:=QE.fn 84 (λ_=>True) (fun(v:Val)=>[.agg (vC v)]) (fun(v:Val)(h:AH)=>True) (fun(v:Val)=>.tup [.agg (tC (dw 1 v 0).2.1),I (dw 1 v 0).1]) (λh v hj hx=>Nt h v hx)
theorem aeB{tl h}(v:Val){Q:QT}(hx:True)(hq:Q (.tup [.agg (tC (dw 1 v 0).2.1),I (dw 1 v 0).1]) h):tb (e84::tl) 84 [.agg (vC v)] h Q:=aV v trivial hx hq
theorem M5(h:AH)(v:Val)(_:True):aK prog 42 [.agg (vC v)] h (I (dw 1 v 0).1) h:=by
 refine aZ (R:=λv' h'=>v'=I (dw 1 v 0).1/\h.nx<=h'.nx/\∀i,i<h.nx->h'.H.get i=h.H.get i) (C42 (aW [e84]) ?_) λv' h' ⟨h1,h2,h3⟩=>⟨by rw[h1];exact .int _ _,h2,h3⟩
 have hl:(vC v).length=4:=cH v;have ho:=iH v;simp(disch:=first|go_size|fail)[g42,ho];refine aeB v trivial ?_;rw[cp];have hg:∀i,i<h.nx->(h.add (.cells (vC v))).H.get i=h.H.get i:=λi hi=>by rw[az,amU (by omega)]
 have hn:h.nx<=(h.add (.cells (vC v))).nx:=by simp
 generalize h.add (.cells (vC v))=h1 at*;simp[Pq];refine⟨by omega,λi hi=>?_⟩;rw[au,amU (by omega),az,amU (by omega)];exact hg i hi
def e42:QE prog:=QE.fn 42 (λ_=>True) (fun(v:Val)=>[.agg (vC v)]) (fun(v:Val)(h:AH)=>True) (fun(v:Val)=>I (dw 1 v 0).1) (λh v hj hx=>M5 h v hx)
theorem Yf{tl h}(v:Val){Q:QT}(hx:True)(hq:Q (I (dw 1 v 0).1) h):tb (e42::tl) 42 [.agg (vC v)] h Q:=aV v trivial hx hq
@[simp ↓] theorem aka:TbT e42 42:=aH e42
open Go.Eng Go.St Tryz
def lS(s:Str):Nat->List Int->RS->List Int×RS
 |0,acc,t=>(acc,t)
 |n+1,acc,t=>if t.bad=true then(acc,t)else if s.length<=t.pos then(acc,t)else lS s n (acc++[cG s t]) (a_ s t)
def wY(s:Str)(t:RS):List Int×RS:=lS s (s.length+3) [] t
def clC(n:Int):LA:=[I (max n (-n)),.bool (decide (n<0))]
def nL(l:List Int):List (LA):=l.map clC
def nM(s:Str):List (LA):=(aD s).map λn=>[bH n]
def edC(k:Int)(r:AV)(n:Int)(c:AV):LA:=[I k,r,.aa,.aa,I 0,I 0,.bool false,I 0,I 0,I 0,I 0,I 0,I n,c,I 0]
def dm(k:Int)(r:AV)(n:Int)(c:AV):LA:=[I 8,I 0,I 0,I 0,I 0,I 0,I 0,I 0,I 0,I 0,I 0,I 0,.bool false,.bool false,I 0,.aa,I 0,I 0,I 0,I 0,I 0,.str [],I k,r,.aa,.aa,I 0,I 0,.bool false,I 0,I 0,I 0,I 0,I 0,I n,c,I 0]
def iv(s:Str)(t0:RS):(Int×AV×Int×AV)×RS:=
 let t:=aN s t0
 let w:=aP s t
 let t1:=aX s t
 if w=jV then((14,.aa,0,.aa),t1)
 else if w=ga then((17,.aa,0,.aa),t1)
 else if w=ix then((16,.psl (nM (fP s t1)),0,.aa),ft s t1)
 else if w=iw then
  ((15,.psl (nM (fP s t1)),cG s (ft s t1),.psl (nL (wY s (a_ s (ft s t1))).1)),(wY s (a_ s (ft s t1))).2)
 else((0,.aa,0,.aa),⟨t1.pos,true⟩)
def lb(x:Int×AV×Int×AV):LA:=dm x.1 x.2.1 x.2.2.1 x.2.2.2
theorem dD(s:Str)(t:RS)(ht:t.pos<=s.length+1):bX s t (a_ s t)/\((a_ s t).bad=false->t.pos<(a_ s t).pos):=by
 have h1:=cg s t ht;have h2:=zb s _ h1.lt;exact⟨h1.trans h2.1,λh=>aom h1.le (h2.2 h)⟩
theorem iP(s:Str)(t:RS)(ht:t.pos<=s.length+1):bX s t (ft s t):=by
 have h1:=cg s t ht;exact h1.trans (mA s _ h1.lt).1
theorem gL(s:Str)(t:RS)(ht:t.pos<=s.length):bX s t (aX s t)/\(aX s t).pos<=s.length:=by
 have h1:(aP s t).length<=s.length-t.pos:=by
  have:=mD (bl false) (s.drop t.pos);rw[am3]at this;exact this
 unfold aX;exact⟨⟨by simp,by simp only;omega,id⟩,by simp only;omega⟩
theorem qi(s:Str)(t:RS)(ht:t.pos<=s.length):(aN s t).pos<=s.length:=by
 unfold aN;split
 ·rename_i h;have:=(amV.1 h).1;simp only;omega
 ·exact ht
theorem aa3(s:Str)(t:RS)(ht:t.pos<=s.length):(dU s t).pos<=s.length:=by
 unfold dU;have h1:(s.drop t.pos).length=s.length-t.pos:=am3;simp only;omega
theorem jf(s:Str)(t:RS)(ht:t.pos<=s.length):(a_ s t).pos<=s.length:=aa3 s _ (qi s t ht)
structure R2(h h':AH)(id k5:Nat)(c1 c2:LA):Prop where
 a:h'.ab id=some c1
 b:h'.ab k5=some c2
 nx:h.nx<=h'.nx
 get:∀i,i≠id->i≠k5->i<h.nx->h'.H.get i=h.H.get i
theorem R2.cE{h h':AH}{id k5:Nat}{c1 c2:LA}(r:R2 h h' id k5 c1 c2)(hne:id≠k5)(d:LA):R2 h (h'.set id (.cells d)) id k5 d c2:=
 ⟨an _ _ _ _ rfl,by rw[ak _ _ _ _ (by omega)];exact r.b,r.nx,λi h1 h2 h3=>by rw[au,amU h1];exact r.get i h1 h2 h3⟩
theorem R2.sZ{h h':AH}{id k5:Nat}{c1 c2:LA}(r:R2 h h' id k5 c1 c2)(hne:id≠k5)(d:LA):R2 h (h'.set k5 (.cells d)) id k5 c1 d:=
 ⟨by rw[ak _ _ _ _ hne];exact r.a,an _ _ _ _ rfl,r.nx,λi h1 h2 h3=>by rw[au,amU h2];exact r.get i h1 h2 h3⟩
theorem R2.new{h h' h2:AH}{id k5:Nat}{c1 c2:LA}(r:R2 h h' id k5 c1 c2)(h1:id<h.nx/\k5<h.nx)(hn:h'.nx<=h2.nx)(hg:∀i,i<h.nx->h2.H.get i=h'.H.get i):R2 h h2 id k5 c1 c2:=
 ⟨by rw[ay (hg _ h1.1)];exact r.a,by rw[ay (hg _ h1.2)];exact r.b,ane r.nx hn,λi q1 q2 q3=>by rw[hg i q3];exact r.get i q1 q2 q3⟩
theorem Tg{P:Program}{f:Nat}{args:LA}{h:AH}{v:AV}{id k5:Nat}{d1 d2:LA}{R:QT}(hid:id<h.nx)(hk:k5<h.nx)(hne:id≠k5)(hp:vt d1)(hc:aJ P f args h R)
  (hR:∀v' h',R v' h'->Frz (fresh h' h.nx) false v' v/\∃c2,R2 h h' id k5 d1 c2/\ea (fresh h' h.nx) false c2 d2):aK P f args h v ((h.set id (.cells d1)).set k5 (.cells d2)):=by
 refine AF hc rfl (λi hi=>?_) λv' h' hq=>⟨(hR v' h' hq).1,λi hi=>?_⟩
 ·show((h.set id _).set k5 _).H.get i=_
  rw[au,amU (by omega),au,amU (by omega)]
 ·obtain⟨_,c2,hr,hf⟩:=hR v' h' hq;by_cases h1:i=id
  ·subst h1;exact .inr ⟨d1,d1,gN hr.a,by rw[au,amU hne,au,am1 rfl],hp _⟩
  ·by_cases h2:i=k5
   ·subst h2;exact .inr ⟨c2,d2,gN hr.b,by rw[au,am1 rfl],hf⟩
   ·exact .inl ⟨by rw[au,amU h2,au,amU h1],hr.get i h1 h2 hi⟩
theorem fp{H:AH}{k n:Int}{r r' c c':AV}(h1:Frz H false r r')(h2:Frz H false c c'):ea H false (dm k r n c) (dm k r' n c'):=by
 unfold dm;repeat' (first|exact trivial|refine And.intro ?_ ?_|exact .int _ _|exact .bool _|exact .str _|exact .dX|assumption)
theorem zO(s:Str):∀(n:Nat) (out:Str) (t:RS),t.pos<=s.length->out.length<=t.pos->(rQL s n out t).1.length<=s.length
 |0,out,t,ht,h=>by simp only[rQL];omega
 |n+1,out,t,ht,h=>by
  unfold rQL;cases hc:s[t.pos]? with
  |none=>simp only;omega
  |some c=>
   simp only;split
   ·simp only;omega
   ·have h1:=wo s c t hc;exact zO s n _ _ h1.1 (by rw[amX];simp only[am2];omega)
theorem yO(s:Str)(t:RS)(_:t.pos<=s.length+1):(fP s t).length<=s.length:=by
 unfold fP ju;split
 ·rename_i h34;have hlt:=(amV.1 h34).1;exact zO s _ _ _ (by simp only;omega) (by simp)
 ·simp
theorem mZ{h':AH}{n k:Nat}{s:Str}(hc:h'.ab k=some ((aD s).map bH))(hn:n<=k):Frz (fresh h' n) false (.rsl k 0 (aD s).length 1) (.psl (nM s)):=by
 have hf:(fresh h' n).ab k=some ((aD s).map bH):=by rw[iA hn];exact hc
 have:=Frz.rsl (h:=fresh h' n) (n:=false) k 0 1 ((aD s).map bH) (nM s) hf (by simp[nM]) (λi y hy=>by
  unfold nM at hy;rw[anb]at hy;cases hl:(aD s)[i]? with
  |none=>rw[hl]at hy;simp at hy
  |some r=>rw[hl]at hy;simp at hy;subst hy;rfl) (λi y j c d hy hd hc=>by
  unfold nM at hy;rw[anb]at hy;cases hl:(aD s)[i]? with
  |none=>rw[hl]at hy;simp at hy
  |some r=>
   rw[hl]at hy;simp at hy;subst hy;match j with
   |0=>
    simp at hd;subst hd;rw[show 0+i*1+0=i by omega,anb,hl]at hc;simp at hc;subst hc;exact .int _ _
   |j+1=>simp at hd)
 have e:(nM s).length=(aD s).length:=by simp[nM]
 rwa [e]at this
theorem nA{z n:Nat}{hb h':AH}{lv:AV}{ys:List (LA)}(hz:∀y∈ys,y.length=z)(hy:∀y∈ys,∀(H:AH) (j:Nat) (c:AV),y[j]?=some c->Frz H false c c)(o:OL z hb h' lv ys.length ys.flatten)(hn:n<=hb.nx):Frz (fresh h' n) false lv (.psl ys):=by
 rcases o with⟨rfl,h2,h3⟩|⟨k,rfl,hn0,hk0,hk,hcs,hlen⟩
 ·have:ys=[]:=am8 h2;subst this;exact .aa
 ·have hf:(fresh h' n).ab k=some ys.flatten:=by rw[iA (by omega)];exact hcs
  exact Frz.rsl (h:=fresh h' n) (n:=false) k 0 z ys.flatten ys hf (by omega) (λi y hy=>hz y (am9 hy)) (λi y j c d' hy' hd hc=>by
   have hm:=am9 hy';have hj:j<z:=by
    have:=(amV.1 hd).1;rw[hz y hm]at this;exact this
   have h1:=vO ys hz i j y hy' hj;rw[show 0+i*z+j=i*z+j by omega]at hc;rw[h1,hd]at hc;cases hc;exact hy y hm _ j _ hd)
theorem Tf(l:List Int):∀y∈nL l,y.length=2:=by
 intro y hy;obtain⟨n,_,rfl⟩:=an0.1 hy;rfl
theorem yN(l:List Int):∀y∈nL l,∀(H:AH) (j:Nat) (c:AV),y[j]?=some c->Frz H false c c:=by
 intro y hy H j c hc;obtain⟨n,_,rfl⟩:=an0.1 hy;match j with
 |0=>simp[clC]at hc;subst hc;exact .int _ _
 |1=>simp[clC]at hc;subst hc;exact .bool _
 |j+2=>simp[clC]at hc
theorem FX(s:Str)(t:RS):-(10*eM+9)<=cG s t/\cG s t<=10*eM+9:=by
 unfold cG dV;have:=wX (fF (s.drop (aN s t).pos)) 0 (by unfold eM;omega);have hM:eM=1099511627776:=rfl;split<;>omega
theorem pB(h:AH)(a b:Int):iy h true (I a) (I b)=some (I (max a b),h):=by
 simp[iy];split<;>omega
theorem Io(h:AH)(id k5:Nat)(x:Rd)(hc:h.ab id=some (rdC x))(hk:h.ab k5=some (dm 0 .aa 0 .aa))(hid:id<h.nx)(hk5:k5<h.nx)(hne:id≠k5)(hx:x.s.length<=1000000/\x.t.pos<=x.s.length):
  aK prog 54 [.ptr id 0,.ptr k5 22] h (.tup []) ((h.set id (.cells (rdC ⟨x.s,(iv x.s x.t).2⟩))).set k5 (.cells (lb (iv x.s x.t).1))):=by
 obtain⟨s,t⟩:=x;obtain⟨hs,hp⟩:=hx;simp only at hs hp;refine Tg (R:=λv h'=>v =.tup []/\∃c2,R2 h h' id k5 (rdC ⟨s,(iv s t).2⟩) c2/\ea (fresh h' h.nx) false c2 (lb (iv s t).1)) hid hk5 hne (gi _) (C54 (aW [e47,e46,e53,e49,e51]) ?_) λv' h' ⟨h1,h2⟩=>⟨by rw[h1];exact .tup [] [] rfl (by simp),h2⟩
 have hr0:R2 h h id k5 (rdC ⟨s,t⟩) (dm 0 .aa 0 .aa):=⟨hc,hk,amY _,λi _ _ _=>rfl⟩;unfold iv;simp[g54];refine qd (x:=⟨s,t⟩) hc hid ⟨hs,by simp only;omega⟩ ?_;have hr1:=hr0.cE hne (rdC ⟨s,aN s t⟩);have hp1:=qi s t hp;simp only at hr1 ⊢;generalize h.set id (.cells (rdC ⟨s,aN s t⟩))=h1 at*;generalize aN s t=t1 at*;refine vP (x:=⟨s,t1⟩) hr1.a (ant hid hr1.nx) ⟨⟨hs,by simp only;omega⟩,hp1⟩ ?_;have hr2:=hr1.cE hne (rdC ⟨s,aX s t1⟩);have hp2:=(gL s t1 hp1).2;simp only at hr2 ⊢;generalize h1.set id (.cells (rdC ⟨s,aX s t1⟩))=h2 at*;generalize aX s t1=t2 at*;generalize aP s t1=w at*;have hb2:h2.ab k5=some [I 8,I 0,I 0,I 0,I 0,I 0,I 0,I 0,I 0,I 0,I 0,I 0,.bool false,.bool false,I 0,.aa,I 0,I 0,I 0,I 0,I 0,.str [],I 0,.aa,.aa,.aa,I 0,I 0,.bool false,I 0,I 0,I 0,I 0,I 0,I 0,.aa,I 0]:=hr2.b;by_cases w1:w=jV
 ·rw[am1 w1];have w1':w=[98,101,103,105,110]:=w1;simp[w1',hb2];exact⟨_,hr2.sZ hne (dm 14 .aa 0 .aa),fp .dX .dX⟩
 ·rw[amU w1];have w1':¬w=[98,101,103,105,110]:=w1;by_cases w2:w=ga
  ·rw[am1 w2];have w2':w=[99,97,110,99,101,108]:=w2;simp[w1',w2',hb2];exact⟨_,hr2.sZ hne (dm 17 .aa 0 .aa),fp .dX .dX⟩
  ·rw[amU w2];have w2':¬w=[99,97,110,99,101,108]:=w2;by_cases w3:w=ix
   ·rw[am1 w3];have w3':w=[99,111,109,109,105,116]:=w3;simp[w1',w2',w3',hb2];simp[Qs];have hr3:=hr2.sZ hne (dm 16 .aa 0 .aa);have fJ:h2.set k5 (.cells [I 8,I 0,I 0,I 0,I 0,I 0,I 0,I 0,I 0,I 0,I 0,I 0,.bool false,.bool false,I 0,.aa,I 0,I 0,I 0,I 0,I 0,.str [],I 16,.aa,.aa,.aa,I 0,I 0,.bool false,I 0,I 0,I 0,I 0,I 0,I 0,.aa,I 0])=h2.set k5 (.cells (dm 16 .aa 0 .aa)):=rfl;rw[fJ];generalize h2.set k5 (.cells (dm 16 .aa 0 .aa))=h3 at*;refine Qv (x:=⟨s,t2⟩) hr3.a (ant hid hr3.nx) ⟨hs,by simp only;omega⟩ ?_;have hr4:=hr3.cE hne (rdC ⟨s,ft s t2⟩);simp only at hr4 ⊢;generalize h3.set id (.cells (rdC ⟨s,ft s t2⟩))=h4 at*;have hTl:(fP s t2).length<=1000000:=by have:=yO s t2 (by omega);omega
    generalize fP s t2=T at*;have hr5:=hr4.new (h2:=h4.add (.cells ((aD T).map bH))) ⟨hid,hk5⟩ (by simp) λi hi=>by have:=hr4.nx;rw[az,amU (by omega)]
    have hcr:(h4.add (.cells ((aD T).map bH))).ab h4.nx=some ((aD T).map bH):=aj _ _ _ rfl;have hn4:=hr4.nx;simp[P8];rw[qj h4 T hTl];generalize h4.add (.cells ((aD T).map bH))=h5 at*;have hb5:h5.ab k5=some [I 8,I 0,I 0,I 0,I 0,I 0,I 0,I 0,I 0,I 0,I 0,I 0,.bool false,.bool false,I 0,.aa,I 0,I 0,I 0,I 0,I 0,.str [],I 16,.aa,.aa,.aa,I 0,I 0,.bool false,I 0,I 0,I 0,I 0,I 0,I 0,.aa,I 0]:=hr5.b;simp[hb5];refine⟨_,hr5.sZ hne (dm 16 (.rsl h4.nx 0 (aD T).length 1) 0 .aa),fp (mZ ?_ hn4) .dX⟩;exact(ak _ _ _ _ (by omega)).trans hcr
   ·rw[amU w3];have w3':¬w=[99,111,109,109,105,116]:=w3;by_cases w4:w=iw
    ·rw[am1 w4];have w4':w=[117,112,100,97,116,101]:=w4;simp[w1',w2',w3',w4',hb2];simp[Se,hb2];have hr3:=hr2.sZ hne (dm 15 .aa 0 .aa);have fJ:h2.set k5 (.cells [I 8,I 0,I 0,I 0,I 0,I 0,I 0,I 0,I 0,I 0,I 0,I 0,.bool false,.bool false,I 0,.aa,I 0,I 0,I 0,I 0,I 0,.str [],I 15,.aa,.aa,.aa,I 0,I 0,.bool false,I 0,I 0,I 0,I 0,I 0,I 0,.aa,I 0])=h2.set k5 (.cells (dm 15 .aa 0 .aa)):=rfl;rw[fJ];generalize h2.set k5 (.cells (dm 15 .aa 0 .aa))=h3 at*;refine Qv (x:=⟨s,t2⟩) hr3.a (ant hid hr3.nx) ⟨hs,by simp only;omega⟩ ?_;have hr4:=hr3.cE hne (rdC ⟨s,ft s t2⟩);have hkT:=iP s t2 (by omega);simp only at hr4 ⊢;generalize h3.set id (.cells (rdC ⟨s,ft s t2⟩))=h4 at*;have hTl:(fP s t2).length<=1000000:=by have:=yO s t2 (by omega);omega
     generalize fP s t2=T at*;generalize ft s t2=t3 at*;have hr5:=hr4.new (h2:=h4.add (.cells ((aD T).map bH))) ⟨hid,hk5⟩ (by simp) λi hi=>by have:=hr4.nx;rw[az,amU (by omega)]
     have hcr:(h4.add (.cells ((aD T).map bH))).ab h4.nx=some ((aD T).map bH):=aj _ _ _ rfl;have hn4:=hr4.nx;have hn5:h4.nx<(h4.add (.cells ((aD T).map bH))).nx:=by simp
     simp[Rf];rw[qj h4 T hTl];generalize h4.add (.cells ((aD T).map bH))=h5 at*;have hb5:h5.ab k5=some [I 8,I 0,I 0,I 0,I 0,I 0,I 0,I 0,I 0,I 0,I 0,I 0,.bool false,.bool false,I 0,.aa,I 0,I 0,I 0,I 0,I 0,.str [],I 15,.aa,.aa,.aa,I 0,I 0,.bool false,I 0,I 0,I 0,I 0,I 0,I 0,.aa,I 0]:=hr5.b;simp[hb5];have agj:(AV.rsl h4.nx 0 (aD T).length 1).one=true:=rfl;generalize hrv:AV.rsl h4.nx 0 (aD T).length 1=rv at*;have hr6:=hr5.sZ hne (dm 15 rv 0 .aa);have ajr:(h5.set k5 (.cells (dm 15 rv 0 .aa))).ab h4.nx=some ((aD T).map bH):=(ak _ _ _ _ (by omega)).trans hcr;have hn6:(h5.set k5 (.cells (dm 15 rv 0 .aa))).nx=h5.nx:=rfl;have nW:h5.set k5 (.cells [I 8,I 0,I 0,I 0,I 0,I 0,I 0,I 0,I 0,I 0,I 0,I 0,.bool false,.bool false,I 0,.aa,I 0,I 0,I 0,I 0,I 0,.str [],I 15,rv,.aa,.aa,I 0,I 0,.bool false,I 0,I 0,I 0,I 0,I 0,I 0,.aa,I 0])=h5.set k5 (.cells (dm 15 rv 0 .aa)):=rfl;rw[nW];generalize h5.set k5 (.cells (dm 15 rv 0 .aa))=h6 at*;refine kN (x:=⟨s,t3⟩) hr6.a (ant hid hr6.nx) ⟨hs,hkT.lt⟩ ?_;have hr7:=hr6.cE hne (rdC ⟨s,a_ s t3⟩);have hkN:=dD s t3 hkT.lt;have ajv:(h6.set id (.cells (rdC ⟨s,a_ s t3⟩))).ab h4.nx=some ((aD T).map bH):=(ak _ _ _ _ (by omega)).trans ajr;have hn7:(h6.set id (.cells (rdC ⟨s,a_ s t3⟩))).nx=h6.nx:=rfl;simp only at hr7 ⊢;generalize h6.set id (.cells (rdC ⟨s,a_ s t3⟩))=h7 at*;generalize cG s t3=N at*;generalize a_ s t3=t4 at*;have hb7:h7.ab k5=some [I 8,I 0,I 0,I 0,I 0,I 0,I 0,I 0,I 0,I 0,I 0,I 0,.bool false,.bool false,I 0,.aa,I 0,I 0,I 0,I 0,I 0,.str [],I 15,rv,.aa,.aa,I 0,I 0,.bool false,I 0,I 0,I 0,I 0,I 0,I 0,.aa,I 0]:=hr7.b
     simp[OU,hb7];have hr8:=hr7.sZ hne (dm 15 rv N .aa);have ajE:(h7.set k5 (.cells (dm 15 rv N .aa))).ab h4.nx=some ((aD T).map bH):=(ak _ _ _ _ (by omega)).trans ajv;have hn8:(h7.set k5 (.cells (dm 15 rv N .aa))).nx=h7.nx:=rfl;have Jc:h7.set k5 (.cells [I 8,I 0,I 0,I 0,I 0,I 0,I 0,I 0,I 0,I 0,I 0,I 0,.bool false,.bool false,I 0,.aa,I 0,I 0,I 0,I 0,I 0,.str [],I 15,rv,.aa,.aa,I 0,I 0,.bool false,I 0,I 0,I 0,I 0,I 0,I N,.aa,I 0])=h7.set k5 (.cells (dm 15 rv N .aa)):=rfl;rw[Jc];generalize h7.set k5 (.cells (dm 15 rv N .aa))=h8 at*;have pq:lS s (s.length+3) [] t4=wY s t4:=rfl;generalize hRR:wY s t4=R at*;have alv:h4.nx<h8.nx:=by omega
     refine⟨λm vs h'=>∃(acc:List Int) (t:RS) (lv:AV),vs=[.ptr id 0,.ptr k5 22]/\R2 h h' id k5 (rdC ⟨s,t⟩) (dm 15 rv N lv)/\OL 2 h8 h' lv acc.length (nL acc).flatten/\h'.ab h4.nx=some ((aD T).map bH)/\h8.nx<=h'.nx/\t.pos<=s.length+1/\mz s t<=m/\lS s m acc t=R/\(t.bad=false->acc.length+1<=t.pos),s.length+3,?_,?_⟩
     ·exact⟨[],t4,.aa,rfl,hr8,OL.start _ _ _,ajE,amY _,hkN.1.lt,by unfold mz;split<;>omega,pq,λhb=>by have:=hkN.2 hb;simp;omega⟩
     ·rintro m vs h' ⟨acc,t,lv,rfl,hr9,hO,U6,hn9,hp9,hm,hq,hlen⟩;have hc9:h'.ab id=some [.str s,I t.pos,.bool t.bad]:=hr9.a;have UH:=ant hid hr9.nx;simp[OH];refine⟨λvs h10=>vs=[.ptr id 0,.ptr k5 22,.bool (!t.bad && !(decide (s.length<=t.pos)))]/\h10=h',?_,?_⟩
      ·cases hb:t.bad
       ·rw[hb]at hc9;simp[Ix,hc9];refine PV (x:=⟨s,t⟩) hr9.a UH ⟨hs,hp9⟩ ?_;simp[]
       ·rw[hb]at hc9;simp[Ix,hc9]
      ·rintro vs h10 ⟨rfl,rfl⟩;cases bN:(!t.bad && !(decide (s.length<=t.pos)))
       ·have ly:lS s m acc t=(acc,t):=by
         cases m with
         |zero=>rfl
         |succ m=>
          unfold lS;cases hb:t.bad
          ·rw[hb]at bN;simp at bN;simp[bN]
          ·simp
        rw[hq]at ly;subst ly;simp[Ge];simp[TF];simp[H2];refine⟨_,hr9,fp ?_ ?_⟩
        ·rw[<-hrv];exact mZ U6 hn4
        ·have hO2:OL 2 h8 h10 lv (nL acc).length (nL acc).flatten:=by rw[show(nL acc).length=acc.length by simp[nL]];exact hO
         exact nA (Tf acc) (yN acc) hO2 (by omega)
       ·simp only[amZ,anX,ano]at bN;obtain⟨hb,hlt⟩:=bN;obtain⟨m,rfl⟩:∃k,m=k+1:=⟨m-1,by unfold mz at hm;rw[hb]at hm;simp at hm;omega⟩;have hq2:=hq;unfold lS at hq2;rw[hb]at hq2;simp only[am7,ans,hlt]at hq2;have Je:=dD s t hp9;have hNb:=FX s t;have hM:eM=1099511627776:=rfl;rw[hM]at hNb;simp[Ge];refine kN (x:=⟨s,t⟩) hr9.a UH ⟨hs,hp9⟩ ?_;have aca:=hr9.cE hne (rdC ⟨s,a_ s t⟩);have abY:=hO.set (id:=id) (by omega) (.cells (rdC ⟨s,a_ s t⟩));have UN:(h10.set id (.cells (rdC ⟨s,a_ s t⟩))).ab h4.nx=some ((aD T).map bH):=(ak _ _ _ _ (by omega)).trans U6;have acx:(h10.set id (.cells (rdC ⟨s,a_ s t⟩))).nx=h10.nx:=rfl;simp only at aca ⊢;generalize h10.set id (.cells (rdC ⟨s,a_ s t⟩))=h11 at*;generalize cG s t=nv at*;generalize a_ s t=t5 at*;have N0:h11.ab k5=some [I 8,I 0,I 0,I 0,I 0,I 0,I 0,I 0,I 0,I 0,I 0,I 0,.bool false,.bool false,I 0,.aa,I 0,I 0,I 0,I 0,I 0,.str [],I 15,rv,.aa,.aa,I 0,I 0,.bool false,I 0,I 0,I 0,I 0,I 0,I N,lv,I 0]:=aca.b;obtain⟨lv',h12,aco,UI,ai1,UM⟩:=mI (bytes:=16) (tc:=clC nv) abY (by omega) rfl rfl (by have:=hlen hb;omega) (by omega);have hmx:iy h11 true (I nv) (I (-nv))=some (I (max nv (-nv)),h11):=pB _ _ _;have hkc:dK (h11.add (.cells [I (max nv (-nv)),.bool (decide (nv<0))])) 2 16 lv (.rsl h11.nx 0 1 2)=some (lv',h12):=aco;simp(disch:=first|go_size|fail)[N0,hmx];simp(disch:=first|go_size|fail)[PO];rw[hkc];have agp:=aca.new ⟨hid,hk5⟩ (by omega) λi hi=>UM i (by omega)
        have Xv:h12.ab k5=some [I 8,I 0,I 0,I 0,I 0,I 0,I 0,I 0,I 0,I 0,I 0,I 0,.bool false,.bool false,I 0,.aa,I 0,I 0,I 0,I 0,I 0,.str [],I 15,rv,.aa,.aa,I 0,I 0,.bool false,I 0,I 0,I 0,I 0,I 0,I N,lv,I 0]:=agp.b;have UX:h12.ab h4.nx=some ((aD T).map bH):=by rw[ay (UM h4.nx (by omega))];exact UN
        have hst:kSt h12 1 (.ptr k5 35) lv'=some (.undef,h12.set k5 (.cells (dm 15 rv N lv'))):=by
         have abX:=UI;rcases abX with⟨_,h0,_⟩|⟨k,hk0,_⟩
         ·omega
         ·rw[hk0];simp(disch:=first|go_size|fail)[Xv];rfl
        simp[Xv];rw[hst];simp[];refine⟨m,by omega,acc++[nv],t5,lv',agp.sZ hne (dm 15 rv N lv'),?_,(by rw[amU (by omega)];exact UX),by omega,Je.1.lt,?_,hq2,?_⟩
        ·have e1:(acc++[nv]).length=acc.length+1:=by simp
         have e2:(nL (acc++[nv])).flatten=(nL acc).flatten++clC nv:=by simp[nL]
         rw[e1,e2];exact UI.set (by omega) _
        ·unfold mz at hm ⊢;rw[hb]at hm;simp only[am7,ans]at hm;cases hu':t5.bad
         ·have:=Je.2 hu';have:=Je.1.lt;simp only[am7,ans];omega
         ·simp
        ·intro hu';have:=Je.2 hu';have:=hlen hb;rw[amX];simp only[am2];omega
    ·rw[amU w4];have w4':¬w=[117,112,100,97,116,101]:=w4;have hc2:h2.ab id=some [.str s,I t2.pos,.bool t2.bad]:=hr2.a;simp[w1',w2',w3',w4'];simp[SA,hc2];exact⟨_,hr2.cE hne _,fp .dX .dX⟩
def e54:QE prog:=
 ⟨54,λargs h Q=>∃id k5 x,args=[.ptr id 0,.ptr k5 22]/\h.ab id=some (rdC x)/\h.ab k5=some (dm 0 .aa 0 .aa)/\id<h.nx/\k5<h.nx/\id≠k5/\(x.s.length<=1000000/\x.t.pos<=x.s.length)/\Q (.tup []) ((h.set id (.cells (rdC ⟨x.s,(iv x.s x.t).2⟩))).set k5 (.cells (lb (iv x.s x.t).1))),λargs h Q ⟨id,k5,x,h1,h2,h3,h4,h5,h6,h7,h8⟩=>by
  subst h1;exact⟨_,_,Io h id k5 x h2 h3 h4 h5 h6 h7,h8⟩⟩
theorem ady{tl h}{id k5:Nat}{x:Rd}{Q:QT}(hc:h.ab id=some (rdC x))(hk:h.ab k5=some (dm 0 .aa 0 .aa))(hid:id<h.nx)(hk5:k5<h.nx)(hne:id≠k5)(hx:x.s.length<=1000000/\x.t.pos<=x.s.length)
  (hq:Q (.tup []) ((h.set id (.cells (rdC ⟨x.s,(iv x.s x.t).2⟩))).set k5 (.cells (lb (iv x.s x.t).1)))):tb (e54::tl) 54 [.ptr id 0,.ptr k5 22] h Q:=by
 rw[dJ _ tl 54 _ _ _ rfl];exact⟨id,k5,x,rfl,hc,hk,hid,hk5,hne,hx,hq⟩
def zIn:LA:=[I 0,I 0,I 0,I 0,I 0,I 0,I 0,I 0,I 0,I 0,I 0,I 0,.bool false,.bool false,I 0,.aa,I 0,I 0,I 0,I 0,I 0,.str [],I 0,.aa,.aa,.aa,I 0,I 0,.bool false,I 0,I 0,I 0,I 0,I 0,I 0,.aa,I 0]
def stN(cs:LA)(off:Nat)(vs:LA):LA:=cs.take off++vs++cs.drop (off+vs.length)
theorem bz{cs vs:LA}{off:Nat}(h:off+vs.length<=cs.length):a7 cs off vs=some (stN cs off vs):=by
 unfold a7 stN;rw[am1 h]
theorem cn{cs:LA}{off:Nat}{v:AV}(h:off<cs.length):a7 cs off [v]=some (stN cs off [v]):=bz (by simp;omega)
theorem cK{cs:LA}{off:Nat}{a b:AV}(h:off+2<=cs.length):a7 cs off [a,b]=some (stN cs off [a,b]):=bz (by simp;omega)
theorem cV{cs:LA}{off:Nat}{a b c:AV}(h:off+3<=cs.length):a7 cs off [a,b,c]=some (stN cs off [a,b,c]):=bz (by simp;omega)
theorem cT{cs:LA}{off:Nat}{a b c d e f:AV}(h:off+6<=cs.length):a7 cs off [a,b,c,d,e,f]=some (stN cs off [a,b,c,d,e,f]):=bz (by simp;omega)
theorem Jq{cs vs:LA}{off:Nat}(h:off+vs.length<=cs.length):(stN cs off vs).length=cs.length:=by
 unfold stN;simp only[amX,anN,am3];omega
theorem wH{cs vs:LA}{off:Nat}(h1:dj cs=true)(h2:dj vs=true):dj (stN cs off vs)=true:=by
 unfold dj stN at*;rw[anK]at*;intro x hx;simp only[anP]at hx;rcases hx with(hx|hx)|hx
 ·exact h1 x (List.mem_of_mem_take hx)
 ·exact h2 x hx
 ·exact h1 x (List.mem_of_mem_drop hx)
theorem cA{H:AH}{cs ds vs ws:LA}{off:Nat}(h1:ea H false cs ds)(h2:ea H false vs ws):ea H false (stN cs off vs) (stN ds off ws):=by
 have hl:vs.length=ws.length:=((bK _ _ _ _).1 h2).1;have hc:=(bK _ _ _ _).1 h1;unfold stN;rw[<-hl];refine ea.app (ea.app ?_ h2) ?_
 ·rw[bK];refine⟨by simp[hc.1],λi c d hi hd=>?_⟩;rw[anZ]at hi hd;split at hi
  ·rename_i hlt;rw[am1 hlt]at hd;exact hc.2 i c d hi hd
  ·cases hi
 ·rw[bK];refine⟨by simp[hc.1],λi c d hi hd=>?_⟩;rw[anl]at hi hd;exact hc.2 _ c d hi hd
theorem ja(H:AH):ea H false zIn zIn:=by
 unfold zIn;repeat' (first|exact trivial|refine And.intro ?_ ?_|exact .int _ _|exact .bool _|exact .str _|exact .dX)
structure L3(h h':AH)(c1 c2:LA):Prop where
 r:h'.ab h.nx=some zIn
 a:h'.ab (h.nx+1)=some c1
 b:h'.ab (h.nx+2)=some c2
 nx:h.nx+3<=h'.nx
 get:∀i,i<h.nx->h'.H.get i=h.H.get i
 len:c2.length=37
 one:dj c2=true
theorem L3.cE{h h':AH}{c1 c2:LA}(l:L3 h h' c1 c2)(d:LA):L3 h (h'.set (h.nx+1) (.cells d)) d c2:=
 ⟨by rw[ak _ _ _ _ (by omega)];exact l.r,an _ _ _ _ rfl,by rw[ak _ _ _ _ (by omega)];exact l.b,l.nx,λi hi=>by rw[au,amU (by omega)];exact l.get i hi,l.len,l.one⟩
theorem L3.sZ{h h':AH}{c1 c2:LA}(l:L3 h h' c1 c2)(d:LA)(hd:d.length=37)(ho:dj d=true):L3 h (h'.set (h.nx+2) (.cells d)) c1 d:=
 ⟨by rw[ak _ _ _ _ (by omega)];exact l.r,by rw[ak _ _ _ _ (by omega)];exact l.a,an _ _ _ _ rfl,l.nx,λi hi=>by rw[au,amU (by omega)];exact l.get i hi,hd,ho⟩
theorem L3.st{h h':AH}{c1 c2:LA}(l:L3 h h' c1 c2)(off:Nat)(vs:LA)(hb:off+vs.length<=37)(hv:dj vs=true):L3 h (h'.set (h.nx+2) (.cells (stN c2 off vs))) c1 (stN c2 off vs):=
 l.sZ _ (by rw[Jq (by rw[l.len];exact hb)];exact l.len) (wH l.one hv)
theorem L3.bump{h h':AH}{c1 c2:LA}(l:L3 h h' c1 c2){k:Nat}(hk:h'.nx<=k):L3 h ⟨h'.H,k⟩ c1 c2:=⟨l.r,l.a,l.b,ane l.nx hk,l.get,l.len,l.one⟩
theorem L3.new{h h' h2:AH}{c1 c2:LA}(l:L3 h h' c1 c2)(hn:h'.nx<=h2.nx)(hg:∀i,i<h'.nx->h2.H.get i=h'.H.get i):L3 h h2 c1 c2:=
 have n1:=l.nx
 ⟨by rw[ay (hg _ (by omega))];exact l.r,by rw[ay (hg _ (by omega))];exact l.a,by rw[ay (hg _ (by omega))];exact l.b,by omega,λi hi=>by rw[hg i (by omega)];exact l.get i hi,l.len,l.one⟩
def Up(h h':AH)(c2 d2:LA):Prop:=∀h2:AH,h'.nx<=h2.nx->(∀i,h.nx+3<=i->i<h'.nx->h2.H.get i=h'.H.get i)->ea (fresh h2 h.nx) false c2 d2
theorem Up.plain{h h':AH}{c2 d2:LA}(h1:∀H:AH,ea H false c2 d2):Up h h' c2 d2:=λ_ _ _=>h1 _
def LM(h:AH)(s:Str)(x:List AV×RS):NT:=λvs h'=>vs=[.ptr h.nx 0,.ptr (h.nx+1) 0,.ptr (h.nx+2) 0]/\∃c2,L3 h h' (rdC ⟨s,x.2⟩) c2/\Up h h' c2 x.1
def lE:List (QE prog):=[e46,e47,e39,e48,e49,e50,e52,e42,e51,e44,e53,e54]
theorem rP{s:Str}{t:RS}(hs:s.length<=1000000):(aP s t).length<=1000000/\∀c∈aP s t,c≠32:=by
 unfold aP;have:=mD (bl false) (s.drop t.pos);rw[am3]at this;refine⟨by omega,λc hc=>?_⟩;have eQ:=List.all_takeWhile (l:=s.drop t.pos) (p:=bl false);rw[anK]at eQ;have:=eQ c hc;rintro rfl;simp[bl]at this
def yB(s:Str)(t:RS):List AV×RS:=(stN (stN zIn 0 [I 3]) 9 [I (cG s t)],a_ s t)
theorem aam{h h1:AH}{s:Str}{t:RS}(hs:s.length<=1000000)(hp:t.pos<=s.length)(hL:L3 h h1 (rdC ⟨s,t⟩) zIn):
  dL (tb lE) (.ptr h.nx 0) (.ptr (h.nx+1) 0) (.ptr (h.nx+2) 0) (.str gQ) h1 (LM h s (yB s t)):=by
 unfold yB;have hb:=hL.b;have hlen:=hL.len;have hnx:=hL.nx;simp(disch:=first|go_size|fail)[dL,gQ,hb,cn,cK,cV,cT];clear hb hlen hnx;have l_1:=hL.st 0 [I 3] (by simp) rfl;generalize h1.set (h.nx+2) (.cells (stN (zIn) 0 [I 3]))=h_1 at*;unfold lE;simp[];refine kN (x:=⟨s,t⟩) l_1.a (by have:=l_1.nx;omega) ⟨hs,by simp only;omega⟩ ?_;have l_2:=l_1.cE (rdC ⟨s,a_ s (t)⟩);have p2:=jf s (t) hp;simp only at l_2 ⊢;generalize h_1.set (h.nx+1) (.cells (rdC ⟨s,a_ s (t)⟩))=h_2 at*;generalize cG s (t)=n1 at*;generalize a_ s (t)=t_2 at*;have hb:=l_2.b;have hlen:=l_2.len;have hnx:=l_2.nx;simp[hb,cn,cK,cV,cT];clear hb hlen hnx;exact⟨rfl,_,l_2.st 9 [I n1] (by simp) rfl,.plain λH=>cA (cA (ja H) ⟨.int _ _,trivial⟩) ⟨.int _ _,trivial⟩⟩
def zl(s:Str)(t:RS):List AV×RS:=(stN (stN (stN zIn 0 [I 4]) 10 [I (cG s t)]) 11 [I (cG s (a_ s t))],a_ s (a_ s t))
theorem aa0{h h1:AH}{s:Str}{t:RS}(hs:s.length<=1000000)(hp:t.pos<=s.length)(hL:L3 h h1 (rdC ⟨s,t⟩) zIn):
  dL (tb lE) (.ptr h.nx 0) (.ptr (h.nx+1) 0) (.ptr (h.nx+2) 0) (.str gK) h1 (LM h s (zl s t)):=by
 unfold zl;have hb:=hL.b;have hlen:=hL.len;have hnx:=hL.nx;simp(disch:=first|go_size|fail)[dL,gK,hb,cn,cK,cV,cT];clear hb hlen hnx;have l_1:=hL.st 0 [I 4] (by simp) rfl;generalize h1.set (h.nx+2) (.cells (stN (zIn) 0 [I 4]))=h_1 at*;unfold lE;simp[];refine kN (x:=⟨s,t⟩) l_1.a (by have:=l_1.nx;omega) ⟨hs,by simp only;omega⟩ ?_;have l_2:=l_1.cE (rdC ⟨s,a_ s (t)⟩);have p2:=jf s (t) hp;simp only at l_2 ⊢;generalize h_1.set (h.nx+1) (.cells (rdC ⟨s,a_ s (t)⟩))=h_2 at*;generalize cG s (t)=n1 at*;generalize a_ s (t)=t_2 at*;have hb:=l_2.b;have hlen:=l_2.len;have hnx:=l_2.nx;simp(disch:=first|go_size|fail)[JW,hb,cn,cK,cV,cT];clear hb hlen hnx;have l_3:=l_2.st 10 [I n1] (by simp) rfl;generalize h_2.set (h.nx+2) (.cells (stN (stN (zIn) 0 [I 4]) 10 [I n1]))=h_3 at*;refine kN (x:=⟨s,t_2⟩) l_3.a (by have:=l_3.nx;omega) ⟨hs,by simp only;omega⟩ ?_;have l_4:=l_3.cE (rdC ⟨s,a_ s (t_2)⟩);have p4:=jf s (t_2) p2;simp only at l_4 ⊢;generalize h_3.set (h.nx+1) (.cells (rdC ⟨s,a_ s (t_2)⟩))=h_4 at*;generalize cG s (t_2)=n2 at*;generalize a_ s (t_2)=t_4 at*;have hb:=l_4.b;have hlen:=l_4.len;have hnx:=l_4.nx;simp[Kn,hb,cn,cK,cV,cT];clear hb hlen hnx;exact⟨rfl,_,l_4.st 11 [I n2] (by simp) rfl,.plain λH=>cA (cA (cA (ja H) ⟨.int _ _,trivial⟩) ⟨.int _ _,trivial⟩) ⟨.int _ _,trivial⟩⟩
def bu(t:RS)(b:Bool):RS:=⟨t.pos,t.bad||b⟩
def MI(s:Str)(t:RS):List AV×RS:=
 let t2:=aN s t
 let o:=jg gM (aP s t2)
 let t3:=bu (aX s t2) (decide (o<0))
 let t4:=a_ s t3
 let t5:=a_ s t4
 let t6:=a_ s t5
 let t7:=a_ s t6
 (stN (stN (stN (stN (stN (stN zIn 0 [I 1]) 1 [I o,I (cG s t3),I 0,I 0,I 0,I 0]) 3 [I (cG s t4)]) 4 [I (cG s t5)]) 5 [I (cG s t6)]) 6 [I (cG s t7)],a_ s t7)
theorem af9{h h1:AH}{s:Str}{t:RS}(hs:s.length<=1000000)(hp:t.pos<=s.length)(hL:L3 h h1 (rdC ⟨s,t⟩) zIn):
  dL (tb lE) (.ptr h.nx 0) (.ptr (h.nx+1) 0) (.ptr (h.nx+2) 0) (.str de) h1 (LM h s (MI s t)):=by
 unfold MI;have hb:=hL.b;have hlen:=hL.len;have hnx:=hL.nx;simp(disch:=first|go_size|fail)[dL,de,hb,cn,cK,cV,cT];clear hb hlen hnx;have l_1:=hL.st 0 [I 1] (by simp) rfl;generalize h1.set (h.nx+2) (.cells (stN (zIn) 0 [I 1]))=h_1 at*;unfold lE;simp(disch:=first|go_size|fail)[];refine qd (x:=⟨s,t⟩) l_1.a (by have:=l_1.nx;omega) ⟨hs,by simp only;omega⟩ ?_;have l_2:=l_1.cE (rdC ⟨s,aN s (t)⟩);have p2:=qi s (t) hp;simp only at l_2 ⊢;generalize h_1.set (h.nx+1) (.cells (rdC ⟨s,aN s (t)⟩))=h_2 at*;generalize aN s (t)=t_2 at*;refine R6 trivial ?_;have hb:=l_2.b;have hlen:=l_2.len;have hnx:=l_2.nx;simp(disch:=first|go_size|fail)[OQ,hb,cn,cK,cV,cT];clear hb hlen hnx;have ack:=rP (s:=s) (t:=t_2) hs;refine vP (x:=⟨s,t_2⟩) l_2.a (by have:=l_2.nx;omega) ⟨⟨hs,by simp only;omega⟩,p2⟩ ?_;have l_3:=l_2.cE (rdC ⟨s,aX s (t_2)⟩);have p3:=(gL s (t_2) p2).2;simp only at l_3 ⊢;generalize h_2.set (h.nx+1) (.cells (rdC ⟨s,aX s (t_2)⟩))=h_3 at*;generalize aP s (t_2)=w2 at*;generalize aX s (t_2)=t_3 at*;refine Ys (l:=gM) (w:=w2) (by decide) ?_;generalize jg gM w2=o at*;refine⟨λvs h'=>vs=[.ptr h.nx 0,.ptr (h.nx+1) 0,.ptr (h.nx+2) 0,I o]/\L3 h h' (rdC ⟨s,bu t_3 (decide (o<0))⟩) (stN (zIn) 0 [I 1]),?_,?_⟩
 ·have ha:h_3.ab (h.nx+1)=some [.str s,I t_3.pos,.bool t_3.bad]:=l_3.a;cases hb:t_3.bad
  ·rw[hb]at ha;simp[F5,ha];simp[Gr,ha];have hx:=l_3.cE (rdC ⟨s,bu t_3 (decide (o<0))⟩);simp only[bu,hb,anF,anR,rdC]at hx ⊢;exact hx
  ·rw[hb]at ha;simp[F5,ha];simp[Gr,ha];have hx:=l_3.cE (rdC ⟨s,bu t_3 (decide (o<0))⟩);simp only[bu,hb,anF,anR,rdC]at hx ⊢;exact hx
 ·rintro vs h' ⟨rfl,M1⟩;have q1:(bu t_3 (decide (o<0))).pos<=s.length:=p3;generalize bu t_3 (decide (o<0))=u1 at*;simp(disch:=first|go_size|fail)[Q_];refine kN (x:=⟨s,u1⟩) M1.a (by have:=M1.nx;omega) ⟨hs,by simp only;omega⟩ ?_;have l_4:=M1.cE (rdC ⟨s,a_ s (u1)⟩);have p4:=jf s (u1) q1;simp only at l_4 ⊢;generalize h'.set (h.nx+1) (.cells (rdC ⟨s,a_ s (u1)⟩))=h_4 at*;generalize cG s (u1)=n1 at*;generalize a_ s (u1)=t_4 at*;simp(disch:=first|go_size|fail)[SE];have hb:=l_4.b;have hlen:=l_4.len;have hnx:=l_4.nx;simp(disch:=first|go_size|fail)[hb,cn,cK,cV,cT];clear hb hlen hnx;have l_5:=l_4.st 1 [I o,I n1,I 0,I 0,I 0,I 0] (by simp) rfl;generalize h_4.set (h.nx+2) (.cells (stN (stN (zIn) 0 [I 1]) 1 [I o,I n1,I 0,I 0,I 0,I 0]))=h_5 at*;refine kN (x:=⟨s,t_4⟩) l_5.a (by have:=l_5.nx;omega) ⟨hs,by simp only;omega⟩ ?_;have l_6:=l_5.cE (rdC ⟨s,a_ s (t_4)⟩);have p6:=jf s (t_4) p4;simp only at l_6 ⊢;generalize h_5.set (h.nx+1) (.cells (rdC ⟨s,a_ s (t_4)⟩))=h_6 at*;generalize cG s (t_4)=n2 at*;generalize a_ s (t_4)=t_6 at*;have hb:=l_6.b;have hlen:=l_6.len;have hnx:=l_6.nx;simp(disch:=first|go_size|fail)[Tc,hb,cn,cK,cV,cT];clear hb hlen hnx;have l_7:=l_6.st 3 [I n2] (by simp) rfl;generalize h_6.set (h.nx+2) (.cells (stN (stN (stN (zIn) 0 [I 1]) 1 [I o,I n1,I 0,I 0,I 0,I 0]) 3 [I n2]))=h_7 at*;refine kN (x:=⟨s,t_6⟩) l_7.a (by have:=l_7.nx;omega) ⟨hs,by simp only;omega⟩ ?_;have l_8:=l_7.cE (rdC ⟨s,a_ s (t_6)⟩);have p8:=jf s (t_6) p6;simp only at l_8 ⊢;generalize h_7.set (h.nx+1) (.cells (rdC ⟨s,a_ s (t_6)⟩))=h_8 at*
  generalize cG s (t_6)=n3 at*;generalize a_ s (t_6)=t_8 at*;have hb:=l_8.b;have hlen:=l_8.len;have hnx:=l_8.nx;simp(disch:=first|go_size|fail)[ON,hb,cn,cK,cV,cT];clear hb hlen hnx;have l_9:=l_8.st 4 [I n3] (by simp) rfl;generalize h_8.set (h.nx+2) (.cells (stN (stN (stN (stN (zIn) 0 [I 1]) 1 [I o,I n1,I 0,I 0,I 0,I 0]) 3 [I n2]) 4 [I n3]))=h_9 at*;refine kN (x:=⟨s,t_8⟩) l_9.a (by have:=l_9.nx;omega) ⟨hs,by simp only;omega⟩ ?_;have CY:=l_9.cE (rdC ⟨s,a_ s (t_8)⟩);have p10:=jf s (t_8) p8;simp only at CY ⊢;generalize h_9.set (h.nx+1) (.cells (rdC ⟨s,a_ s (t_8)⟩))=h_10 at*;generalize cG s (t_8)=n4 at*;generalize a_ s (t_8)=t_10 at*;have hb:=CY.b;have hlen:=CY.len;have hnx:=CY.nx;simp(disch:=first|go_size|fail)[RE,hb,cn,cK,cV,cT];clear hb hlen hnx;have CZ:=CY.st 5 [I n4] (by simp) rfl;generalize h_10.set (h.nx+2) (.cells (stN (stN (stN (stN (stN (zIn) 0 [I 1]) 1 [I o,I n1,I 0,I 0,I 0,I 0]) 3 [I n2]) 4 [I n3]) 5 [I n4]))=h_11 at*;refine kN (x:=⟨s,t_10⟩) CZ.a (by have:=CZ.nx;omega) ⟨hs,by simp only;omega⟩ ?_;have CX:=CZ.cE (rdC ⟨s,a_ s (t_10)⟩);have p12:=jf s (t_10) p10;simp only at CX ⊢;generalize h_11.set (h.nx+1) (.cells (rdC ⟨s,a_ s (t_10)⟩))=h_12 at*;generalize cG s (t_10)=n5 at*;generalize a_ s (t_10)=t_12 at*;have hb:=CX.b;have hlen:=CX.len;have hnx:=CX.nx;simp(disch:=first|go_size|fail)[P2,hb,cn,cK,cV,cT];clear hb hlen hnx;exact⟨rfl,_,CX.st 6 [I n5] (by simp) rfl,.plain λH=>cA (cA (cA (cA (cA (cA (ja H) ⟨.int _ _,trivial⟩) ⟨.int _ _,.int _ _,.int _ _,.int _ _,.int _ _,.int _ _,trivial⟩) ⟨.int _ _,trivial⟩) ⟨.int _ _,trivial⟩) ⟨.int _ _,trivial⟩) ⟨.int _ _,trivial⟩⟩
def my(w:Str):LA:=[I (bL w).1,I (bL w).2.1]
def mV(w:Str):Bool:=decide (iX w≠0)||decide ((fQ w).length≠1)
theorem aeL{w:Str}(h:mV w=false):fQ w=[my w]:=by
 simp only[mV,anC,ano]at h;have h2:=h.2;unfold fQ at h2 ⊢;split
 ·rfl
 ·rename_i hc;rw[amU hc]at h2;simp at h2
def MD(s:Str)(t:RS):List AV×RS:=
 let t2:=aN s t
 let w:=aP s t2
 let t3:=bu (aX s t2) (mV w)
 (stN (if t3.bad=true then stN zIn 0 [I 2]else stN (stN zIn 0 [I 2]) 7 (my w)) 9 [I (cG s t3)],a_ s t3)
theorem aeD{h h1:AH}{s:Str}{t:RS}(hs:s.length<=1000000)(hp:t.pos<=s.length)(hL:L3 h h1 (rdC ⟨s,t⟩) zIn):
  dL (tb lE) (.ptr h.nx 0) (.ptr (h.nx+1) 0) (.ptr (h.nx+2) 0) (.str kh) h1 (LM h s (MD s t)):=by
 unfold MD;have hb:=hL.b;have hlen:=hL.len;have hnx:=hL.nx;simp(disch:=first|go_size|fail)[dL,kh,hb,cn,cK,cV,cT];clear hb hlen hnx;have l_1:=hL.st 0 [I 2] (by simp) rfl;generalize h1.set (h.nx+2) (.cells (stN (zIn) 0 [I 2]))=h_1 at*;unfold lE;simp(disch:=first|go_size|fail)[];refine qd (x:=⟨s,t⟩) l_1.a (by have:=l_1.nx;omega) ⟨hs,by simp only;omega⟩ ?_;have l_2:=l_1.cE (rdC ⟨s,aN s (t)⟩);have p2:=qi s (t) hp;simp only at l_2 ⊢;generalize h_1.set (h.nx+1) (.cells (rdC ⟨s,aN s (t)⟩))=h_2 at*;generalize aN s (t)=t_2 at*;have ack:=rP (s:=s) (t:=t_2) hs;refine vP (x:=⟨s,t_2⟩) l_2.a (by have:=l_2.nx;omega) ⟨⟨hs,by simp only;omega⟩,p2⟩ ?_;have l_3:=l_2.cE (rdC ⟨s,aX s (t_2)⟩);have p3:=(gL s (t_2) p2).2;simp only at l_3 ⊢;generalize h_2.set (h.nx+1) (.cells (rdC ⟨s,aX s (t_2)⟩))=h_3 at*;generalize aP s (t_2)=w2 at*;generalize aX s (t_2)=t_3 at*;have hb:=l_3.b;have hlen:=l_3.len;have hnx:=l_3.nx;simp(disch:=first|go_size|fail)[LS,hb,cn,cK,cV,cT];clear hb hlen hnx;refine af8 (w:=w2) ack ?_;simp(disch:=first|go_size|fail)[Rc];refine⟨λvs h'=>vs=[.ptr h.nx 0,.ptr (h.nx+1) 0,.ptr (h.nx+2) 0,.psl (fQ w2)]/\L3 h h' (rdC ⟨s,bu t_3 (mV w2)⟩) (stN (zIn) 0 [I 2]),?_,?_⟩
 ·have ha:h_3.ab (h.nx+1)=some [.str s,I t_3.pos,.bool t_3.bad]:=l_3.a;have hx:=l_3.cE (rdC ⟨s,bu t_3 (mV w2)⟩);unfold mV at hx ⊢;generalize fQ w2=L at*;generalize iX w2=E at*;cases hb:t_3.bad
  ·rw[hb]at ha;simp only[bu,hb,anF,anR,rdC]at hx ⊢;by_cases hE:E=0
   ·have hq:((L.length:Int) != 1)=decide (L.length≠1):=by
     by_cases hl:L.length=1
     ·simp[hl]
     ·have:¬(L.length:Int)=1:=by omega
      simp[hl,this]
    simp only[hE,ne_eq,aot,aoz,anF,hq]at hx ⊢;simp[Ag,ha,hE];simp[Am,ha,hq];simpa using hx
   ·simp only[hE,ne_eq,anp,decide_true,anR]at hx ⊢;simp[Ag,ha,hE];simp[Am,ha];exact hx
  ·rw[hb]at ha;simp only[bu,hb,anF,anR,rdC]at hx ⊢;simp[Ag,ha];simp[Am,ha];exact hx
 ·rintro vs h' ⟨rfl,M1⟩;have q1:(bu t_3 (mV w2)).pos<=s.length:=p3;have hcb:(bu t_3 (mV w2)).bad=false->fQ w2=[my w2]:=λhf=>aeL (by simp only[bu,anC]at hf;exact hf.2)
  generalize bu t_3 (mV w2)=u1 at*;have ha:h'.ab (h.nx+1)=some [.str s,I u1.pos,.bool u1.bad]:=M1.a;simp[SJ,ha];refine⟨λvs h2=>vs=[.ptr h.nx 0,.ptr (h.nx+1) 0,.ptr (h.nx+2) 0]/\L3 h h2 (rdC ⟨s,u1⟩) (if u1.bad=true then stN (zIn) 0 [I 2]else stN (stN (zIn) 0 [I 2]) 7 (my w2)),?_,?_⟩
  ·cases hb:u1.bad
   ·have hLk:=hcb hb;have hbb:=M1.b;have hlen:=M1.len;rw[hLk];have hix:∀h:AH,aF h 2 (.psl [my w2]) (I 0)=some (.cd (my w2),h):=λh=>da (i:=0) rfl rfl
    have hld:∀h:AH,bj h 2 (.cd (my w2))=some (.agg (my w2),h):=λh=>rfl
    simp[Hr];rw[hix];simp(disch:=first|go_size|fail)[hld];have hst:=M1.st 7 (my w2) (by simp[my]) rfl;unfold my at hst ⊢;simp(disch:=first|go_size|fail)[hbb,cK];exact hst
   ·simp(disch:=first|go_size|fail)[Hr];exact M1
  ·rintro vs h2 ⟨rfl,M2⟩;generalize hc2:(if u1.bad=true then stN (zIn) 0 [I 2]else stN (stN (zIn) 0 [I 2]) 7 (my w2))=c2 at*;simp(disch:=first|go_size|fail)[Ub];refine kN (x:=⟨s,u1⟩) M2.a (by have:=M2.nx;omega) ⟨hs,by simp only;omega⟩ ?_;have l_4:=M2.cE (rdC ⟨s,a_ s (u1)⟩);have p4:=jf s (u1) q1;simp only at l_4 ⊢;generalize h2.set (h.nx+1) (.cells (rdC ⟨s,a_ s (u1)⟩))=h_4 at*;generalize cG s (u1)=n1 at*;generalize a_ s (u1)=t_4 at*;have hb:=l_4.b;have hlen:=l_4.len;have hnx:=l_4.nx;simp(disch:=first|go_size|fail)[hb,cn,cK,cV,cT];clear hb hlen hnx;refine⟨rfl,_,l_4.st 9 [I n1] (by simp) rfl,.plain λH=>cA ?_ ⟨.int _ _,trivial⟩⟩;rw[<-hc2];split
   ·exact cA (ja H) ⟨.int _ _,trivial⟩
   ·exact cA (cA (ja H) ⟨.int _ _,trivial⟩) ⟨.int _ _,.int _ _,trivial⟩
def gz(a b:Str):Bool:=(decide (a≠jP)&&decide (a≠nu))||(decide (b≠jx)&&decide (b≠ji))
def yU(s:Str)(t:RS):List AV×RS:=
 let t2:=aN s t
 let a:=aP s t2
 let t3:=aN s (aX s t2)
 let b:=aP s t3
 let t4:=bu (aX s t3) (gz a b)
 (stN (stN (stN zIn 0 [I 5]) 12 [.bool (a==jP),.bool (b==jx),I 0]) 14 [I (cG s t4)],a_ s t4)
theorem Zj{h h1:AH}{s:Str}{t:RS}(hs:s.length<=1000000)(hp:t.pos<=s.length)(hL:L3 h h1 (rdC ⟨s,t⟩) zIn):
  dL (tb lE) (.ptr h.nx 0) (.ptr (h.nx+1) 0) (.ptr (h.nx+2) 0) (.str gH) h1 (LM h s (yU s t)):=by
 unfold yU;have hb:=hL.b;have hlen:=hL.len;have hnx:=hL.nx;simp(disch:=first|go_size|fail)[dL,gH,hb,cn,cK,cV,cT];clear hb hlen hnx;have l_1:=hL.st 0 [I 5] (by simp) rfl;generalize h1.set (h.nx+2) (.cells (stN (zIn) 0 [I 5]))=h_1 at*;unfold lE;simp(disch:=first|go_size|fail)[];refine qd (x:=⟨s,t⟩) l_1.a (by have:=l_1.nx;omega) ⟨hs,by simp only;omega⟩ ?_;have l_2:=l_1.cE (rdC ⟨s,aN s (t)⟩);have p2:=qi s (t) hp;simp only at l_2 ⊢;generalize h_1.set (h.nx+1) (.cells (rdC ⟨s,aN s (t)⟩))=h_2 at*;generalize aN s (t)=t_2 at*;simp(disch:=first|go_size|fail)[Js];have ack:=rP (s:=s) (t:=t_2) hs;refine vP (x:=⟨s,t_2⟩) l_2.a (by have:=l_2.nx;omega) ⟨⟨hs,by simp only;omega⟩,p2⟩ ?_;have l_3:=l_2.cE (rdC ⟨s,aX s (t_2)⟩);have p3:=(gL s (t_2) p2).2;simp only at l_3 ⊢;generalize h_2.set (h.nx+1) (.cells (rdC ⟨s,aX s (t_2)⟩))=h_3 at*;generalize aP s (t_2)=wa at*;generalize aX s (t_2)=t_3 at*;refine qd (x:=⟨s,t_3⟩) l_3.a (by have:=l_3.nx;omega) ⟨hs,by simp only;omega⟩ ?_;have l_4:=l_3.cE (rdC ⟨s,aN s (t_3)⟩);have p4:=qi s (t_3) p3;simp only at l_4 ⊢;generalize h_3.set (h.nx+1) (.cells (rdC ⟨s,aN s (t_3)⟩))=h_4 at*;generalize aN s (t_3)=t_4 at*;have alU:=rP (s:=s) (t:=t_4) hs;refine vP (x:=⟨s,t_4⟩) l_4.a (by have:=l_4.nx;omega) ⟨⟨hs,by simp only;omega⟩,p4⟩ ?_;have l_5:=l_4.cE (rdC ⟨s,aX s (t_4)⟩);have p5:=(gL s (t_4) p4).2;simp only at l_5 ⊢;generalize h_4.set (h.nx+1) (.cells (rdC ⟨s,aX s (t_4)⟩))=h_5 at*;generalize aP s (t_4)=wb at*;generalize aX s (t_4)=t_5 at*;have wd:jP=[100,97,114,107]:=rfl;have wl:nu=[108,105,103,104,116]:=rfl
 have wh:jx=[104,105,103,104]:=rfl;have wn:ji=[110,111,114,109,97,108]:=rfl;simp(disch:=first|go_size|fail)[];have hb:=l_5.b;have hlen:=l_5.len;have hnx:=l_5.nx;simp(disch:=first|go_size|fail)[hb,cn,cK,cV,cT];clear hb hlen hnx;rw[<-wd,<-wh];have l_6:=l_5.st 12 [.bool (wa==jP),.bool (wb==jx),I 0] (by simp) rfl;generalize h_5.set (h.nx+2) (.cells (stN (stN (zIn) 0 [I 5]) 12 [.bool (wa==jP),.bool (wb==jx),I 0]))=h_6 at*;refine⟨λvs h'=>vs=[.ptr h.nx 0,.ptr (h.nx+1) 0,.ptr (h.nx+2) 0]/\L3 h h' (rdC ⟨s,bu t_5 (gz wa wb)⟩) (stN (stN (zIn) 0 [I 5]) 12 [.bool (wa==jP),.bool (wb==jx),I 0]),?_,?_⟩
 ·have ha:h_6.ab (h.nx+1)=some [.str s,I t_5.pos,.bool t_5.bad]:=l_6.a;have hx:=l_6.cE (rdC ⟨s,bu t_5 (gz wa wb)⟩);generalize stN (stN zIn 0 [I 5]) 12 [.bool (wa==jP),.bool (wb==jx),I 0]=CC at*;cases hb:t_5.bad
  ·rw[hb]at ha;by_cases a1:wa=[100,97,114,107]
   ·by_cases b1:wb=[104,105,103,104]
    ·have hmd:gz wa wb=false:=by unfold gz;rw[wd,wl,wh,wn];simp[a1,b1]
     simp only[bu,hb,anF,anR,rdC,hmd]at hx ⊢;simp(disch:=first|go_size|fail)[nC,ha,a1];simp(disch:=first|go_size|fail)[kZ,a1,b1];simp[la,ha,b1];exact hx
    ·by_cases b2:wb=[110,111,114,109,97,108]
     ·have hmd:gz wa wb=false:=by unfold gz;rw[wd,wl,wh,wn];simp[a1,b1,b2]
      simp only[bu,hb,anF,anR,rdC,hmd]at hx ⊢;simp[nC,ha,a1];simp[kZ,a1,b1,b2];simp[la,ha,b1,b2];exact hx
     ·have hmd:gz wa wb=true:=by unfold gz;rw[wd,wl,wh,wn];simp[a1,b1,b2]
      simp only[bu,hb,anF,anR,rdC,hmd]at hx ⊢;simp[nC,ha,a1];simp[kZ,a1,b1,b2];simp[la,ha,b1,b2];have hq:(wb==[110,111,114,109,97,108])=false:=by simpa using b2
      rw[hq];exact hx
   ·by_cases a2:wa=[108,105,103,104,116]
    ·by_cases b1:wb=[104,105,103,104]
     ·have hmd:gz wa wb=false:=by unfold gz;rw[wd,wl,wh,wn];simp[a1,a2,b1]
      simp only[bu,hb,anF,anR,rdC,hmd]at hx ⊢;simp[nC,ha,a1,a2];simp[kZ,a1,a2,b1];simp[la,ha,b1];exact hx
     ·by_cases b2:wb=[110,111,114,109,97,108]
      ·have hmd:gz wa wb=false:=by unfold gz;rw[wd,wl,wh,wn];simp[a1,a2,b1,b2]
       simp only[bu,hb,anF,anR,rdC,hmd]at hx ⊢;simp[nC,ha,a1,a2];simp[kZ,a1,a2,b1,b2];simp[la,ha,b1,b2];exact hx
      ·have hmd:gz wa wb=true:=by unfold gz;rw[wd,wl,wh,wn];simp[a1,a2,b1,b2]
       simp only[bu,hb,anF,anR,rdC,hmd]at hx ⊢;simp[nC,ha,a1,a2];simp[kZ,a1,a2,b1,b2];simp[la,ha,b1,b2];have hq:(wb==[110,111,114,109,97,108])=false:=by simpa using b2
       rw[hq];exact hx
    ·have hmd:gz wa wb=true:=by unfold gz;rw[wd,wl,wh,wn];simp[a1,a2]
     simp only[bu,hb,anF,anR,rdC,hmd]at hx ⊢;simp[nC,ha,a1,a2];simp[kZ,a1,a2];simp[la,ha];exact hx
  ·rw[hb]at ha;simp only[bu,hb,anF,anR,rdC]at hx ⊢;simp[nC,ha];simp[kZ];simp[la,ha];exact hx
 ·rintro vs h' ⟨rfl,M1⟩;have q1:(bu t_5 (gz wa wb)).pos<=s.length:=p5;generalize bu t_5 (gz wa wb)=u1 at*;simp[S6];refine kN (x:=⟨s,u1⟩) M1.a (by have:=M1.nx;omega) ⟨hs,by simp only;omega⟩ ?_;have l_7:=M1.cE (rdC ⟨s,a_ s (u1)⟩);have p7:=jf s (u1) q1;simp only at l_7 ⊢;generalize h'.set (h.nx+1) (.cells (rdC ⟨s,a_ s (u1)⟩))=h_7 at*;generalize cG s (u1)=n1 at*;generalize a_ s (u1)=t_7 at*;have hb:=l_7.b;have hlen:=l_7.len;have hnx:=l_7.nx;simp[Jw,hb,cn,cK,cV,cT];clear hb hlen hnx;exact⟨rfl,_,l_7.st 14 [I n1] (by simp) rfl,.plain λH=>cA (cA (cA (ja H) ⟨.int _ _,trivial⟩) ⟨.bool _,.bool _,.int _ _,trivial⟩) ⟨.int _ _,trivial⟩⟩
theorem yw{H:AH}{ys:List (LA)}(hy:∀y∈ys,∀(j:Nat) (c:AV),y[j]?=some c->Frz H false c c):Frz H false (.psl ys) (.psl ys):=
 .psl rfl _ _ rfl (λi x y hx hy=>by rw[hx]at hy;cases hy;rfl) λi x y j c d hx hy' hc hd=>by
  rw[hx]at hy';cases hy';rw[hc]at hd;cases hd;exact hy x (am9 hx) j c hc
theorem za(s:Str)(H:AH):Frz H false (.psl (nM s)) (.psl (nM s)):=yw λy hy j c hc=>by
 obtain⟨n,_,rfl⟩:=an0.1 hy;match j with
 |0=>simp at hc;subst hc;exact .int _ _
 |j+1=>simp at hc
theorem DA(s:Str)(t:RS)(H:AH):ea H false (lb (iv s t).1) (lb (iv s t).1):=by
 unfold lb iv;simp only;split
 ·exact fp .dX .dX
 ·split
  ·exact fp .dX .dX
  ·split
   ·exact fp (za _ _) .dX
   ·split
    ·exact fp (za _ _) (yw λy hy j c hc=>yN _ y hy H j c hc)
    ·exact fp .dX .dX
theorem yI(s:Str)(t:RS):dj (lb (iv s t).1)=true:=by
 unfold lb iv;simp only;split
 ·rfl
 ·split
  ·rfl
  ·split
   ·rfl
   ·split<;>rfl
theorem MZ(w:Str):-1<=jg dI w/\jg dI w<9:=by
 unfold jg;split
 ·omega
 ·exact⟨qD _ _,oz dI w⟩
theorem Zl{h h1:AH}{s w:Str}{t:RS}(hL:L3 h h1 (rdC ⟨s,t⟩) zIn)(h1':w≠de)(h2':w≠kh)(h3':w≠gQ)(h4':w≠gK)(h5':w≠gH)(h6':w≠gS)(h7':w≠dN)(h8':w≠db):
  dL (tb lE) (.ptr h.nx 0) (.ptr (h.nx+1) 0) (.ptr (h.nx+2) 0) (.str w) h1 (LM h s (zIn,⟨t.pos,true⟩)):=by
 have ha:h1.ab (h.nx+1)=some [.str s,I t.pos,.bool t.bad]:=hL.a;unfold de at h1';unfold kh at h2';unfold gQ at h3';unfold gK at h4';unfold gH at h5';unfold gS at h6';unfold dN at h7';unfold db at h8';simp[dL,h1',h2',h3',h4',h5',h6',h7',h8'];simp[A4,h8',ha];exact⟨rfl,_,hL.cE _,.plain ja⟩
theorem M9{h h1:AH}{s:Str}{t:RS}(hs:s.length<=1000000)(hp:t.pos<=s.length)(hL:L3 h h1 (rdC ⟨s,t⟩) zIn):
  dL (tb lE) (.ptr h.nx 0) (.ptr (h.nx+1) 0) (.ptr (h.nx+2) 0) (.str db) h1 (LM h s (lb (iv s t).1,(iv s t).2)):=by
 have hb:=hL.b;have hlen:=hL.len;have hn:=hL.nx;simp[dL,db];simp(disch:=first|go_size|fail)[A4,hb,cn];have l1:=hL.st 0 [I 8] (by simp) rfl;generalize h1.set (h.nx+2) (.cells (stN zIn 0 [I 8]))=h2 at*;have e8:stN zIn 0 [I 8]=dm 0 .aa 0 .aa:=rfl;rw[e8]at l1;unfold lE;simp[];refine ady (x:=⟨s,t⟩) l1.a l1.b (by have:=l1.nx;omega) (by have:=l1.nx;omega) (by omega) ⟨hs,hp⟩ ?_;have hk:=(l1.cE (rdC ⟨s,(iv s t).2⟩)).sZ (lb (iv s t).1) rfl (yI _ _);exact⟨rfl,_,hk,.plain λH=>DA _ _ H⟩
def DQ(s:Str)(t:RS):List AV×RS:=
 let t2:=a_ s t
 let t3:=aN s (a_ s t2)
 let o:=jg dI (aP s t3)
 let t4:=bu (aX s t3) (decide (o<0))
 let t5:=a_ s t4
 let t6:=a_ s t5
 (stN (stN (stN (stN (stN (stN (stN zIn 0 [I 7]) 16 [I (cG s t)]) 17 [I (cG s t2)]) 18 [I ((2:Int)^(max o 0).toNat)]) 19 [I (cG s t4)]) 20 [I (cG s t5)]) 21 [.str (fP s t6)],ft s t6)
theorem aeS{h h1:AH}{s:Str}{t:RS}(hs:s.length<=1000000)(hp:t.pos<=s.length)(hL:L3 h h1 (rdC ⟨s,t⟩) zIn):
  dL (tb lE) (.ptr h.nx 0) (.ptr (h.nx+1) 0) (.ptr (h.nx+2) 0) (.str dN) h1 (LM h s (DQ s t)):=by
 unfold DQ;have hb:=hL.b;have hlen:=hL.len;have hnx:=hL.nx;simp(disch:=first|go_size|fail)[dL,dN,hb,cn,cK,cV,cT];clear hb hlen hnx;have hb:=hL.b;have hlen:=hL.len;simp(disch:=first|go_size|fail)[Mp,hb,cn];clear hb hlen;have l_1:=hL.st 0 [I 7] (by simp) rfl;generalize h1.set (h.nx+2) (.cells (stN (zIn) 0 [I 7]))=h_1 at*;unfold lE;simp(disch:=first|go_size|fail)[];refine kN (x:=⟨s,t⟩) l_1.a (by have:=l_1.nx;omega) ⟨hs,by simp only;omega⟩ ?_;have l_2:=l_1.cE (rdC ⟨s,a_ s (t)⟩);have p2:=jf s (t) hp;simp only at l_2 ⊢;generalize h_1.set (h.nx+1) (.cells (rdC ⟨s,a_ s (t)⟩))=h_2 at*;generalize cG s (t)=n1 at*;generalize a_ s (t)=t_2 at*;have hb:=l_2.b;have hlen:=l_2.len;have hnx:=l_2.nx;simp(disch:=first|go_size|fail)[JU,hb,cn,cK,cV,cT];clear hb hlen hnx;have l_3:=l_2.st 16 [I n1] (by simp) rfl;generalize h_2.set (h.nx+2) (.cells (stN (stN (zIn) 0 [I 7]) 16 [I n1]))=h_3 at*;refine kN (x:=⟨s,t_2⟩) l_3.a (by have:=l_3.nx;omega) ⟨hs,by simp only;omega⟩ ?_;have l_4:=l_3.cE (rdC ⟨s,a_ s (t_2)⟩);have p4:=jf s (t_2) p2;simp only at l_4 ⊢;generalize h_3.set (h.nx+1) (.cells (rdC ⟨s,a_ s (t_2)⟩))=h_4 at*;generalize cG s (t_2)=n2 at*;generalize a_ s (t_2)=t_4 at*;have hb:=l_4.b;have hlen:=l_4.len;have hnx:=l_4.nx;simp(disch:=first|go_size|fail)[Ka,hb,cn,cK,cV,cT];clear hb hlen hnx;have l_5:=l_4.st 17 [I n2] (by simp) rfl;generalize h_4.set (h.nx+2) (.cells (stN (stN (stN (zIn) 0 [I 7]) 16 [I n1]) 17 [I n2]))=h_5 at*;refine qd (x:=⟨s,t_4⟩) l_5.a (by have:=l_5.nx;omega) ⟨hs,by simp only;omega⟩ ?_
 have l_6:=l_5.cE (rdC ⟨s,aN s (t_4)⟩);have p6:=qi s (t_4) p4;simp only at l_6 ⊢;generalize h_5.set (h.nx+1) (.cells (rdC ⟨s,aN s (t_4)⟩))=h_6 at*;generalize aN s (t_4)=t_6 at*;refine JB trivial ?_;have hb:=l_6.b;have hlen:=l_6.len;have hnx:=l_6.nx;simp(disch:=first|go_size|fail)[LW,hb,cn,cK,cV,cT];clear hb hlen hnx;have alE:=rP (s:=s) (t:=t_6) hs;refine vP (x:=⟨s,t_6⟩) l_6.a (by have:=l_6.nx;omega) ⟨⟨hs,by simp only;omega⟩,p6⟩ ?_;have l_7:=l_6.cE (rdC ⟨s,aX s (t_6)⟩);have p7:=(gL s (t_6) p6).2;simp only at l_7 ⊢;generalize h_6.set (h.nx+1) (.cells (rdC ⟨s,aX s (t_6)⟩))=h_7 at*;generalize aP s (t_6)=w2 at*;generalize aX s (t_6)=t_7 at*;have hob:=MZ w2;refine Ys (l:=dI) (w:=w2) (by decide) ?_;generalize jg dI w2=o at*;refine⟨λvs h'=>vs=[.ptr h.nx 0,.ptr (h.nx+1) 0,.ptr (h.nx+2) 0,I o]/\L3 h h' (rdC ⟨s,bu t_7 (decide (o<0))⟩) (stN (stN (stN (zIn) 0 [I 7]) 16 [I n1]) 17 [I n2]),?_,?_⟩
 ·have ha:h_7.ab (h.nx+1)=some [.str s,I t_7.pos,.bool t_7.bad]:=l_7.a;have hx:=l_7.cE (rdC ⟨s,bu t_7 (decide (o<0))⟩);cases hb:t_7.bad
  ·rw[hb]at ha;simp(disch:=first|go_size|fail)[BB,ha];simp(disch:=first|go_size|fail)[AB,ha];simp only[bu,hb,anF,anR,rdC]at hx ⊢;exact hx
  ·rw[hb]at ha;simp[BB,ha];simp[AB,ha];simp only[bu,hb,anF,anR,rdC]at hx ⊢;exact hx
 ·rintro vs h' ⟨rfl,M1⟩;have q1:(bu t_7 (decide (o<0))).pos<=s.length:=p7;generalize bu t_7 (decide (o<0))=u1 at*;have hbb:=M1.b;have hlen:=M1.len;obtain⟨on,hon⟩:∃on:Nat,on=(max o 0).toNat:=⟨_,rfl⟩;have ho9:on<9:=by omega
  have hom:max o 0=(on:Int):=by omega
  rw[<-hon];have hmm:∀h:AH,iy h true (I o) (I 0)=some (I on,h):=λh=>by rw[pB,hom]
  simp[Ll];rw[hmm];simp[y2 on ho9];rw[X_ _ on ho9];simp(disch:=first|go_size|fail)[hbb,cn];generalize hP:(2:Int)^on=P at*;clear hbb hlen;have l_8:=M1.st 18 [I P] (by simp) rfl;generalize h'.set (h.nx+2) (.cells (stN (stN (stN (stN (zIn) 0 [I 7]) 16 [I n1]) 17 [I n2]) 18 [I P]))=h_8 at*;refine kN (x:=⟨s,u1⟩) l_8.a (by have:=l_8.nx;omega) ⟨hs,by simp only;omega⟩ ?_;have l_9:=l_8.cE (rdC ⟨s,a_ s (u1)⟩);have p9:=jf s (u1) q1;simp only at l_9 ⊢;generalize h_8.set (h.nx+1) (.cells (rdC ⟨s,a_ s (u1)⟩))=h_9 at*;generalize cG s (u1)=n4 at*;generalize a_ s (u1)=t_9 at*;have hb:=l_9.b;have hlen:=l_9.len;have hnx:=l_9.nx;simp(disch:=first|go_size|fail)[Kl,hb,cn,cK,cV,cT];clear hb hlen hnx;have CY:=l_9.st 19 [I n4] (by simp) rfl;generalize h_9.set (h.nx+2) (.cells (stN (stN (stN (stN (stN (zIn) 0 [I 7]) 16 [I n1]) 17 [I n2]) 18 [I P]) 19 [I n4]))=h_10 at*;refine kN (x:=⟨s,t_9⟩) CY.a (by have:=CY.nx;omega) ⟨hs,by simp only;omega⟩ ?_;have CZ:=CY.cE (rdC ⟨s,a_ s (t_9)⟩);have p11:=jf s (t_9) p9;simp only at CZ ⊢;generalize h_10.set (h.nx+1) (.cells (rdC ⟨s,a_ s (t_9)⟩))=h_11 at*;generalize cG s (t_9)=n5 at*;generalize a_ s (t_9)=t_11 at*;have hb:=CZ.b;have hlen:=CZ.len;have hnx:=CZ.nx;simp(disch:=first|go_size|fail)[Ls,hb,cn,cK,cV,cT];clear hb hlen hnx;have CX:=CZ.st 20 [I n5] (by simp) rfl;generalize h_11.set (h.nx+2) (.cells (stN (stN (stN (stN (stN (stN (zIn) 0 [I 7]) 16 [I n1]) 17 [I n2]) 18 [I P]) 19 [I n4]) 20 [I n5]))=h_12 at*;refine Qv (x:=⟨s,t_11⟩) CX.a (by have:=CX.nx;omega) ⟨hs,by simp only;omega⟩ ?_
  have lz:=CX.cE (rdC ⟨s,ft s t_11⟩);simp only at lz ⊢;generalize h_12.set (h.nx+1) (.cells (rdC ⟨s,ft s t_11⟩))=hz at*;generalize fP s t_11=T at*;have hb:=lz.b;have hlen:=lz.len;have hnx:=lz.nx;simp(disch:=first|go_size|fail)[Ms,hb,cn,cK,cV,cT];clear hb hlen hnx;exact⟨rfl,_,lz.st 21 [.str T] (by simp) rfl,.plain λH=>cA (cA (cA (cA (cA (cA (cA (ja H) ⟨.int _ _,trivial⟩) ⟨.int _ _,trivial⟩) ⟨.int _ _,trivial⟩) ⟨.int _ _,trivial⟩) ⟨.int _ _,trivial⟩) ⟨.int _ _,trivial⟩) ⟨.str _,trivial⟩⟩
open Go.Lib (itoa decDigits)
theorem yC(n:Int)(cl:Bool):∀c∈itoa n,bl cl c=true:=by
 have hd:∀u,∀c∈decDigits u,bl cl c=true:=λu c hc=>by
  have:=uM u c hc;unfold bl;have h1:c≠32:=by rintro rfl;simp[gx]at this
  have h2:c≠93:=by rintro rfl;simp[gx]at this
  simp[h1,h2]
 unfold itoa;split
 ·intro c hc;rcases anT.1 hc with rfl|hc
  ·cases cl<;>rfl
  ·exact hd _ c hc
 ·exact hd _
theorem Vy(n:Int):itoa n≠[]:=by
 unfold itoa;split
 ·simp
 ·exact sk _
theorem Er{w:Str}(h:fD w=true):w.isEmpty=false:=by
 obtain⟨n,_,_,rfl,_⟩:=(mP w).1 h;cases hi:itoa n with
 |nil=>exact absurd hi (Vy n)
 |cons c l=>rfl
theorem xw{p:UInt8->Bool}:∀(a r:Str),(∀c∈a,p c=true)->(∀c t,r=c::t->p c=false)->(a++r).takeWhile p=a
 |[],r,_,hr=>by
  cases r with
  |nil=>rfl
  |cons c t=>simp[hr c t rfl]
 |c::a,r,ha,hr=>by
  have:=xw a r (λd hd=>ha d (by simp[hd])) hr;simp[ha c (by simp),this]
theorem lO(p:UInt8->Bool):∀x:Str,∃r,x=x.takeWhile p++r/\∀c t,r=c::t->p c=false
 |[]=>⟨[],rfl,by simp⟩
 |c::x=>by
  obtain⟨r,h1,h2⟩:=lO p x;by_cases hc:p c=true
  ·refine⟨r,?_,h2⟩;rw[aof hc,anB,<-h1]
  ·refine⟨c::x,?_,λd t h=>by cases h;simpa using hc⟩;rw[aog hc];rfl
theorem O9{cl:Bool}{c:UInt8}(h:bl cl c=false):gx c=false:=by
 unfold bl at h;cases hd:gx c
 ·rfl
 ·exfalso;have h1:c≠32:=by rintro rfl;simp[gx]at hd
  have h2:c≠93:=by rintro rfl;simp[gx]at hd
  simp[h1,h2]at h
theorem PW(cl:Bool)(x:Str):(fD (x.takeWhile (bl cl))=true->kU x=true/\dV x=f_ (x.takeWhile (bl cl))/\fH x=x.drop (x.takeWhile (bl cl)).length)/\
  (fD (x.takeWhile (bl cl))=false->kU x=false\/∃c r,fH x=c::r/\bl cl c=true):=by
 obtain⟨r,h1,h2⟩:=lO (bl cl) x;constructor
 ·intro hn;obtain⟨n,n0,n1,n2,n3⟩:=(mP _).1 hn;have h:=Vh (n:=n) (r:=r) n0 n1 λc t e=>O9 (h2 c t e)
  rw[<-n2,<-h1]at h;refine⟨h.2.2,by rw[h.1,n3],?_⟩;rw[h.2.1];have:x.drop (x.takeWhile (bl cl)).length=(x.takeWhile (bl cl)++r).drop (x.takeWhile (bl cl)).length:=by rw[<-h1]
  rw[this,List.drop_left]
 ·intro hn;cases hB:kU x
  ·exact .inl rfl
  ·right;obtain⟨b0,b1,b2,b3⟩:=L7 hB;cases hR:fH x with
   |nil=>
    exfalso;rw[hR]at b2;have:x.takeWhile (bl cl)=itoa (dV x):=by
     rw[b2];rw[<-b2];exact(congrArg (List.takeWhile (bl cl)) b2).trans (xw _ [] (yC _ cl) (by simp))
    rw[this]at hn;have:=(mP (itoa (dV x))).2 ⟨_,b0,b1,rfl,wI b0 b1⟩;rw[this]at hn;cases hn
   |cons c t=>
    refine⟨c,t,rfl,?_⟩;cases hc:bl cl c
    ·exfalso;rw[hR]at b2;have:x.takeWhile (bl cl)=itoa (dV x):=(congrArg (List.takeWhile (bl cl)) b2).trans (xw _ _ (yC _ cl) λd u e=>by cases e;exact hc);rw[this]at hn;have:=(mP (itoa (dV x))).2 ⟨_,b0,b1,rfl,wI b0 b1⟩;rw[this]at hn;cases hn
    ·rfl
theorem aad(s:Str)(p:Nat):s[p+((s.drop p).length-(fH (s.drop p)).length)]?=(fH (s.drop p))[0]?:=by
 obtain⟨q,hq⟩:=tD (s.drop p);have hl:(s.drop p).length=q.length+(fH (s.drop p)).length:=by
  have:=congrArg List.length hq;rwa [amX]at this
 rw[show(s.drop p).length-(fH (s.drop p)).length=q.length by omega,<-anl];have h9:(s.drop p)[q.length]?=(q++fH (s.drop p))[q.length]?:=congrArg (λl:Str=>l[q.length]?) hq;rw[h9,anj (amY _),aoS]
structure At(s:Str)(t:PS)(u:RS):Prop where
 ok:t.ok=true
 bad:u.bad=false
 pos:t.pos=u.pos
 le:u.pos<=s.length
 first:t.first=false
def xu(s:Str)(cl:Bool)(u:RS):Prop:=∃c,s[u.pos]?=some c/\bl cl c=true
structure pT(s:Str)(cl:Bool)(t:PS)(u:RS):Prop where
 ok:t.ok=false
 lt:t.pos<=s.length
 ru:u.pos<=s.length+1
 off:u.bad=true\/xu s cl u
theorem xu.I4{s:Str}{cl:Bool}{u:RS}(h:xu s cl u):xu s false u:=by
 obtain⟨c,h1,h2⟩:=h;refine⟨c,h1,?_⟩;unfold bl at h2 ⊢;simp only[amZ]at h2;simp[h2.1]
theorem pT.I4{s:Str}{cl:Bool}{t:PS}{u:RS}(h:pT s cl t u):pT s false t u:=⟨h.ok,h.lt,h.ru,h.off.imp id xu.I4⟩
theorem pT.of{s:Str}{cl:Bool}{t:PS}{u:RS}(h1:t.ok=false)(h2:t.pos<=s.length)(h3:u.pos<=s.length+1)(h4:u.bad=true):pT s cl t u:=⟨h1,h2,h3,.inl h4⟩
theorem ld{s:Str}{u:RS}(h:u.bad=true\/xu s false u):(aN s u).bad=true:=by
 unfold aN;rcases h with h|⟨c,h1,h2⟩
 ·split
  ·exact h
  ·rfl
 ·have hc:c≠32:=by rintro rfl;simp[bl]at h2
  rw[h1];simp[hc]
theorem oM{s:Str}{t:PS}{u:RS}(h:At s t u):At s (bE s t) (aN s u)\/((bE s t).ok=false/\(aN s u).bad=true):=by
 unfold bE aN bg bB;rw[h.first,h.ok,h.pos];by_cases hc:s[u.pos]?=some 32
 ·have hlt:=(amV.1 hc).1;left;simp only[hc,hlt,decide_true,Bool.and_self,and_self,anH,am7,ans];exact⟨rfl,h.bad,rfl,by simp only;omega,rfl⟩
 ·right;simp[hc]
structure kF{α:Type}(s:Str)(cl:Bool)(fV:PS->α)(fT:PS->PS)(gV:RS->α)(gT:RS->RS):Prop where
 go:∀t u,At s t u->(At s (fT t) (gT u)/\fV t=gV u)\/pT s cl (fT t) (gT u)
 off:∀t u,pT s false t u->pT s false (fT t) (gT u)
theorem bD(s:Str)(t:PS)(ht:t.pos<=s.length):cD s t (bc s t):=by
 have h:=fW s t ht;refine⟨h.le,h.lt,λe=>h.ok ?_⟩;unfold bc at e;simp only[amZ]at e;exact e.1
theorem _root_.Go.St.cD.nok{s:Str}{t u:PS}(h:cD s t u)(e:t.ok=false):u.ok=false:=by
 cases hu:u.ok
 ·rfl
 ·rw[h.ok hu]at e;cases e
theorem bX.bb{s:Str}{t u:RS}(h:bX s t u)(e:t.bad=true):u.bad=true:=by
 cases hu:u.bad
 ·rw[h.ok hu]at e;cases e
 ·rfl
theorem VE{s:Str}{t:PS}{u:RS}{cl:Bool}(h:pT s cl t u):pT s false (bc s t) (a_ s u):=by
 have hk:=bD s t h.lt;have hr:=dD s u h.ru;refine .of (hk.nok h.ok) hk.lt hr.1.lt ?_;have hb:=ld (h.off.imp id xu.I4);unfold a_ dU;simp[hb]
theorem DP{s:Str}{cl:Bool}{u:RS}(hb:u.bad=false)(hu:u.pos<=s.length):
  (fD ((s.drop u.pos).takeWhile (bl cl))=true/\(dU s u).bad=false/\dV (s.drop u.pos)=f_ ((s.drop u.pos).takeWhile (bl cl))/\(dU s u).pos=u.pos+((s.drop u.pos).takeWhile (bl cl)).length/\u.pos+((s.drop u.pos).takeWhile (bl cl)).length<=s.length)\/
  (fD ((s.drop u.pos).takeWhile (bl cl))=false/\((dU s u).bad=true\/xu s cl (dU s u))):=by
 have hn:=PW cl (s.drop u.pos);have hw:=mD (bl cl) (s.drop u.pos);have hl:(s.drop u.pos).length=s.length-u.pos:=am3;cases hk:fD ((s.drop u.pos).takeWhile (bl cl))
 ·right;refine⟨rfl,?_⟩;rcases hn.2 hk with h|⟨c,r,h1,h2⟩
  ·left;unfold dU;rw[h];simp
  ·right;refine⟨c,?_,h2⟩;show s[u.pos+_]?=some c
   rw[aad,h1];rfl
 ·left;obtain⟨h1,h2,h3⟩:=hn.1 hk;refine⟨rfl,?_,h2,?_,by omega⟩
  ·unfold dU;rw[h1,hb];rfl
  ·unfold dU;rw[h3];simp only[am3];omega
theorem dT(s:Str):kF s false (cQ s) (bc s) (cG s) (a_ s):=by
 refine⟨λt u h=>?_,λt u h=>VE h⟩;have hk:=bD s t (by rw[h.pos];exact h.le);have hr:=dD s u (by have:=h.le;omega);rcases oM h with h1|⟨h1,h2⟩
 ·have e:bT s t=(s.drop (aN s u).pos).takeWhile (bl false):=by unfold bT bZ;rw[h1.pos]
  rcases DP (cl:=false) h1.bad h1.le with⟨d1,d2,d3,d4,d5⟩|⟨d1,d2⟩
  ·left;rw[<-e]at d1 d3 d4 d5;refine⟨⟨?_,d2,?_,?_,?_⟩,?_⟩
   ·unfold bc bq cR;have:=Er d1;simp only[h1.ok,d1,aoD,Bool.and_true];unfold bT at this;rw[this];rfl
   ·show(bq s t).pos=(dU s (aN s u)).pos
    rw[d4];show(bE s t).pos+(bZ s false (bE s t)).length=_
    rw[h1.pos];rfl
   ·show(dU s (aN s u)).pos<=_
    rw[d4];exact d5
   ·show(bE s t).first=false
    exact h1.first
   ·unfold cQ cG;rw[d3]
  ·right;rw[<-e]at d1;refine⟨?_,hk.lt,hr.1.lt,d2⟩;unfold bc;rw[d1];simp
 ·right;refine .of ?_ hk.lt hr.1.lt ?_
  ·unfold bc bq cR;rw[h1];simp
  ·unfold a_ dU;rw[h2];simp
theorem Mo{s:Str}:∀(n m:Nat) (out:Str) (t:PS) (u:RS),At s t u->s.length-u.pos<=n->s.length-u.pos<=m->
  (At s (pQL s n out t).2 (rQL s m out u).2/\(pQL s n out t).1=(rQL s m out u).1/\(s[(rQL s m out u).2.pos]?=some 34\/s[(rQL s m out u).2.pos]?=none))\/((pQL s n out t).2.ok=false/\(rQL s m out u).2.bad=true)
 |n,m,out,t,u,h,hn,hm=>by
  have hpm:bB s t=decide (u.pos<s.length):=by unfold bB;rw[h.ok,h.pos];simp
  by_cases hlt:u.pos<s.length
  ·obtain⟨c,hc⟩:∃c,s[u.pos]?=some c:=⟨s[u.pos],am0 hlt⟩;obtain⟨n,rfl⟩:∃k,n=k+1:=⟨n-1,by omega⟩;obtain⟨m,rfl⟩:∃k,m=k+1:=⟨m-1,by omega⟩;unfold pQL rQL;rw[hpm,h.pos,hc];simp only[hlt,decide_true,anH];by_cases h34:c=34
   ·simp only[h34,anH];exact .inl ⟨h,trivial,.inl (by rw[hc,h34])⟩
   ·simp only[h34,ans];have hpk:=qS s c t (by rw[h.pos];exact hc);have hrk:=zu s c u hc;have key:(At s (pQ1 s c t).2 (rQ1 s c u).2/\(pQ1 s c t).1=(rQ1 s c u).1/\u.pos<(rQ1 s c u).2.pos)\/((pQ1 s c t).2.ok=false/\(rQ1 s c u).2.bad=true):=by
     unfold pQ1 rQ1;by_cases h92:c=92
     ·simp only[h92,anH];unfold lU fx bB;rw[h.ok,h.pos];cases hd:s[u.pos+1]? with
      |none=>
       right;have:¬u.pos+1<s.length:=by rw[ank]at hd;omega
       simp[this]
      |some d=>
       have hdl:=(amV.1 hd).1;simp only[hdl,decide_true,Bool.and_self,anH];cases he:mq d
       ·right;simp
       ·left;refine⟨⟨rfl,by simp[h.bad],rfl,by show u.pos+2<=_;omega,h.first⟩,?_,by show u.pos<u.pos+2;omega⟩;unfold mq at he;unfold D0;simp only[anV,an2]at he;rcases he with(rfl|rfl)|rfl<;>rfl
     ·simp only[h92,ans];left;exact⟨⟨h.ok,h.bad,by simp[h.pos],by simp only;omega,h.first⟩,trivial,by simp⟩
    rcases key with⟨k1,k2,k3⟩|⟨k1,k2⟩
    ·rw[k2];exact Mo n m _ _ _ k1 (by omega) (by omega)
    ·right;refine⟨?_,?_⟩
     ·exact(rF s n _ _ hpk.lt).nok k1
     ·have:=wo s c u hc;exact((sN s m _ _ this.1).1).bb k2
  ·have mE:s[u.pos]?=none:=by rw[ank];omega
   have eP:pQL s n out t=(out,t):=by
    cases n with
    |zero=>rfl
    |succ n=>unfold pQL;rw[hpm];simp[hlt]
   have eR:rQL s m out u=(out,u):=by
    cases m with
    |zero=>rfl
    |succ m=>unfold rQL;rw[mE]
   rw[eP,eR];exact .inl ⟨h,rfl,.inr mE⟩
 termination_by n=>n
theorem Nc{s:Str}{t:PS}(h:t.ok=false)(ht:t.pos<=s.length):(ef s t).ok=false:=(qm s t ht).1.nok h
theorem zp{s:Str}{t:PS}{u:RS}(h:At s t u):(At s (ef s t) (fb s u)/\jd s t=ju s u)\/((ef s t).ok=false/\(fb s u).bad=true):=by
 by_cases h34:s[u.pos]?=some 34
 ·have hlt:=(amV.1 h34).1;have ec:bg s 34 t=⟨t.pos+1,t.first,t.ok⟩:=by
   unfold bg bB;rw[h.ok,h.pos,h34];simp[hlt]
  have h1:At s (bg s 34 t) ⟨u.pos+1,u.bad⟩:=by
   rw[ec];exact⟨h.ok,h.bad,by simp[h.pos],by simp only;omega,h.first⟩
  have hq:=Mo s.length s.length [] _ _ h1 (by omega) (by omega);unfold fb ju ef jd jN;rw[am1 h34,am1 h34];generalize pQL s s.length [] (bg s 34 t)=A at*;generalize rQL s s.length [] ⟨u.pos+1,u.bad⟩=B at*;obtain⟨o1,t1⟩:=A;obtain⟨o2,u1⟩:=B;simp only at hq ⊢;rcases hq with⟨q1,rfl,q3⟩|⟨q1,q2⟩
  ·rcases q3 with q3|q3
   ·have EU:=(amV.1 q3).1;have ec1:bg s 34 t1=⟨t1.pos+1,t1.first,t1.ok⟩:=by
     unfold bg bB;rw[q1.ok,q1.pos,q3];simp[EU]
    have hd:decide (s.length<=u1.pos)=false:=by simp;omega
    rw[ec1,q1.ok,q1.bad,hd];simp only[Bool.or_self,aoD,anF];cases hv:Lib.validD o1
    ·right;simp
    ·left;exact⟨⟨rfl,rfl,by simp[q1.pos],by simp only;omega,q1.first⟩,trivial⟩
   ·have hge:s.length<=u1.pos:=by rw[ank]at q3;omega
    right;have ec1:(bg s 34 t1).ok=false:=by
     unfold bg bB;rw[q1.pos,q3];simp
    rw[ec1];simp[hge]
  ·right;have ec1:(bg s 34 t1).ok=false:=by
    unfold bg bB;rw[q1];simp
   rw[ec1,q2];simp
 ·right;constructor
  ·have:(bg s 34 t).ok=false:=by
    unfold bg bB;rw[h.pos];simp[h34]
   have hk:=eZ s 34 t (by rw[h.pos];exact h.le);unfold ef jN;have h2:=(rF s s.length [] _ hk.1.lt).nok this;generalize pQL s s.length [] (bg s 34 t)=B at*;have:(bg s 34 B.2).ok=false:=by
    unfold bg bB;rw[h2];simp
   rw[this];rfl
  ·unfold fb;rw[amU h34]
theorem iQ(s:Str)(t:PS)(ht:t.pos<=s.length):cD s t (dW s t):=(dM s t ht).trans (qm s _ (dM s t ht).lt).1
theorem sI(s:Str)(cl:Bool):kF s cl (iJ s) (dW s) (fP s) (ft s):=by
 refine⟨λt u h=>?_,λt u h=>?_⟩
 ·have hk:=iQ s t (by rw[h.pos];exact h.le);have hr:=iP s u (by have:=h.le;omega);have hs:=dM s t (by rw[h.pos];exact h.le);have hg:=cg s u (by have:=h.le;omega);rcases oM h with h1|⟨h1,h2⟩
  ·rcases zp h1 with h3|⟨h3,h4⟩
   ·exact .inl h3
   ·exact .inr (.of h3 hk.lt hr.lt h4)
  ·exact .inr (.of (Nc h1 hs.lt) hk.lt hr.lt ((mA s _ hg.lt).1.bb h2))
 ·have hk:=iQ s t h.lt;have hr:=iP s u h.ru;have hg:=cg s u h.ru;exact .of (hk.nok h.ok) hk.lt hr.lt ((mA s _ hg.lt).1.bb (ld h.off))
