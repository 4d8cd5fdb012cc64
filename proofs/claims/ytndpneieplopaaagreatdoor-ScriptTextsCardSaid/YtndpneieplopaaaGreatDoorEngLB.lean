/- The program's scanner. -/
import Derived.Test.YtndpneieplopaaaGreatDoorStFb
import Derived.Lib.MapLaws
import Derived.Lib.ValidLaws
import Derived.Below
set_option linter.unusedSimpArgs false
set_option linter.unusedVariables false
noncomputable section
namespace Go.Proofs.YtndpneieplopaaaGreatDoor
open Go.Eng Go.St Tryz
structure Sc where
 s:Str
 t:PS
def scC(x:Sc):LA:=[.str x.s,I x.t.pos,.bool x.t.first,.bool x.t.ok]
theorem dE(x:Sc):vt (scC x):=by
 intro H;rw[bK];refine⟨rfl,λi a b ha hb=>?_⟩;rw[ha]at hb;cases hb;match i with
 |0=>simp[scC]at ha;subst ha;exact .str _
 |1=>simp[scC]at ha;subst ha;exact .int _ _
 |2=>simp[scC]at ha;subst ha;exact .bool _
 |3=>simp[scC]at ha;subst ha;exact .bool _
 |i+4=>simp[scC]at ha
def Sc.Ok(x:Sc):Prop:=x.s.length<=1000000/\x.t.pos<=x.s.length
theorem lT{s:Str}{t:PS}(h:bB s t=true):∃c,s[t.pos]?=some c:=by
 unfold bB at h;simp only[amZ,ana]at h;exact⟨s[t.pos],am0 h.2⟩
theorem aa7(h:AH)(id:Nat)(x:Sc)(hc:h.ab id=some (scC x))(hid:id<h.nx)(hx:x.Ok):aK prog 94 [.ptr id 0] h (.bool (bB x.s x.t)) h:=by
 obtain⟨s,⟨p,f,o⟩⟩:=x;refine aZ (R:=λv h'=>v =.bool (bB s ⟨p,f,o⟩)/\h.nx<=h'.nx/\h'.H=h.H) (C94 (aW []) ?_) λv' h' ⟨h1,h2,h3⟩=>⟨by rw[h1];exact .bool _,h2,λi _=>by rw[h3]⟩
 have hc':h.ab id=some [.str s,I p,.bool f,.bool o]:=hc;cases o
 ·simp[g94,hc',bB];simp[Hg,hc',bB];simp[Ik,hc',bB]
 ·simp[g94,hc',bB];simp[Hg,hc',bB];simp[Ik,hc',bB]
def e94:QE prog:=QE.abx 94 (λ_ _=>True) scC (fun(_:Unit)=>[]) (fun(x:Sc)(y:Unit)=>match y with|_=>x.Ok) (fun(x:Sc)(y:Unit)=>match y with|_=>.bool (bB x.s x.t)) (λh id x y hj hc hid hx=>match y,hx with|_,hx=>aa7 h id x hc hid hx)
theorem vZ{tl h}{id:Nat}{x:Sc}{Q:QT}(hc:h.ab id=some (scC x))(hid:id<h.nx)(hx:x.Ok)(hq:Q (.bool (bB x.s x.t)) h):tb (e94::tl) 94 (.ptr id 0::[]) h Q:=y_ () trivial hc hid hx hq
@[simp ↓] theorem akh:TbT e94 94:=aH e94
theorem aaE(h:AH)(id:Nat)(x:Sc)(b:UInt8)(hc:h.ab id=some (scC x))(hid:id<h.nx)(hx:x.Ok):aK prog 126 [.ptr id 0,.int .u8 b.toNat] h (.tup []) (h.set id (.cells (scC ⟨x.s,bg x.s b x.t⟩))):=by
 obtain⟨s,⟨p,f,o⟩⟩:=x;refine bm (R:=λv h'=>v =.tup []/\Ob h h' id (scC ⟨s,bg s b ⟨p,f,o⟩⟩)) hid (dE _) (ahK (aW [e94]) ?_) λv' h' ⟨h1,h2⟩=>⟨by rw[h1];exact .tup [] [] rfl (by simp),h2⟩
 have hc':h.ab id=some [.str s,I p,.bool f,.bool o]:=hc;simp[adR];refine⟨λvs h'=>vs=[.ptr id 0,.bool (!(bB s ⟨p,f,o⟩&&(s[p]?== some b)))]/\Ob h h' id (scC ⟨s,⟨p,f,o⟩⟩),?_,?_⟩
 ·simp[JN];refine vZ hc (by simp;omega) hx ?_;refine⟨by simp,?_⟩;cases hm:bB s ⟨p,f,o⟩
  ·simp[hc',hm];simp[Cf,hc',hm];exact(Ob.start hc).bump _ (by simp)
  ·obtain⟨c,hcp⟩:=lT hm;simp[hc',hm];simp[Cf,hc',hm,bC hcp,b8n];rw[hcp];exact⟨rfl,(Ob.start hc).bump _ (by simp)⟩
 ·rintro vs h' ⟨rfl,ho⟩;have hc2:h'.ab id=some [.str s,I p,.bool f,.bool o]:=ho.c;have hp:p<=s.length:=hx.2;have hs:s.length<=1000000:=hx.1;by_cases hb:bB s ⟨p,f,o⟩=true/\s[p]?=some b
  ·have e:bg s b ⟨p,f,o⟩=⟨p+1,f,o⟩:=by unfold bg;rw[am1 hb]
   simp[Ch,hb.1,hb.2];simp(disch:=first|go_size|fail)[hc2,e];exact ho.set _
  ·have e:bg s b ⟨p,f,o⟩=⟨p,f,false⟩:=by unfold bg;rw[amU hb]
   have hb2:(!(bB s ⟨p,f,o⟩&&(s[p]?== some b)))=true:=by
    cases h1:bB s ⟨p,f,o⟩
    ·simp
    ·have:¬s[p]?=some b:=λe=>hb ⟨h1,e⟩
     simp[this]
   rw[hb2];simp(disch:=first|go_size|fail)[Ch,hc2,e];exact ho.set _
def MU:QE prog:=QE.obj 126 (λ_ _=>True) scC (fun(b:UInt8)=>[.int .u8 b.toNat]) (fun(x:Sc)(y:UInt8)=>match y with|b=>x.Ok) (fun(x:Sc)(y:UInt8)=>match y with|b=>.tup []) (fun(x:Sc)(y:UInt8)=>match y with|b=>⟨x.s,bg x.s b x.t⟩) (λh id x y hj hc hid hx=>match y,hx with|b,hx=>aaE h id x b hc hid hx)
theorem sn{tl h}{id:Nat}{x:Sc}(b:UInt8){Q:QT}(hc:h.ab id=some (scC x))(hid:id<h.nx)(hx:x.Ok)(hq:Q (.tup []) (h.set id (.cells (scC (⟨x.s,bg x.s b x.t⟩))))):tb (MU::tl) 126 (.ptr id 0::[.int .u8 b.toNat]) h Q:=bF b trivial hc hid hx hq
@[simp ↓] theorem ahn:TbT MU 126:=aH MU
theorem ED(s:Str)(b:UInt8)(t:PS)(ht:t.pos<=s.length):(bg s b t).pos<=s.length:=by
 unfold bg;split
 ·rename_i h;have:=(amV.1 h.2).1;show t.pos+1<=_;omega
 ·exact ht
theorem Ww(h:AH)(id:Nat)(x:Sc)(hc:h.ab id=some (scC x))(hid:id<h.nx)(hx:x.Ok):aK prog 95 [.ptr id 0] h (.tup []) (h.set id (.cells (scC ⟨x.s,bE x.s x.t⟩))):=by
 obtain⟨s,⟨p,f,o⟩⟩:=x;refine bm (R:=λv h'=>v =.tup []/\Ob h h' id (scC ⟨s,bE s ⟨p,f,o⟩⟩)) hid (dE _) (C95 (aW [MU]) ?_) λv' h' ⟨h1,h2⟩=>⟨by rw[h1];exact .tup [] [] rfl (by simp),h2⟩
 have hc':h.ab id=some [.str s,I p,.bool f,.bool o]:=hc;cases f
 ·simp[g95,hc'];refine sn (b:=32) hc hid hx ?_;exact(Ob.start hc).set _
 ·simp[g95,hc'];exact(Ob.start hc).set _
def e95:QE prog:=QE.obj 95 (λ_ _=>True) scC (fun(_:Unit)=>[]) (fun(x:Sc)(y:Unit)=>match y with|_=>x.Ok) (fun(x:Sc)(y:Unit)=>match y with|_=>.tup []) (fun(x:Sc)(y:Unit)=>match y with|_=>⟨x.s,bE x.s x.t⟩) (λh id x y hj hc hid hx=>match y,hx with|_,hx=>Ww h id x hc hid hx)
theorem R7{tl h}{id:Nat}{x:Sc}{Q:QT}(hc:h.ab id=some (scC x))(hid:id<h.nx)(hx:x.Ok)(hq:Q (.tup []) (h.set id (.cells (scC (⟨x.s,bE x.s x.t⟩))))):tb (e95::tl) 95 (.ptr id 0::[]) h Q:=bF () trivial hc hid hx hq
@[simp ↓] theorem akG:TbT e95 95:=aH e95
theorem vk(s:Str)(cl:Bool)(t:PS)(ht:t.pos<=s.length):t.pos+(bZ s cl t).length<=s.length:=by
 have:=mD (bl cl) (s.drop t.pos);rw[am3]at this;unfold bZ;omega
theorem Y5(h:AH)(id:Nat)(x:Sc)(cl:Bool)(hc:h.ab id=some (scC x))(hid:id<h.nx)(hx:x.Ok):aK prog 122 [.ptr id 0,.bool cl] h (.str (bZ x.s cl x.t)) (h.set id (.cells (scC ⟨x.s,cR x.s cl x.t⟩))):=by
 obtain⟨s,⟨p,f,o⟩⟩:=x;have hp:p<=s.length:=hx.2;have hs:s.length<=1000000:=hx.1;have hw:=vk s cl ⟨p,f,o⟩ hp;refine bm (R:=λv h'=>v =.str (bZ s cl ⟨p,f,o⟩)/\Ob h h' id (scC ⟨s,cR s cl ⟨p,f,o⟩⟩)) hid (dE _) (ait (aW []) ?_) λv' h' ⟨h1,h2⟩=>⟨by rw[h1];exact .str _,h2⟩
 have hc':h.ab id=some [.str s,I p,.bool f,.bool o]:=hc;generalize hW:bZ s cl ⟨p,f,o⟩=W at*;simp only at hw;simp[adN,hc'];refine⟨λm vs h'=>∃q,vs=[.ptr id 0,.bool cl,I p]/\Ob h h' id (scC ⟨s,⟨q,f,o⟩⟩)/\p<=q/\q<=p+W.length/\m=p+W.length-q,W.length,?_,?_⟩
 ·exact⟨p,rfl,Ob.start hc,by omega,by omega,by omega⟩
 ·rintro m vs h' ⟨q,rfl,ho,hq0,hq1,rfl⟩;have hc2:h'.ab id=some [.str s,I q,.bool f,.bool o]:=ho.c;simp[K8];refine⟨λvs h2=>vs=[.ptr id 0,.bool cl,I p,.bool (decide (q<p+W.length))]/\Ob h h2 id (scC ⟨s,⟨q,f,o⟩⟩),?_,?_⟩
  ·by_cases hlt:q<s.length
   ·obtain⟨c,hcp⟩:∃c,s[q]?=some c:=⟨s[q],am0 hlt⟩;have cw:(q:Int)<s.length:=by omega
    have htw:=Tj (bl cl) (s.drop p) (q-p) (by rw[show(s.drop p).takeWhile (bl cl)=W from hW];omega);rw[show(s.drop p).takeWhile (bl cl)=W from hW,anl,show p+(q-p)=q by omega,hcp]at htw;have CW:decide (q<p+W.length)=bl cl c:=by
     cases hb:bl cl c
     ·rw[ano,show q<p+W.length↔q-p<W.length by omega,htw];rintro⟨x,hx1,hx2⟩;cases hx1;rw[hb]at hx2;cases hx2
     ·rw[decide_eq_true_iff,show q<p+W.length↔q-p<W.length by omega,htw];exact⟨c,rfl,hb⟩
    rw[CW];simp[BN,hc2];simp[AE,hc2,cw];have h8:=AY c;have h9:=SN c;by_cases h32:c=32
    ·simp[rh,hc2,bC hcp,h8,h32];simp[rk];simp[ra];exact⟨by simp[bl],ho.bump _ (by simp)⟩
    ·cases cl
     ·simp[rh,hc2,bC hcp,h8,h32];simp[rk];simp[ra];exact⟨by simp[bl,h32],ho.bump _ (by simp)⟩
     ·simp[rh,hc2,bC hcp,h8,h32];simp[rk,hc2];simp[ra,hc2,bC hcp,h9];exact⟨by simp[bl,h32],ho.bump _ (by simp)⟩
   ·have cw:¬(q:Int)<s.length:=by omega
    have CW:¬q<p+W.length:=by omega
    simp[BN,hc2];simp[AE,hc2,cw];simp[rh];simp(disch:=first|go_size|fail)[rk];simp(disch:=first|go_size|fail)[ra,CW];exact ho.bump _ (by simp)
  ·rintro vs h2 ⟨rfl,ho2⟩;have hc3:h2.ab id=some [.str s,I q,.bool f,.bool o]:=ho2.c;by_cases hlt:q<p+W.length
   ·simp(disch:=first|go_size|fail)[AL,hlt,hc3];exact⟨p+W.length-(q+1),by omega,q+1,ho2.set _,by omega,by omega,rfl⟩
   ·obtain rfl:q=p+W.length:=by omega
    simp only[hlt,aoz];simp[AL];simp[K9];generalize hq:p+W.length=q at*;simp[Bp,hc3];refine⟨λvs h3=>vs=[.ptr id 0,I p]/\Ob h h3 id (scC ⟨s,cR s cl ⟨p,f,o⟩⟩),?_,?_⟩
    ·have eT:cR s cl ⟨p,f,o⟩=⟨q,f,o && !W.isEmpty⟩:=by unfold cR;rw[hW];simp[hq]
     rw[eT];by_cases he:p=q
     ·have:W=[]:=am8 (by omega);subst this;subst he;simp[A0,hc3];exact ho2.set _
     ·have hne:W≠[]:=by rintro rfl;simp at hq;exact he hq
      have he':¬(p:Int)=q:=by omega
      simp[A0,he'];have:W.isEmpty=false:=by simpa using hne
      rw[this];simpa using ho2
    ·rintro vs h3 ⟨rfl,ho3⟩;have eT:cR s cl ⟨p,f,o⟩=⟨q,f,o && !W.isEmpty⟩:=by unfold cR;rw[hW];simp[hq]
     have hc4:h3.ab id=some [.str s,I q,.bool f,.bool (o && !W.isEmpty)]:=by rw[ho3.c,eT];rfl
     simp[Kv,hc4];simp[LJ,hc4,nG (show p<=q by omega) (show q<=s.length by omega)];refine⟨?_,ho3.bump _ (by simp)⟩;have:=Mr (bl cl) (s.drop p);rw[show(s.drop p).takeWhile (bl cl)=W from hW]at this;rw[show q-p=W.length by omega];exact this
def MQ:QE prog:=QE.obj 122 (λ_ _=>True) scC (fun(cl:Bool)=>[.bool cl]) (fun(x:Sc)(y:Bool)=>match y with|cl=>x.Ok) (fun(x:Sc)(y:Bool)=>match y with|cl=>.str (bZ x.s cl x.t)) (fun(x:Sc)(y:Bool)=>match y with|cl=>⟨x.s,cR x.s cl x.t⟩) (λh id x y hj hc hid hx=>match y,hx with|cl,hx=>Y5 h id x cl hc hid hx)
theorem Un{tl h}{id:Nat}{x:Sc}(cl:Bool){Q:QT}(hc:h.ab id=some (scC x))(hid:id<h.nx)(hx:x.Ok)(hq:Q (.str (bZ x.s cl x.t)) (h.set id (.cells (scC (⟨x.s,cR x.s cl x.t⟩))))):tb (MQ::tl) 122 (.ptr id 0::[.bool cl]) h Q:=bF cl trivial hc hid hx hq
@[simp ↓] theorem ah1:TbT MQ 122:=aH MQ
theorem sJ(s:Str)(t:PS)(ht:t.pos<=s.length):(bE s t).pos<=s.length:=by
 unfold bE;split
 ·exact ht
 ·exact ED s 32 t ht
theorem OZ(s:Str)(cl:Bool)(t:PS)(ht:t.pos<=s.length):(cR s cl t).pos<=s.length:=vk s cl t ht
theorem Rh(s:Str)(t:PS)(ht:t.pos<=s.length):(bq s t).pos<=s.length:=OZ s false _ (sJ s t ht)
theorem ZA(h:AH)(id:Nat)(x:Sc)(hc:h.ab id=some (scC x))(hid:id<h.nx)(hx:x.Ok):aK prog 91 [.ptr id 0] h (.str (bT x.s x.t)) (h.set id (.cells (scC ⟨x.s,bq x.s x.t⟩))):=by
 refine bm (R:=λv h'=>v =.str (bT x.s x.t)/\Ob h h' id (scC ⟨x.s,bq x.s x.t⟩)) hid (dE _) (C91 (aW [e95,MQ]) ?_) λv' h' ⟨h1,h2⟩=>⟨by rw[h1];exact .str _,h2⟩
 simp[g91];refine R7 hc hid hx ?_;refine Un (cl:=false) (x:=⟨x.s,bE x.s x.t⟩) (an _ _ _ _ rfl) hid ⟨hx.1,sJ _ _ hx.2⟩ ?_;exact⟨rfl,((Ob.start hc).set _).set _⟩
def e91:QE prog:=QE.obj 91 (λ_ _=>True) scC (fun(_:Unit)=>[]) (fun(x:Sc)(y:Unit)=>match y with|_=>x.Ok) (fun(x:Sc)(y:Unit)=>match y with|_=>.str (bT x.s x.t)) (fun(x:Sc)(y:Unit)=>match y with|_=>⟨x.s,bq x.s x.t⟩) (λh id x y hj hc hid hx=>match y,hx with|_,hx=>ZA h id x hc hid hx)
theorem SQ{tl h}{id:Nat}{x:Sc}{Q:QT}(hc:h.ab id=some (scC x))(hid:id<h.nx)(hx:x.Ok)(hq:Q (.str (bT x.s x.t)) (h.set id (.cells (scC (⟨x.s,bq x.s x.t⟩))))):tb (e91::tl) 91 (.ptr id 0::[]) h Q:=bF () trivial hc hid hx hq
@[simp ↓] theorem aku:TbT e91 91:=aH e91
def bU(l:List Str):AV:=.psl (l.map λs=>[.str s])
theorem qD(l:List Str)(w:Str):-1<=idx l w:=by unfold idx;split<;>omega
theorem oz(l:List Str)(w:Str):idx l w<l.length:=by
 unfold idx;split
 ·rename_i i hi;have:=List.findIdx?_eq_some_iff_getElem.1 hi;obtain⟨h1,_⟩:=this;omega
 ·omega
theorem Tt{l:List Str}{w:Str}{i:Nat}(hs:l[i]?=some w)(hne:∀j,j<i->∀s,l[j]?=some s->s≠w):idx l w=i:=by
 obtain⟨hlt,he⟩:=amV.1 hs;have:l.findIdx? (· == w)=some i:=by
  rw[List.findIdx?_eq_some_iff_getElem];refine⟨hlt,by simp[he],λj hj=>?_⟩;have:=hne j hj l[j] (am0 (by omega));simpa using this
 unfold idx;rw[this]
theorem oS{l:List Str}{w:Str}(hne:∀j,j<l.length->∀s,l[j]?=some s->s≠w):idx l w = -1:=by
 have:l.findIdx? (· == w)=none:=by
  rw[List.findIdx?_eq_none_iff];intro x hx;obtain⟨j,hj,rfl⟩:=List.getElem_of_mem hx;have:=hne j hj l[j] (am0 hj);simpa using this
 unfold idx;rw[this]
theorem eU(h:AH)(l:List Str)(i:Nat)(s:Str)(hi:l[i]?=some s):aF h 1 (bU l) (I i)=some (.cd [.str s],h):=by
 have hlt:i<l.length:=(amV.1 hi).1;have h2:=am0 hlt;rw[hi]at h2;have he:l[i]=s:=(anW h2).symm;exact da (by simp[hlt,he]) rfl
theorem mQ(h:AH)(l:List Str):bh h (bU l)=some (I l.length,h):=by simp[bU]
def SSl(h:AH)(x:AV)(l:List Str):Prop:=x=bU l\/∃k,x =.rsl k 0 l.length 1/\h.ab k=some (l.map .str)
theorem SSl.at{h:AH}{x:AV}{l:List Str}(hx:SSl h x l){i:Nat}{s:Str}(hi:l[i]?=some s):∃a,aF h 1 x (I i)=some (a,h)/\aw h a=some (.str s,h):=by
 have hlt:i<l.length:=(amV.1 hi).1;rcases hx with rfl|⟨k,rfl,hk⟩
 ·refine⟨_,eU h l i s hi,?_⟩;simp[]
 ·refine⟨.ptr k i,?_,?_⟩
  ·have:=dY (h:=h) (z:=1) (id:=k) (off:=0) (len:=l.length) (i:=(i:Int)) (by omega) (by omega);simpa using this
  ·have hm:(l.map AV.str)[i]?=some (.str s):=by rw[anb,hi];rfl
   simp only[aw,jQ,hk,hm]
theorem SSl.len{h:AH}{x:AV}{l:List Str}(hx:SSl h x l)(g:AH):bh g x=some (I l.length,g):=by
 rcases hx with rfl|⟨k,rfl,hk⟩
 ·exact mQ g l
 ·simp[bh,fj]
theorem V3(h:AH)(x:AV)(l:List Str)(w:Str)(hl:SSl h x l/\l.length<=1000):aK prog 90 [x,.str w] h (I (idx l w)) h:=by
 obtain⟨hS,hl⟩:=hl;refine aZ (R:=λv h'=>v=I (idx l w)/\h'=h) (C90 (aW []) ?_) λv' h' ⟨h1,h2⟩=>⟨by rw[h1];exact .int _ _,by rw[h2];exact amY _,λi _=>by rw[h2]⟩
 simp[g90,hS.len];refine⟨λm vs h'=>∃i:Nat,vs=[x,.str w,I l.length,I i]/\h'=h/\i<=l.length/\(∀j,j<i->∀s,l[j]?=some s->s≠w)/\m=l.length-i,l.length,?_,?_⟩
 ·exact⟨0,rfl,rfl,by omega,by omega,by omega⟩
 ·rintro m vs h' ⟨i,rfl,rfl,hi,hne,rfl⟩;by_cases hlt:i<l.length
  ·have cw:(i:Int)<l.length:=by omega
   obtain⟨s,hs⟩:∃s,l[i]?=some s:=⟨l[i],am0 hlt⟩;obtain⟨a,ha1,ha2⟩:=hS.at hs;by_cases he:w=s
   ·subst he;simp[zQ,cw,ha1,ha2];simp[GN];rw[Tt hs hne]
   ·simp(disch:=first|go_size|fail)[zQ,cw,ha1,ha2,he];refine⟨l.length-(i+1),by omega,i+1,by omega,by omega,λj hj s' hs'=>?_,rfl⟩;by_cases hji:j=i
    ·subst hji;rw[hs]at hs';cases hs';exact λe=>he e.symm
    ·exact hne j (by omega) s' hs'
  ·have cw:¬(i:Int)<l.length:=by omega
   simp[zQ,cw];simp[GN];simp[EX];rw[oS λj hj=>hne j (by omega)]
def e90:QE prog:=QE.fn 90 (λ_=>True) (fun(y:AV×List Str×Str)=>match y with|⟨x,l,w⟩=>[x,.str w]) (fun(y:AV×List Str×Str)(h:AH)=>match y with|⟨x,l,w⟩=>SSl h x l/\l.length<=1000) (fun(y:AV×List Str×Str)=>match y with|⟨x,l,w⟩=>I (idx l w)) (λh y hj hx=>match y,hx with|⟨x,l,w⟩,hx=>V3 h x l w hx)
theorem XY{tl h}(x:AV)(l:List Str)(w:Str){Q:QT}(hx:SSl h x l/\l.length<=1000)(hq:Q (I (idx l w)) h):tb (e90::tl) 90 [x,.str w] h Q:=aV (x,l,w) trivial hx hq
@[simp ↓] theorem aky:TbT e90 90:=aH e90
def SSx(h:AH)(id:Nat)(x:AV)(l:List Str):Prop:=(x=bU l\/∃k,x =.rsl k 0 l.length 1/\k≠id/\h.ab k=some (l.map .str))/\l.length<=1000
theorem SSx.set{h:AH}{id:Nat}{x:AV}{l:List Str}(hx:SSx h id x l)(o:dx):SSl (h.set id o) x l/\l.length<=1000:=by
 obtain⟨h1,h2⟩:=hx;refine⟨?_,h2⟩;rcases h1 with rfl|⟨k,rfl,hk,hc⟩
 ·exact .inl rfl
 ·exact .inr ⟨k,rfl,by rw[ak _ _ _ _ hk];exact hc⟩
theorem Rq(h:AH)(id:Nat)(x:Sc)(y:AV)(l:List Str)(hc:h.ab id=some (scC x))(hid:id<h.nx)(hx:x.Ok)(hy:SSx h id y l):aK prog 56 [.ptr id 0,y] h (I (bf x.s l x.t)) (h.set id (.cells (scC ⟨x.s,aL x.s l x.t⟩))):=by
 refine bm (R:=λv h'=>v=I (bf x.s l x.t)/\Ob h h' id (scC ⟨x.s,aL x.s l x.t⟩)) hid (dE _) (C56 (aW [e91,e90]) ?_) λv' h' ⟨h1,h2⟩=>⟨by rw[h1];exact .int _ _,h2⟩
 simp[g56];refine SQ hc hid hx ?_;refine XY (x:=y) (l:=l) (w:=bT x.s x.t) (hy.set _) ?_;have ho:Ob h (h.set id (.cells (scC ⟨x.s,bq x.s x.t⟩))) id (scC ⟨x.s,bq x.s x.t⟩):=(Ob.start hc).set _;generalize h.set id (.cells (scC ⟨x.s,bq x.s x.t⟩))=h1 at*;have hc2:h1.ab id=some [.str x.s,I (bq x.s x.t).pos,.bool (bq x.s x.t).first,.bool (bq x.s x.t).ok]:=ho.c;refine⟨λvs h2=>vs=[I (bf x.s l x.t)]/\Ob h h2 id (scC ⟨x.s,aL x.s l x.t⟩),?_,?_⟩
 ·have eT:aL x.s l x.t=⟨(bq x.s x.t).pos,(bq x.s x.t).first,(bq x.s x.t).ok&&decide (0<=idx l (bT x.s x.t))⟩:=rfl;rw[eT];cases hok:(bq x.s x.t).ok
  ·rw[hok]at hc2;simp[FU,hc2];simp[IY,hc2];exact⟨rfl,ho.set _⟩
  ·rw[hok]at hc2;simp[FU,hc2];simp[IY,hc2];exact⟨rfl,ho.set _⟩
 ·rintro vs h2 ⟨rfl,ho2⟩;simp[Ru];exact ho2
def e56:QE prog:=
 ⟨56,λargs h Q=>∃id x y l,args=[.ptr id 0,y]/\h.ab id=some (scC x)/\id<h.nx/\x.Ok/\SSx h id y l/\Q (I (bf x.s l x.t)) (h.set id (.cells (scC ⟨x.s,aL x.s l x.t⟩))),λargs h Q ⟨id,x,y,l,h1,h2,h3,h4,h5,h6⟩=>by
  subst h1;exact⟨_,_,Rq h id x y l h2 h3 h4 h5,h6⟩⟩
theorem zj{tl h}{id:Nat}{x:Sc}{y:AV}{l:List Str}{Q:QT}(hc:h.ab id=some (scC x))(hid:id<h.nx)(hx:x.Ok)(hy:SSx h id y l)
  (hq:Q (I (bf x.s l x.t)) (h.set id (.cells (scC ⟨x.s,aL x.s l x.t⟩)))):tb (e56::tl) 56 [.ptr id 0,y] h Q:=by
 rw[dJ _ tl 56 _ _ _ rfl];exact⟨id,x,y,l,rfl,hc,hid,hx,hy,hq⟩
@[simp ↓] theorem akg:TbT e56 56:=aH e56
theorem WL(s:Str)(t:PS)(ht:t.pos<=s.length):(fx s t).pos<=s.length:=by
 unfold fx bB;split
 ·rename_i h;simp only[amZ,ana]at h;split
  ·exact h.2
  ·exact ht
 ·exact ht
theorem afd(h:AH)(id:Nat)(x:Sc)(hc:h.ab id=some (scC x))(hid:id<h.nx)(hx:x.Ok):aK prog 129 [.ptr id 0] h (.int .u8 (lU x.s x.t).toNat) (h.set id (.cells (scC ⟨x.s,fx x.s x.t⟩))):=by
 obtain⟨s,⟨p,f,o⟩⟩:=x;have hp:p<=s.length:=hx.2;have hs:s.length<=1000000:=hx.1;refine bm (R:=λv h'=>v =.int .u8 (lU s ⟨p,f,o⟩).toNat/\Ob h h' id (scC ⟨s,fx s ⟨p,f,o⟩⟩)) hid (dE _) (ahq (aW [e94]) ?_) λv' h' ⟨h1,h2⟩=>⟨by rw[h1];exact .int _ _,h2⟩
 have hc':h.ab id=some [.str s,I p,.bool f,.bool o]:=hc;simp[afB];refine vZ hc hid hx ?_;have hj:∀h1:AH,Ob h h1 id (scC ⟨s,⟨(fx s ⟨p,f,o⟩).pos,f,o⟩⟩)->(fx s ⟨p,f,o⟩)=⟨(fx s ⟨p,f,o⟩).pos,f,false⟩->lU s ⟨p,f,o⟩=0->uF (tb [e94]) .nrm (.ptr id 0) (.int .u8 0) h1 λv h'=>v =.int .u8 (lU s ⟨p,f,o⟩).toNat/\Ob h h' id (scC ⟨s,fx s ⟨p,f,o⟩⟩):=by
  intro h1 ho1 e1 e2;have hc1:h1.ab id=some [.str s,I (fx s ⟨p,f,o⟩).pos,.bool f,.bool o]:=ho1.c;rw[e1]at hc1 ⊢;rw[e2];simp[uF,hc1];have:=ho1.set (scC ⟨s,⟨(fx s ⟨p,f,o⟩).pos,f,false⟩⟩);exact this
 refine⟨λx vs h1=>(x =.ret/\vs=[.ptr id 0,.int .u8 (lU s ⟨p,f,o⟩).toNat]/\Ob h h1 id (scC ⟨s,fx s ⟨p,f,o⟩⟩))\/
  (x =.nrm/\vs=[.ptr id 0,.int .u8 0]/\Ob h h1 id (scC ⟨s,⟨(fx s ⟨p,f,o⟩).pos,f,o⟩⟩)/\(fx s ⟨p,f,o⟩)=⟨(fx s ⟨p,f,o⟩).pos,f,false⟩/\lU s ⟨p,f,o⟩=0),?_,?_⟩
 ·cases hm:bB s ⟨p,f,o⟩
  ·have eT:fx s ⟨p,f,o⟩=⟨p,f,false⟩:=by unfold fx;rw[amU (by rw[hm];simp)]
   have eV:lU s ⟨p,f,o⟩=0:=by unfold lU;rw[amU (by rw[hm];simp)]
   simp[A6,eT,eV];exact Ob.start hc
  ·obtain⟨c,hcp⟩:=lT hm;simp only at hcp;have ho1:o=true:=by unfold bB at hm;simp only[amZ]at hm;exact hm.1
   subst ho1;have hlt:=(amV.1 hcp).1;have eT:fx s ⟨p,f,true⟩=⟨p+1,f,mq c⟩:=by unfold fx;rw[am1 hm,show s[(PS.mk p f true).pos]?=some c from hcp]
   have eV:lU s ⟨p,f,true⟩=D0 c:=by unfold lU;rw[am1 hm,show s[(PS.mk p f true).pos]?=some c from hcp]
   have hnx:(h.set id (.cells (scC ⟨s,⟨p+1,f,true⟩⟩))).nx=h.nx:=rfl;have ho2:Ob h (h.set id (.cells (scC ⟨s,⟨p+1,f,true⟩⟩))) id (scC ⟨s,⟨p+1,f,true⟩⟩):=(Ob.start hc).set _;simp(disch:=first|go_size|fail)[A6,hc'];have Jg:h.set id (.cells [.str s,I ((p:Int)+1),.bool f,.bool true])=h.set id (.cells (scC ⟨s,⟨p+1,f,true⟩⟩)):=rfl;rw[Jg];generalize h.set id (.cells (scC ⟨s,⟨p+1,f,true⟩⟩))=h1 at*;have hc2:h1.ab id=some [.str s,I ((p:Int)+1),.bool f,.bool true]:=ho2.c;simp(disch:=first|go_size|fail)[L4,hc2];have EM:(p:Int)+1-1=p:=by omega
   try rw[EM]
   have k1:=JR c;have k2:=Ke c;have k3:=Uj c;by_cases q1:c=92
   ·subst q1;simp[rm,bC hcp,eT,eV,D0,mq];exact ho2.bump _ (by omega)
   ·by_cases q2:c=34
    ·subst q2;simp[rm,bC hcp,eT,eV,D0,mq];exact ho2.bump _ (by omega)
    ·by_cases q3:c=110
     ·subst q3;simp[rm,bC hcp,eT,eV,D0,mq];exact ho2.bump _ (by omega)
     ·have eO:mq c=false:=by simp[mq,q1,q2,q3]
      have eW:D0 c=0:=by simp[D0,q1,q2,q3]
      simp[rm,bC hcp,k1,k2,k3,q1,q2,q3,eT,eV,eO,eW];exact ho2.bump _ (by omega)
 ·rintro x vs h1 (⟨rfl,rfl,ho1⟩|⟨rfl,rfl,ho1,e1,e2⟩)
  ·simp[uF];exact ho1
  ·exact hj h1 ho1 e1 e2
def Wa:QE prog:=QE.obj 129 (λ_ _=>True) scC (fun(_:Unit)=>[]) (fun(x:Sc)(y:Unit)=>match y with|_=>x.Ok) (fun(x:Sc)(y:Unit)=>match y with|_=>.int .u8 (lU x.s x.t).toNat) (fun(x:Sc)(y:Unit)=>match y with|_=>⟨x.s,fx x.s x.t⟩) (λh id x y hj hc hid hx=>match y,hx with|_,hx=>afd h id x hc hid hx)
theorem aae{tl h}{id:Nat}{x:Sc}{Q:QT}(hc:h.ab id=some (scC x))(hid:id<h.nx)(hx:x.Ok)(hq:Q (.int .u8 (lU x.s x.t).toNat) (h.set id (.cells (scC (⟨x.s,fx x.s x.t⟩))))):tb (Wa::tl) 129 (.ptr id 0::[]) h Q:=bF () trivial hc hid hx hq
@[simp ↓] theorem ahJ:TbT Wa 129:=aH Wa
end Go.Proofs.YtndpneieplopaaaGreatDoor
end
noncomputable section
namespace Go.St
open Go.Eng
open Go.Lib
theorem pQ(n:Int):oe n=encodeRune n:=by
 unfold oe encodeRune;by_cases h0:0<=n
 ·obtain⟨m,rfl⟩:=anu h0;by_cases hv:m<55296\/(57344<=m/\m<=1114111)
  ·have e:Utf8.valid (m:Int)=true:=by
    unfold Utf8.valid;simp;omega
   unfold Utf8.encode;simp only[e,anH,aou];by_cases h1:m<128
   ·rw[am1 h1,encodeRuneZ_one (by omega) (by omega)];simp
   ·rw[amU h1];by_cases h2:m<2048
    ·rw[am1 h2,encodeRuneZ_two (by omega) (by omega)];have a1:((192:Int)+(m:Int)/64).toNat=192+m/64:=by omega
     have a2:((128:Int)+(m:Int)%64).toNat=128+m%64:=by omega
     simp[a1,a2]
    ·rw[amU h2];by_cases h3:m<65536
     ·rw[am1 h3,encodeRuneZ_three (by omega)];have a1:((224:Int)+(m:Int)/4096).toNat=224+m/4096:=by omega
      have a2:((128:Int)+(m:Int)/64%64).toNat=128+m/64%64:=by omega
      have a3:((128:Int)+(m:Int)%64).toNat=128+m%64:=by omega
      simp[a1,a2,a3]
     ·rw[amU h3,encodeRuneZ_four (by omega) (by omega)];have a1:((240:Int)+(m:Int)/262144).toNat=240+m/262144:=by omega
      have a2:((128:Int)+(m:Int)/4096%64).toNat=128+m/4096%64:=by omega
      have a3:((128:Int)+(m:Int)/64%64).toNat=128+m/64%64:=by omega
      have a4:((128:Int)+(m:Int)%64).toNat=128+m%64:=by omega
      simp[a1,a2,a3,a4]
  ·have e:Utf8.valid (m:Int)=false:=by
    unfold Utf8.valid;simp;omega
   rw[encodeRuneZ_bad (by omega)];unfold Utf8.encode;simp only[e,am7,ans];decide
 ·have e:Utf8.valid n=false:=by
   unfold Utf8.valid;simp;omega
  rw[encodeRuneZ_bad (by omega)];unfold Utf8.encode;simp only[e,am7,ans];decide
theorem rA:∀(n m:Nat) (l:List UInt8),l.length<=n->l.length<=m->ew n l=ew m l
 |0,m,l,hn,_=>by
  have:l=[]:=am8 (by omega);subst this;cases m<;>rfl
 |n+1,0,l,_,hm=>by
  have:l=[]:=am8 (by omega);subst this;rfl
 |n+1,m+1,[],_,_=>rfl
 |n+1,m+1,b::l,hn,hm=>by
  have hw:=decodeL_width (b::l);unfold decodeL at hw;simp only[am6]at hn hm;simp only[ew];rw[rA n m _ (by rw[am3,am6];omega) (by rw[am3,am6];omega)]
theorem mb:aD []=[]:=rfl
theorem fG(l:List UInt8)(hne:l≠[]):aD l=((decodeL l).1:Int)::aD (l.drop (decodeL l).2):=by
 cases l with
 |nil=>exact absurd rfl hne
 |cons b l=>
  have hw:=decodeL_width (b::l);unfold aD;simp only[am6,ew];rw[rA l.length ((b::l).drop (decodeL (b::l)).2).length _ (by unfold decodeL at hw;rw[am3,am6];omega) (by unfold decodeL;omega)];rfl
theorem pf(n:Int)(ns:List Int):cC (n::ns)=oe n++cC ns:=rfl
theorem zo:∀(k:Nat) (l:List UInt8),l.length<=k->(cC (aD l)=l↔validD l=true)
 |0,l,h=>by
  have:l=[]:=am8 (by omega);subst this;simp[mb,cC,validD_nil]
 |k+1,l,h=>by
  by_cases hne:l=[]
  ·subst hne;simp[mb,cC,validD_nil]
  ·have hw:=decodeL_width l;have hle:=decodeL_le l hne;rw[fG l hne,pf,validD_step l hne,pQ];by_cases hv:(decodeL l).1=65533/\(decodeL l).2=1
   ·rw[am1 hv];simp only[am7,iff_false];intro e;have e0:encodeRune ((decodeL l).1:Int)=[239,191,189]:=by rw[hv.1];rfl
    rw[e0]at e;have:decodeL l=(65533,3):=by
     rw[<-e,decodeL_N];simp[decodeN]
    rw[this]at hv;exact absurd hv.2 (by decide)
   ·rw[amU hv,encode_decode l hne hv];have ih:=zo k (l.drop (decodeL l).2) (by rw[am3];omega);rw[<-ih];constructor
    ·intro e;have:l.take (decodeL l).2++cC (aD (l.drop (decodeL l).2))=l.take (decodeL l).2++l.drop (decodeL l).2:=by rw[e,an9]
     exact List.append_cancel_left this
    ·intro e;rw[e,an9]
theorem Qe(l:List UInt8):(cC (aD l)==l)=validD l:=by
 have:=zo l.length l (amY _);cases h:validD l with
 |true=>simpa using this.2 h
 |false=>
  rw[h]at this;simp only[am7,iff_false]at this;simpa using this
theorem zr:∀(l:List UInt8),asc l=true->(aD l).map bH=lf l
 |[],_=>rfl
 |b::l,h=>by
  simp only[asc,aoE,amZ]at h;have hb:b.toNat<128:=by simpa[Nat.blt_eq]using h.1
  rw[fG _ (by simp),decodeL_ascii b l hb];simp only[anO,aox,aow,lf];rw[zr l h.2];rfl
theorem qj(h:AH)(s:List UInt8)(hs:s.length<=1000000):kX h .s2r [.str s]=some (.rsl h.nx 0 (aD s).length 1,h.add (.cells ((aD s).map bH))):=by
 have hb:Nat.ble s.length 1000000=true:=by simpa using hs
 simp only[kX,hb,Bool.and_true];by_cases ha:asc s=true
 ·rw[am1 ha];have h1:=zr s ha;have h2:(aD s).length=s.length:=by
   have:=congrArg List.length h1;rw[aor,lM]at this;exact this
  rw[h1,h2]
 ·rw[amU ha,am1 trivial]
theorem Dn:∀ {ns:List Int} {s:List UInt8},wV (ns.map bH)=some s->s=cC ns
 |[],s,h=>by simp[wV]at h;subst h;rfl
 |n::ns,s,h=>by
  simp only[anO,bH,wV]at h;split at h
  ·rename_i hn;split at h
   ·rename_i l hl;cases h;rw[Dn (ns:=ns) hl,pf,pQ];unfold encodeRune;rw[encodeRuneZ_one (by omega) (by omega)];rfl
   ·cases h
  ·cases h
theorem EA:∀(ns:List Int),xq (ns.map bH)=some ns
 |[]=>rfl
 |n::ns=>by
  have h:=EA ns;show(match xq (ns.map bH)with|some l=>some (n::l)|none=>none)=_
  rw[h]
theorem Fk{h:AH}{x:AV}{ns:List Int}{m:Nat}(h1:cj h 1 x=some (ns.map bH))(h2:fj x=some m):kX h .r2s [x]=some (.str (cC ns),h):=by
 simp only[kX,h1,h2];split
 ·rename_i s hs;rw[Dn hs]
 ·rw[EA]
end Go.St
end
noncomputable section
namespace Go.Eng
open Go.RowKit
theorem kj.below{w w':World}(hb:Below w.heap.size w w'):kj w.heap.size w w':=
 ⟨hb.size,λb x hx _=>by rw[hb.block b (gg hx)];exact hx,hb.block,hb.os,hb.tape,hb.output⟩
theorem aK.lib{P:Program}{f:Nat}{args:List AV}{h:AH}{v:AV}(hf:Fex P f)
  (hc:∀(own:Nat->Prop) (β:Bl) (w:World) (cS:Array Value),bV own β h.H h.nx w->RL w.heap (LL own β h.H) β args cS.toList->Calls P f cS w λe w'=>∃cv,e =.returned cv/\VR w'.heap (LL own β h.H) β v cv/\Below w.heap.size w w'):aK P f args h v h:=
 ⟨hf,λown β w cS hs hR=>(hc own β w cS hs hR).mono λ_ _ ⟨cv,he,hv,hb⟩=>⟨cv,v,h,β,he,⟨rfl,rfl⟩,hs.quiet (.below hb),hv,(bJ.refl own β h w).quiet (.below hb)⟩⟩
theorem uv{cS:Array Value}{hp:Array Obj}{L:Nat->Prop}{β:Bl}{a:AV}(hR:RL hp L β [a] cS.toList):∃u,cS = #[u]/\VR hp L β a u:=by
 have hl:=hR.1;obtain⟨l⟩:=cS;match l,hl with
 |[u],_=>exact⟨u,rfl,hR.2 0 a u rfl rfl⟩
