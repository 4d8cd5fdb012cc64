/- The program's scanner. -/
import Derived.Test.YtndpneieplopaaaGreatDoorStFb
import Derived.Lib.MapLaws
import Derived.Lib.ValidLaws
import Derived.OpenShut
import Derived.Below
import Derived.Shelf.Strings.Builder1
set_option linter.unusedSimpArgs false
set_option linter.unusedVariables false
noncomputable section
namespace Go.Proofs.YtndpneieplopaaaGreatDoor
open Go.Eng Go.St Tryz
structure Sc where
 s:Str
 t:PS
def scC(x:Sc):LA:=[.str x.s,I x.t.pos,.bool x.t.first,.bool x.t.ok]
theorem dE(x:Sc):vt (scC x):=by
 intro H;rw[bK];refine⟨rfl,λi a b ha hb=>?_⟩;rw[ha]at hb;cases hb;match i with
 |0=>simp[scC]at ha;subst ha;exact .str _
 |1=>simp[scC]at ha;subst ha;exact .int _ _
 |2=>simp[scC]at ha;subst ha;exact .bool _
 |3=>simp[scC]at ha;subst ha;exact .bool _
 |i+4=>simp[scC]at ha
def Sc.Ok(x:Sc):Prop:=x.s.length<=1000000/\x.t.pos<=x.s.length
theorem lT{s:Str}{t:PS}(h:bB s t=true):∃c,s[t.pos]?=some c:=by
 unfold bB at h;simp only[amZ,ana]at h;exact⟨s[t.pos],am0 h.2⟩
theorem aa7(h:AH)(id:Nat)(x:Sc)(hc:h.ab id=some (scC x))(hid:id<h.nx)(hx:x.Ok):aK prog 94 [.ptr id 0] h (.bool (bB x.s x.t)) h:=by
 obtain⟨s,⟨p,f,o⟩⟩:=x;refine aZ (R:=λv h'=>v =.bool (bB s ⟨p,f,o⟩)/\h.nx<=h'.nx/\h'.H=h.H) (C94 (aW []) ?_) λv' h' ⟨h1,h2,h3⟩=>⟨by rw[h1];exact .bool _,h2,λi _=>by rw[h3]⟩
 have hc':h.ab id=some [.str s,I p,.bool f,.bool o]:=hc;cases o
 ·simp[g94,hc',bB];simp[Hg,hc',bB];simp[Ik,hc',bB]
 ·simp[g94,hc',bB];simp[Hg,hc',bB];simp[Ik,hc',bB]
def e94:QE prog:=QE.abx 94 (λ_ _=>True) scC (fun(_:Unit)=>[]) (fun(x:Sc)(y:Unit)=>match y with|_=>x.Ok) (fun(x:Sc)(y:Unit)=>match y with|_=>.bool (bB x.s x.t)) (λh id x y hj hc hid hx=>match y,hx with|_,hx=>aa7 h id x hc hid hx)
theorem vZ{tl h}{id:Nat}{x:Sc}{Q:QT}(hc:h.ab id=some (scC x))(hid:id<h.nx)(hx:x.Ok)(hq:Q (.bool (bB x.s x.t)) h):tb (e94::tl) 94 (.ptr id 0::[]) h Q:=y_ () trivial hc hid hx hq
@[simp ↓] theorem akh:TbT e94 94:=aH e94
theorem aaE(h:AH)(id:Nat)(x:Sc)(b:UInt8)(hc:h.ab id=some (scC x))(hid:id<h.nx)(hx:x.Ok):aK prog 126 [.ptr id 0,.int .u8 b.toNat] h (.tup []) (h.set id (.cells (scC ⟨x.s,bg x.s b x.t⟩))):=by
 obtain⟨s,⟨p,f,o⟩⟩:=x;refine bm (R:=λv h'=>v =.tup []/\Ob h h' id (scC ⟨s,bg s b ⟨p,f,o⟩⟩)) hid (dE _) (ahK (aW [e94]) ?_) λv' h' ⟨h1,h2⟩=>⟨by rw[h1];exact .tup [] [] rfl (by simp),h2⟩
 have hc':h.ab id=some [.str s,I p,.bool f,.bool o]:=hc;simp[adR];refine⟨λvs h'=>vs=[.ptr id 0,.bool (!(bB s ⟨p,f,o⟩&&(s[p]?== some b)))]/\Ob h h' id (scC ⟨s,⟨p,f,o⟩⟩),?_,?_⟩
 ·simp[JN];refine vZ hc (by simp;omega) hx ?_;refine⟨by simp,?_⟩;cases hm:bB s ⟨p,f,o⟩
  ·simp[hc',hm];simp[Cf,hc',hm];exact(Ob.start hc).bump _ (by simp)
  ·obtain⟨c,hcp⟩:=lT hm;simp[hc',hm];simp[Cf,hc',hm,bC hcp,b8n];rw[hcp];exact⟨rfl,(Ob.start hc).bump _ (by simp)⟩
 ·rintro vs h' ⟨rfl,ho⟩;have hc2:h'.ab id=some [.str s,I p,.bool f,.bool o]:=ho.c;have hp:p<=s.length:=hx.2;have hs:s.length<=1000000:=hx.1;by_cases hb:bB s ⟨p,f,o⟩=true/\s[p]?=some b
  ·have e:bg s b ⟨p,f,o⟩=⟨p+1,f,o⟩:=by unfold bg;rw[am1 hb]
   simp[Ch,hb.1,hb.2];simp(disch:=first|go_size|fail)[hc2,e];exact ho.set _
  ·have e:bg s b ⟨p,f,o⟩=⟨p,f,false⟩:=by unfold bg;rw[amU hb]
   have hb2:(!(bB s ⟨p,f,o⟩&&(s[p]?== some b)))=true:=by
    cases h1:bB s ⟨p,f,o⟩
    ·simp
    ·have:¬s[p]?=some b:=λe=>hb ⟨h1,e⟩
     simp[this]
   rw[hb2];simp(disch:=first|go_size|fail)[Ch,hc2,e];exact ho.set _
def MU:QE prog:=QE.obj 126 (λ_ _=>True) scC (fun(b:UInt8)=>[.int .u8 b.toNat]) (fun(x:Sc)(y:UInt8)=>match y with|b=>x.Ok) (fun(x:Sc)(y:UInt8)=>match y with|b=>.tup []) (fun(x:Sc)(y:UInt8)=>match y with|b=>⟨x.s,bg x.s b x.t⟩) (λh id x y hj hc hid hx=>match y,hx with|b,hx=>aaE h id x b hc hid hx)
theorem sn{tl h}{id:Nat}{x:Sc}(b:UInt8){Q:QT}(hc:h.ab id=some (scC x))(hid:id<h.nx)(hx:x.Ok)(hq:Q (.tup []) (h.set id (.cells (scC (⟨x.s,bg x.s b x.t⟩))))):tb (MU::tl) 126 (.ptr id 0::[.int .u8 b.toNat]) h Q:=bF b trivial hc hid hx hq
@[simp ↓] theorem ahn:TbT MU 126:=aH MU
theorem ED(s:Str)(b:UInt8)(t:PS)(ht:t.pos<=s.length):(bg s b t).pos<=s.length:=by
 unfold bg;split
 ·rename_i h;have:=(amV.1 h.2).1;show t.pos+1<=_;omega
 ·exact ht
theorem Ww(h:AH)(id:Nat)(x:Sc)(hc:h.ab id=some (scC x))(hid:id<h.nx)(hx:x.Ok):aK prog 95 [.ptr id 0] h (.tup []) (h.set id (.cells (scC ⟨x.s,mi x.s x.t⟩))):=by
 obtain⟨s,⟨p,f,o⟩⟩:=x;refine bm (R:=λv h'=>v =.tup []/\Ob h h' id (scC ⟨s,mi s ⟨p,f,o⟩⟩)) hid (dE _) (C95 (aW [MU]) ?_) λv' h' ⟨h1,h2⟩=>⟨by rw[h1];exact .tup [] [] rfl (by simp),h2⟩
 have hc':h.ab id=some [.str s,I p,.bool f,.bool o]:=hc;cases f
 ·simp[g95,hc'];refine sn (b:=32) hc hid hx ?_;exact(Ob.start hc).set _
 ·simp[g95,hc'];exact(Ob.start hc).set _
def e95:QE prog:=QE.obj 95 (λ_ _=>True) scC (fun(_:Unit)=>[]) (fun(x:Sc)(y:Unit)=>match y with|_=>x.Ok) (fun(x:Sc)(y:Unit)=>match y with|_=>.tup []) (fun(x:Sc)(y:Unit)=>match y with|_=>⟨x.s,mi x.s x.t⟩) (λh id x y hj hc hid hx=>match y,hx with|_,hx=>Ww h id x hc hid hx)
theorem R7{tl h}{id:Nat}{x:Sc}{Q:QT}(hc:h.ab id=some (scC x))(hid:id<h.nx)(hx:x.Ok)(hq:Q (.tup []) (h.set id (.cells (scC (⟨x.s,mi x.s x.t⟩))))):tb (e95::tl) 95 (.ptr id 0::[]) h Q:=bF () trivial hc hid hx hq
@[simp ↓] theorem akG:TbT e95 95:=aH e95
theorem vk(s:Str)(cl:Bool)(t:PS)(ht:t.pos<=s.length):t.pos+(bZ s cl t).length<=s.length:=by
 have:=mD (bl cl) (s.drop t.pos);rw[am3]at this;unfold bZ;omega
theorem Y5(h:AH)(id:Nat)(x:Sc)(cl:Bool)(hc:h.ab id=some (scC x))(hid:id<h.nx)(hx:x.Ok):aK prog 122 [.ptr id 0,.bool cl] h (.str (bZ x.s cl x.t)) (h.set id (.cells (scC ⟨x.s,vw x.s cl x.t⟩))):=by
 obtain⟨s,⟨p,f,o⟩⟩:=x;have hp:p<=s.length:=hx.2;have hs:s.length<=1000000:=hx.1;have hw:=vk s cl ⟨p,f,o⟩ hp;refine bm (R:=λv h'=>v =.str (bZ s cl ⟨p,f,o⟩)/\Ob h h' id (scC ⟨s,vw s cl ⟨p,f,o⟩⟩)) hid (dE _) (ait (aW []) ?_) λv' h' ⟨h1,h2⟩=>⟨by rw[h1];exact .str _,h2⟩
 have hc':h.ab id=some [.str s,I p,.bool f,.bool o]:=hc;generalize hW:bZ s cl ⟨p,f,o⟩=W at*;simp only at hw;simp[adN,hc'];refine⟨λm vs h'=>∃q,vs=[.ptr id 0,.bool cl,I p]/\Ob h h' id (scC ⟨s,⟨q,f,o⟩⟩)/\p<=q/\q<=p+W.length/\m=p+W.length-q,W.length,?_,?_⟩
 ·exact⟨p,rfl,Ob.start hc,by omega,by omega,by omega⟩
 ·rintro m vs h' ⟨q,rfl,ho,hq0,hq1,rfl⟩;have hc2:h'.ab id=some [.str s,I q,.bool f,.bool o]:=ho.c;simp[K8];refine⟨λvs h2=>vs=[.ptr id 0,.bool cl,I p,.bool (decide (q<p+W.length))]/\Ob h h2 id (scC ⟨s,⟨q,f,o⟩⟩),?_,?_⟩
  ·by_cases hlt:q<s.length
   ·obtain⟨c,hcp⟩:∃c,s[q]?=some c:=⟨s[q],am0 hlt⟩;have cw:(q:Int)<s.length:=by omega
    have htw:=Tj (bl cl) (s.drop p) (q-p) (by rw[show(s.drop p).takeWhile (bl cl)=W from hW];omega);rw[show(s.drop p).takeWhile (bl cl)=W from hW,anl,show p+(q-p)=q by omega,hcp]at htw;have CW:decide (q<p+W.length)=bl cl c:=by
     cases hb:bl cl c
     ·rw[ano,show q<p+W.length↔q-p<W.length by omega,htw];rintro⟨x,hx1,hx2⟩;cases hx1;rw[hb]at hx2;cases hx2
     ·rw[decide_eq_true_iff,show q<p+W.length↔q-p<W.length by omega,htw];exact⟨c,rfl,hb⟩
    rw[CW];simp[BN,hc2];simp[AE,hc2,cw];have h8:=AY c;have h9:=SN c;by_cases h32:c=32
    ·simp[rh,hc2,bC hcp,h8,h32];simp[rk];simp[ra];exact⟨by simp[bl],ho.bump _ (by simp)⟩
    ·cases cl
     ·simp[rh,hc2,bC hcp,h8,h32];simp[rk];simp[ra];exact⟨by simp[bl,h32],ho.bump _ (by simp)⟩
     ·simp[rh,hc2,bC hcp,h8,h32];simp[rk,hc2];simp[ra,hc2,bC hcp,h9];exact⟨by simp[bl,h32],ho.bump _ (by simp)⟩
   ·have cw:¬(q:Int)<s.length:=by omega
    have CW:¬q<p+W.length:=by omega
    simp[BN,hc2];simp[AE,hc2,cw];simp[rh];simp(disch:=first|go_size|fail)[rk];simp(disch:=first|go_size|fail)[ra,CW];exact ho.bump _ (by simp)
  ·rintro vs h2 ⟨rfl,ho2⟩;have hc3:h2.ab id=some [.str s,I q,.bool f,.bool o]:=ho2.c;by_cases hlt:q<p+W.length
   ·simp(disch:=first|go_size|fail)[AL,hlt,hc3];exact⟨p+W.length-(q+1),by omega,q+1,ho2.set _,by omega,by omega,rfl⟩
   ·obtain rfl:q=p+W.length:=by omega
    simp only[hlt,decide_false];simp[AL];simp[K9];generalize hq:p+W.length=q at*;simp[Bp,hc3];refine⟨λvs h3=>vs=[.ptr id 0,I p]/\Ob h h3 id (scC ⟨s,vw s cl ⟨p,f,o⟩⟩),?_,?_⟩
    ·have eT:vw s cl ⟨p,f,o⟩=⟨q,f,o && !W.isEmpty⟩:=by unfold vw;rw[hW];simp[hq]
     rw[eT];by_cases he:p=q
     ·have:W=[]:=am8 (by omega);subst this;subst he;simp[A0,hc3];exact ho2.set _
     ·have hne:W≠[]:=by rintro rfl;simp at hq;exact he hq
      have he':¬(p:Int)=q:=by omega
      simp[A0,he'];have:W.isEmpty=false:=by simpa using hne
      rw[this];simpa using ho2
    ·rintro vs h3 ⟨rfl,ho3⟩;have eT:vw s cl ⟨p,f,o⟩=⟨q,f,o && !W.isEmpty⟩:=by unfold vw;rw[hW];simp[hq]
     have hc4:h3.ab id=some [.str s,I q,.bool f,.bool (o && !W.isEmpty)]:=by rw[ho3.c,eT];rfl
     simp[Kv,hc4];simp[LJ,hc4,nG (show p<=q by omega) (show q<=s.length by omega)];refine⟨?_,ho3.bump _ (by simp)⟩;have:=Mr (bl cl) (s.drop p);rw[show(s.drop p).takeWhile (bl cl)=W from hW]at this;rw[show q-p=W.length by omega];exact this
def MQ:QE prog:=QE.obj 122 (λ_ _=>True) scC (fun(cl:Bool)=>[.bool cl]) (fun(x:Sc)(y:Bool)=>match y with|cl=>x.Ok) (fun(x:Sc)(y:Bool)=>match y with|cl=>.str (bZ x.s cl x.t)) (fun(x:Sc)(y:Bool)=>match y with|cl=>⟨x.s,vw x.s cl x.t⟩) (λh id x y hj hc hid hx=>match y,hx with|cl,hx=>Y5 h id x cl hc hid hx)
theorem Un{tl h}{id:Nat}{x:Sc}(cl:Bool){Q:QT}(hc:h.ab id=some (scC x))(hid:id<h.nx)(hx:x.Ok)(hq:Q (.str (bZ x.s cl x.t)) (h.set id (.cells (scC (⟨x.s,vw x.s cl x.t⟩))))):tb (MQ::tl) 122 (.ptr id 0::[.bool cl]) h Q:=bF cl trivial hc hid hx hq
@[simp ↓] theorem ah1:TbT MQ 122:=aH MQ
theorem sJ(s:Str)(t:PS)(ht:t.pos<=s.length):(mi s t).pos<=s.length:=by
 unfold mi;split
 ·exact ht
 ·exact ED s 32 t ht
theorem OZ(s:Str)(cl:Bool)(t:PS)(ht:t.pos<=s.length):(vw s cl t).pos<=s.length:=vk s cl t ht
theorem Rh(s:Str)(t:PS)(ht:t.pos<=s.length):(bq s t).pos<=s.length:=OZ s false _ (sJ s t ht)
theorem ZA(h:AH)(id:Nat)(x:Sc)(hc:h.ab id=some (scC x))(hid:id<h.nx)(hx:x.Ok):aK prog 91 [.ptr id 0] h (.str (bT x.s x.t)) (h.set id (.cells (scC ⟨x.s,bq x.s x.t⟩))):=by
 refine bm (R:=λv h'=>v =.str (bT x.s x.t)/\Ob h h' id (scC ⟨x.s,bq x.s x.t⟩)) hid (dE _) (C91 (aW [e95,MQ]) ?_) λv' h' ⟨h1,h2⟩=>⟨by rw[h1];exact .str _,h2⟩
 simp[g91];refine R7 hc hid hx ?_;refine Un (cl:=false) (x:=⟨x.s,mi x.s x.t⟩) (eD _ _ _ _ rfl) hid ⟨hx.1,sJ _ _ hx.2⟩ ?_;exact⟨rfl,((Ob.start hc).set _).set _⟩
def e91:QE prog:=QE.obj 91 (λ_ _=>True) scC (fun(_:Unit)=>[]) (fun(x:Sc)(y:Unit)=>match y with|_=>x.Ok) (fun(x:Sc)(y:Unit)=>match y with|_=>.str (bT x.s x.t)) (fun(x:Sc)(y:Unit)=>match y with|_=>⟨x.s,bq x.s x.t⟩) (λh id x y hj hc hid hx=>match y,hx with|_,hx=>ZA h id x hc hid hx)
theorem SQ{tl h}{id:Nat}{x:Sc}{Q:QT}(hc:h.ab id=some (scC x))(hid:id<h.nx)(hx:x.Ok)(hq:Q (.str (bT x.s x.t)) (h.set id (.cells (scC (⟨x.s,bq x.s x.t⟩))))):tb (e91::tl) 91 (.ptr id 0::[]) h Q:=bF () trivial hc hid hx hq
@[simp ↓] theorem aku:TbT e91 91:=aH e91
def bU(l:List Str):AV:=.psl (l.map λs=>[.str s])
theorem qD(l:List Str)(w:Str):-1<=idx l w:=by unfold idx;split<;>omega
theorem oz(l:List Str)(w:Str):idx l w<l.length:=by
 unfold idx;split
 ·rename_i i hi;have:=aCm.1 hi;obtain⟨h1,_⟩:=this;omega
 ·omega
theorem Tt{l:List Str}{w:Str}{i:Nat}(hs:l[i]?=some w)(hne:∀j,j<i->∀s,l[j]?=some s->s≠w):idx l w=i:=by
 obtain⟨hlt,he⟩:=amV.1 hs;have:l.findIdx? (· == w)=some i:=by
  rw[aCm];refine⟨hlt,by simp[he],λj hj=>?_⟩;have:=hne j hj l[j] (am0 (by omega));simpa using this
 unfold idx;rw[this]
theorem oS{l:List Str}{w:Str}(hne:∀j,j<l.length->∀s,l[j]?=some s->s≠w):idx l w = -1:=by
 have:l.findIdx? (· == w)=none:=by
  rw[List.findIdx?_eq_none_iff];intro x hx;obtain⟨j,hj,rfl⟩:=List.getElem_of_mem hx;have:=hne j hj l[j] (am0 hj);simpa using this
 unfold idx;rw[this]
theorem eU(h:AH)(l:List Str)(i:Nat)(s:Str)(hi:l[i]?=some s):aF h 1 (bU l) (I i)=some (.lz [.str s],h):=by
 have hlt:i<l.length:=(amV.1 hi).1;have h2:=am0 hlt;rw[hi]at h2;have he:l[i]=s:=(anW h2).symm;exact da (by simp[hlt,he]) rfl
theorem mQ(h:AH)(l:List Str):bh h (bU l)=some (I l.length,h):=by simp[bU]
def SSl(h:AH)(x:AV)(l:List Str):Prop:=x=bU l\/∃k,x =.rsl k 0 l.length 1/\h.ab k=some (l.map .str)
theorem SSl.at{h:AH}{x:AV}{l:List Str}(hx:SSl h x l){i:Nat}{s:Str}(hi:l[i]?=some s):∃a,aF h 1 x (I i)=some (a,h)/\eK h a=some (.str s,h):=by
 have hlt:i<l.length:=(amV.1 hi).1;rcases hx with rfl|⟨k,rfl,hk⟩
 ·refine⟨_,eU h l i s hi,?_⟩;simp[]
 ·refine⟨.ptr k i,?_,?_⟩
  ·have:=dY (h:=h) (z:=1) (id:=k) (off:=0) (len:=l.length) (i:=(i:Int)) (by omega) (by omega);simpa using this
  ·have hm:(l.map AV.str)[i]?=some (.str s):=by rw[anb,hi];rfl
   simp only[eK,jQ,hk,hm]
theorem SSl.len{h:AH}{x:AV}{l:List Str}(hx:SSl h x l)(g:AH):bh g x=some (I l.length,g):=by
 rcases hx with rfl|⟨k,rfl,hk⟩
 ·exact mQ g l
 ·simp[bh,fj]
theorem V3(h:AH)(x:AV)(l:List Str)(w:Str)(hl:SSl h x l/\l.length<=1000):aK prog 90 [x,.str w] h (I (idx l w)) h:=by
 obtain⟨hS,hl⟩:=hl;refine aZ (R:=λv h'=>v=I (idx l w)/\h'=h) (C90 (aW []) ?_) λv' h' ⟨h1,h2⟩=>⟨by rw[h1];exact .int _ _,by rw[h2];exact amY _,λi _=>by rw[h2]⟩
 simp[g90,hS.len];refine⟨λm vs h'=>∃i:Nat,vs=[x,.str w,I l.length,I i]/\h'=h/\i<=l.length/\(∀j,j<i->∀s,l[j]?=some s->s≠w)/\m=l.length-i,l.length,?_,?_⟩
 ·exact⟨0,rfl,rfl,by omega,by omega,by omega⟩
 ·rintro m vs h' ⟨i,rfl,rfl,hi,hne,rfl⟩;by_cases hlt:i<l.length
  ·have cw:(i:Int)<l.length:=by omega
   obtain⟨s,hs⟩:∃s,l[i]?=some s:=⟨l[i],am0 hlt⟩;obtain⟨a,ha1,ha2⟩:=hS.at hs;by_cases he:w=s
   ·subst he;simp[zQ,cw,ha1,ha2];simp[GN];rw[Tt hs hne]
   ·simp(disch:=first|go_size|fail)[zQ,cw,ha1,ha2,he];refine⟨l.length-(i+1),by omega,i+1,by omega,by omega,λj hj s' hs'=>?_,rfl⟩;by_cases hji:j=i
    ·subst hji;rw[hs]at hs';cases hs';exact λe=>he e.symm
    ·exact hne j (by omega) s' hs'
  ·have cw:¬(i:Int)<l.length:=by omega
   simp[zQ,cw];simp[GN];simp[EX];rw[oS λj hj=>hne j (by omega)]
def e90:QE prog:=QE.fn 90 (λ_=>True) (fun(y:AV×List Str×Str)=>match y with|⟨x,l,w⟩=>[x,.str w]) (fun(y:AV×List Str×Str)(h:AH)=>match y with|⟨x,l,w⟩=>SSl h x l/\l.length<=1000) (fun(y:AV×List Str×Str)=>match y with|⟨x,l,w⟩=>I (idx l w)) (λh y hj hx=>match y,hx with|⟨x,l,w⟩,hx=>V3 h x l w hx)
theorem XY{tl h}(x:AV)(l:List Str)(w:Str){Q:QT}(hx:SSl h x l/\l.length<=1000)(hq:Q (I (idx l w)) h):tb (e90::tl) 90 [x,.str w] h Q:=aV (x,l,w) trivial hx hq
@[simp ↓] theorem aky:TbT e90 90:=aH e90
def SSx(h:AH)(id:Nat)(x:AV)(l:List Str):Prop:=(x=bU l\/∃k,x =.rsl k 0 l.length 1/\k≠id/\h.ab k=some (l.map .str))/\l.length<=1000
theorem SSx.set{h:AH}{id:Nat}{x:AV}{l:List Str}(hx:SSx h id x l)(o:dx):SSl (h.set id o) x l/\l.length<=1000:=by
 obtain⟨h1,h2⟩:=hx;refine⟨?_,h2⟩;rcases h1 with rfl|⟨k,rfl,hk,hc⟩
 ·exact .inl rfl
 ·exact .inr ⟨k,rfl,by rw[ak _ _ _ _ hk];exact hc⟩
theorem Rq(h:AH)(id:Nat)(x:Sc)(y:AV)(l:List Str)(hc:h.ab id=some (scC x))(hid:id<h.nx)(hx:x.Ok)(hy:SSx h id y l):aK prog 56 [.ptr id 0,y] h (I (bf x.s l x.t)) (h.set id (.cells (scC ⟨x.s,aL x.s l x.t⟩))):=by
 refine bm (R:=λv h'=>v=I (bf x.s l x.t)/\Ob h h' id (scC ⟨x.s,aL x.s l x.t⟩)) hid (dE _) (C56 (aW [e91,e90]) ?_) λv' h' ⟨h1,h2⟩=>⟨by rw[h1];exact .int _ _,h2⟩
 simp[g56];refine SQ hc hid hx ?_;refine XY (x:=y) (l:=l) (w:=bT x.s x.t) (hy.set _) ?_;have ho:Ob h (h.set id (.cells (scC ⟨x.s,bq x.s x.t⟩))) id (scC ⟨x.s,bq x.s x.t⟩):=(Ob.start hc).set _;generalize h.set id (.cells (scC ⟨x.s,bq x.s x.t⟩))=h1 at*;have hc2:h1.ab id=some [.str x.s,I (bq x.s x.t).pos,.bool (bq x.s x.t).first,.bool (bq x.s x.t).ok]:=ho.c;refine⟨λvs h2=>vs=[I (bf x.s l x.t)]/\Ob h h2 id (scC ⟨x.s,aL x.s l x.t⟩),?_,?_⟩
 ·have eT:aL x.s l x.t=⟨(bq x.s x.t).pos,(bq x.s x.t).first,(bq x.s x.t).ok&&decide (0<=idx l (bT x.s x.t))⟩:=rfl;rw[eT];cases hok:(bq x.s x.t).ok
  ·rw[hok]at hc2;simp[FU,hc2];simp[IY,hc2];exact⟨rfl,ho.set _⟩
  ·rw[hok]at hc2;simp[FU,hc2];simp[IY,hc2];exact⟨rfl,ho.set _⟩
 ·rintro vs h2 ⟨rfl,ho2⟩;simp[Ru];exact ho2
def e56:QE prog:=
 ⟨56,λargs h Q=>∃id x y l,args=[.ptr id 0,y]/\h.ab id=some (scC x)/\id<h.nx/\x.Ok/\SSx h id y l/\Q (I (bf x.s l x.t)) (h.set id (.cells (scC ⟨x.s,aL x.s l x.t⟩))),λargs h Q ⟨id,x,y,l,h1,h2,h3,h4,h5,h6⟩=>by
  subst h1;exact⟨_,_,Rq h id x y l h2 h3 h4 h5,h6⟩⟩
theorem zj{tl h}{id:Nat}{x:Sc}{y:AV}{l:List Str}{Q:QT}(hc:h.ab id=some (scC x))(hid:id<h.nx)(hx:x.Ok)(hy:SSx h id y l)
  (hq:Q (I (bf x.s l x.t)) (h.set id (.cells (scC ⟨x.s,aL x.s l x.t⟩)))):tb (e56::tl) 56 [.ptr id 0,y] h Q:=by
 rw[dJ _ tl 56 _ _ _ rfl];exact⟨id,x,y,l,rfl,hc,hid,hx,hy,hq⟩
@[simp ↓] theorem akg:TbT e56 56:=aH e56
theorem WL(s:Str)(t:PS)(ht:t.pos<=s.length):(fx s t).pos<=s.length:=by
 unfold fx bB;split
 ·rename_i h;simp only[amZ,ana]at h;split
  ·exact h.2
  ·exact ht
 ·exact ht
theorem afd(h:AH)(id:Nat)(x:Sc)(hc:h.ab id=some (scC x))(hid:id<h.nx)(hx:x.Ok):aK prog 129 [.ptr id 0] h (.int .u8 (lU x.s x.t).toNat) (h.set id (.cells (scC ⟨x.s,fx x.s x.t⟩))):=by
 obtain⟨s,⟨p,f,o⟩⟩:=x;have hp:p<=s.length:=hx.2;have hs:s.length<=1000000:=hx.1;refine bm (R:=λv h'=>v =.int .u8 (lU s ⟨p,f,o⟩).toNat/\Ob h h' id (scC ⟨s,fx s ⟨p,f,o⟩⟩)) hid (dE _) (ahq (aW [e94]) ?_) λv' h' ⟨h1,h2⟩=>⟨by rw[h1];exact .int _ _,h2⟩
 have hc':h.ab id=some [.str s,I p,.bool f,.bool o]:=hc;simp[afB];refine vZ hc hid hx ?_;have hj:∀h1:AH,Ob h h1 id (scC ⟨s,⟨(fx s ⟨p,f,o⟩).pos,f,o⟩⟩)->(fx s ⟨p,f,o⟩)=⟨(fx s ⟨p,f,o⟩).pos,f,false⟩->lU s ⟨p,f,o⟩=0->uF (tb [e94]) .nrm (.ptr id 0) (.int .u8 0) h1 λv h'=>v =.int .u8 (lU s ⟨p,f,o⟩).toNat/\Ob h h' id (scC ⟨s,fx s ⟨p,f,o⟩⟩):=by
  intro h1 ho1 e1 e2;have hc1:h1.ab id=some [.str s,I (fx s ⟨p,f,o⟩).pos,.bool f,.bool o]:=ho1.c;rw[e1]at hc1 ⊢;rw[e2];simp[uF,hc1];have:=ho1.set (scC ⟨s,⟨(fx s ⟨p,f,o⟩).pos,f,false⟩⟩);exact this
 refine⟨λx vs h1=>(x =.ret/\vs=[.ptr id 0,.int .u8 (lU s ⟨p,f,o⟩).toNat]/\Ob h h1 id (scC ⟨s,fx s ⟨p,f,o⟩⟩))\/
  (x =.nrm/\vs=[.ptr id 0,.int .u8 0]/\Ob h h1 id (scC ⟨s,⟨(fx s ⟨p,f,o⟩).pos,f,o⟩⟩)/\(fx s ⟨p,f,o⟩)=⟨(fx s ⟨p,f,o⟩).pos,f,false⟩/\lU s ⟨p,f,o⟩=0),?_,?_⟩
 ·cases hm:bB s ⟨p,f,o⟩
  ·have eT:fx s ⟨p,f,o⟩=⟨p,f,false⟩:=by unfold fx;rw[amU (by rw[hm];simp)]
   have eV:lU s ⟨p,f,o⟩=0:=by unfold lU;rw[amU (by rw[hm];simp)]
   simp[A6,eT,eV];exact Ob.start hc
  ·obtain⟨c,hcp⟩:=lT hm;simp only at hcp;have ho1:o=true:=by unfold bB at hm;simp only[amZ]at hm;exact hm.1
   subst ho1;have hlt:=(amV.1 hcp).1;have eT:fx s ⟨p,f,true⟩=⟨p+1,f,mq c⟩:=by unfold fx;rw[am1 hm,show s[(PS.mk p f true).pos]?=some c from hcp]
   have eV:lU s ⟨p,f,true⟩=D0 c:=by unfold lU;rw[am1 hm,show s[(PS.mk p f true).pos]?=some c from hcp]
   have hnx:(h.set id (.cells (scC ⟨s,⟨p+1,f,true⟩⟩))).nx=h.nx:=rfl;have ho2:Ob h (h.set id (.cells (scC ⟨s,⟨p+1,f,true⟩⟩))) id (scC ⟨s,⟨p+1,f,true⟩⟩):=(Ob.start hc).set _;simp(disch:=first|go_size|fail)[A6,hc'];have Jg:h.set id (.cells [.str s,I ((p:Int)+1),.bool f,.bool true])=h.set id (.cells (scC ⟨s,⟨p+1,f,true⟩⟩)):=rfl;rw[Jg];generalize h.set id (.cells (scC ⟨s,⟨p+1,f,true⟩⟩))=h1 at*;have hc2:h1.ab id=some [.str s,I ((p:Int)+1),.bool f,.bool true]:=ho2.c;simp(disch:=first|go_size|fail)[L4,hc2];have EM:(p:Int)+1-1=p:=by omega
   try rw[EM]
   have k1:=JR c;have k2:=Ke c;have k3:=Uj c;by_cases q1:c=92
   ·subst q1;simp[rm,bC hcp,eT,eV,D0,mq];exact ho2.bump _ (by omega)
   ·by_cases q2:c=34
    ·subst q2;simp[rm,bC hcp,eT,eV,D0,mq];exact ho2.bump _ (by omega)
    ·by_cases q3:c=110
     ·subst q3;simp[rm,bC hcp,eT,eV,D0,mq];exact ho2.bump _ (by omega)
     ·have eO:mq c=false:=by simp[mq,q1,q2,q3]
      have eW:D0 c=0:=by simp[D0,q1,q2,q3]
      simp[rm,bC hcp,k1,k2,k3,q1,q2,q3,eT,eV,eO,eW];exact ho2.bump _ (by omega)
 ·rintro x vs h1 (⟨rfl,rfl,ho1⟩|⟨rfl,rfl,ho1,e1,e2⟩)
  ·simp[uF];exact ho1
  ·exact hj h1 ho1 e1 e2
def Wa:QE prog:=QE.obj 129 (λ_ _=>True) scC (fun(_:Unit)=>[]) (fun(x:Sc)(y:Unit)=>match y with|_=>x.Ok) (fun(x:Sc)(y:Unit)=>match y with|_=>.int .u8 (lU x.s x.t).toNat) (fun(x:Sc)(y:Unit)=>match y with|_=>⟨x.s,fx x.s x.t⟩) (λh id x y hj hc hid hx=>match y,hx with|_,hx=>afd h id x hc hid hx)
theorem aae{tl h}{id:Nat}{x:Sc}{Q:QT}(hc:h.ab id=some (scC x))(hid:id<h.nx)(hx:x.Ok)(hq:Q (.int .u8 (lU x.s x.t).toNat) (h.set id (.cells (scC (⟨x.s,fx x.s x.t⟩))))):tb (Wa::tl) 129 (.ptr id 0::[]) h Q:=bF () trivial hc hid hx hq
@[simp ↓] theorem ahJ:TbT Wa 129:=aH Wa
end Go.Proofs.YtndpneieplopaaaGreatDoor
end
noncomputable section
namespace Go.St
open Go.Eng
open Go.Lib
theorem pQ(n:Int):oe n=encodeRune n:=by
 unfold oe encodeRune;by_cases h0:0<=n
 ·obtain⟨m,rfl⟩:=anu h0;by_cases hv:m<55296\/(57344<=m/\m<=1114111)
  ·have e:Utf8.valid (m:Int)=true:=by
    unfold Utf8.valid;simp;omega
   unfold Utf8.encode;simp only[e,anH,aou];by_cases h1:m<128
   ·rw[am1 h1,encodeRuneZ_one (by omega) (by omega)];simp
   ·rw[amU h1];by_cases h2:m<2048
    ·rw[am1 h2,encodeRuneZ_two (by omega) (by omega)];have a1:((192:Int)+(m:Int)/64).toNat=192+m/64:=by omega
     have a2:((128:Int)+(m:Int)%64).toNat=128+m%64:=by omega
     simp[a1,a2]
    ·rw[amU h2];by_cases h3:m<65536
     ·rw[am1 h3,encodeRuneZ_three (by omega)];have a1:((224:Int)+(m:Int)/4096).toNat=224+m/4096:=by omega
      have a2:((128:Int)+(m:Int)/64%64).toNat=128+m/64%64:=by omega
      have a3:((128:Int)+(m:Int)%64).toNat=128+m%64:=by omega
      simp[a1,a2,a3]
     ·rw[amU h3,encodeRuneZ_four (by omega) (by omega)];have a1:((240:Int)+(m:Int)/262144).toNat=240+m/262144:=by omega
      have a2:((128:Int)+(m:Int)/4096%64).toNat=128+m/4096%64:=by omega
      have a3:((128:Int)+(m:Int)/64%64).toNat=128+m/64%64:=by omega
      have a4:((128:Int)+(m:Int)%64).toNat=128+m%64:=by omega
      simp[a1,a2,a3,a4]
  ·have e:Utf8.valid (m:Int)=false:=by
    unfold Utf8.valid;simp;omega
   rw[encodeRuneZ_bad (by omega)];unfold Utf8.encode;simp only[e,am7,ans];decide
 ·have e:Utf8.valid n=false:=by
   unfold Utf8.valid;simp;omega
  rw[encodeRuneZ_bad (by omega)];unfold Utf8.encode;simp only[e,am7,ans];decide
theorem rA:∀(n m:Nat) (l:List UInt8),l.length<=n->l.length<=m->M1 n l=M1 m l
 |0,m,l,hn,_=>by
  have:l=[]:=am8 (by omega);subst this;cases m<;>rfl
 |n+1,0,l,_,hm=>by
  have:l=[]:=am8 (by omega);subst this;rfl
 |n+1,m+1,[],_,_=>rfl
 |n+1,m+1,b::l,hn,hm=>by
  have hw:=decodeL_width (b::l);unfold decodeL at hw;simp only[am6]at hn hm;simp only[M1];rw[rA n m _ (by rw[am3,am6];omega) (by rw[am3,am6];omega)]
theorem mb:aD []=[]:=rfl
theorem fG(l:List UInt8)(hne:l≠[]):aD l=((decodeL l).1:Int)::aD (l.drop (decodeL l).2):=by
 cases l with
 |nil=>exact absurd rfl hne
 |cons b l=>
  have hw:=decodeL_width (b::l);unfold aD;simp only[am6,M1];rw[rA l.length ((b::l).drop (decodeL (b::l)).2).length _ (by unfold decodeL at hw;rw[am3,am6];omega) (by unfold decodeL;omega)];rfl
theorem pf(n:Int)(ns:List Int):cC (n::ns)=oe n++cC ns:=rfl
theorem zo:∀(k:Nat) (l:List UInt8),l.length<=k->(cC (aD l)=l↔validD l=true)
 |0,l,h=>by
  have:l=[]:=am8 (by omega);subst this;simp[mb,cC,validD_nil]
 |k+1,l,h=>by
  by_cases hne:l=[]
  ·subst hne;simp[mb,cC,validD_nil]
  ·have hw:=decodeL_width l;have hle:=decodeL_le l hne;rw[fG l hne,pf,validD_step l hne,pQ];by_cases hv:(decodeL l).1=65533/\(decodeL l).2=1
   ·rw[am1 hv];simp only[am7,iff_false];intro e;have e0:encodeRune ((decodeL l).1:Int)=[239,191,189]:=by rw[hv.1];rfl
    rw[e0]at e;have:decodeL l=(65533,3):=by
     rw[<-e,decodeL_N];simp[decodeN]
    rw[this]at hv;exact absurd hv.2 (by decide)
   ·rw[amU hv,encode_decode l hne hv];have ih:=zo k (l.drop (decodeL l).2) (by rw[am3];omega);rw[<-ih];constructor
    ·intro e;have:l.take (decodeL l).2++cC (aD (l.drop (decodeL l).2))=l.take (decodeL l).2++l.drop (decodeL l).2:=by rw[e,an9]
     exact List.append_cancel_left this
    ·intro e;rw[e,an9]
theorem Qe(l:List UInt8):(cC (aD l)==l)=validD l:=by
 have:=zo l.length l (amY _);cases h:validD l with
 |true=>simpa using this.2 h
 |false=>
  rw[h]at this;simp only[am7,iff_false]at this;simpa using this
theorem zr:∀(l:List UInt8),asc l=true->(aD l).map bH=apu l
 |[],_=>rfl
 |b::l,h=>by
  simp only[asc,aoE,amZ]at h;have hb:b.toNat<128:=by simpa[Nat.blt_eq]using h.1
  rw[fG _ (by simp),decodeL_ascii b l hb];simp only[anO,aox,List.drop_zero,apu];rw[zr l h.2];rfl
theorem qj(h:AH)(s:List UInt8)(hs:s.length<=1000000):kX h .s2r [.str s]=some (.rsl h.nx 0 (aD s).length 1,h.add (.cells ((aD s).map bH))):=by
 have hb:Nat.ble s.length 1000000=true:=by simpa using hs
 simp only[kX,hb,Bool.and_true];by_cases ha:asc s=true
 ·rw[am1 ha];have h1:=zr s ha;have h2:(aD s).length=s.length:=by
   have:=congrArg List.length h1;rw[aor,lM]at this;exact this
  rw[h1,h2]
 ·rw[amU ha,am1 trivial]
theorem Dn:∀ {ns:List Int} {s:List UInt8},wV (ns.map bH)=some s->s=cC ns
 |[],s,h=>by simp[wV]at h;subst h;rfl
 |n::ns,s,h=>by
  simp only[anO,bH,wV]at h;split at h
  ·rename_i hn;split at h
   ·rename_i l hl;cases h;rw[Dn (ns:=ns) hl,pf,pQ];unfold encodeRune;rw[encodeRuneZ_one (by omega) (by omega)];rfl
   ·cases h
  ·cases h
theorem EA:∀(ns:List Int),xq (ns.map bH)=some ns
 |[]=>rfl
 |n::ns=>by
  have h:=EA ns;show(match xq (ns.map bH)with|some l=>some (n::l)|none=>none)=_
  rw[h]
theorem Fk{h:AH}{x:AV}{ns:List Int}{m:Nat}(h1:cj h 1 x=some (ns.map bH))(h2:fj x=some m):kX h .r2s [x]=some (.str (cC ns),h):=by
 simp only[kX,h1,h2];split
 ·rename_i s hs;rw[Dn hs]
 ·rw[EA]
end Go.St
end
noncomputable section
namespace Go.Eng
open Go.RowKit
mutual
def oJ{H:Type}(P:Program):Nat->TypeId->DataW H->Option (List AV)
 |0,_,_=>none
 |n+1,t,d=>match P.underlying t with
  |some .bool=>match d with
   |.lit (.bool b)=>some [.bool b]
   |_=>none
  |some (.int k)=>match d with
   |.lit (.int k' m)=>if k'=k then some [.int k m]else none
   |_=>none
  |some (.array len e)=>match d with
   |.agg ds=>if ds.length=len/\P.cellsOf t=len*P.cellsOf e then Da P n e (P.cellsOf e) ds else none
   |_=>none
  |some (.struct fs)=>match d with
   |.agg ds=>match qc P n fs.toList 0 ds with
    |some al=>if al.length=P.cellsOf t then some al else none
    |none=>none
   |_=>none
  |_=>none
def Da{H:Type}(P:Program):Nat->TypeId->Nat->List (DataW H)->Option (List AV)
 |_,_,_,[]=>some []
 |n,e,z,d::ds=>match oJ P n e d,Da P n e z ds with
  |some a,some b=>if a.length=z then some (a++b)else none
  |_,_=>none
def qc{H:Type}(P:Program):Nat->List Field->Nat->List (DataW H)->Option (List AV)
 |_,[],_,[]=>some []
 |n,f::fs,o,d::ds=>match oJ P n f.type d with
  |some a=>if f.offset=o/\a.length=P.cellsOf f.type then(match qc P n fs (o+a.length) ds with
   |some b=>some (a++b)
   |none=>none)else none
  |none=>none
 |_,_,_,_=>none
end
section
variable {H:Type} {enc:TypeId×Value->H} {P:Program} {w:World} {base:Nat} {spare:Nat->Bool} {held:Bool} {hp:Array Obj} {L:Nat->Prop} {β:Bl}
theorem RL.take_drop{al bs:List AV}{cs:List Value}{z:Nat}(h1:RL hp L β al (cs.take z))(hz:al.length=z)(h2:RL hp L β bs (cs.drop z)):RL hp L β (al++bs) cs:=by
 have:=h1.append h2;rwa [an9]at this
theorem D_{n m:Nat}{e:TypeId}(ih:∀(cs:List Value) (d:DataW H) (p:List MemPlace) (al:List AV),DataW.trod enc P w base spare held m e cs=some (d,p)->oJ P n e d=some al->RL hp L β al cs):
  ∀(xs:List (DataW H×List MemPlace)) (cs:List Value) (al:List AV),cs.length=xs.length*P.cellsOf e->(∀i,i<xs.length->DataW.trod enc P w base spare held m e ((cs.drop (i*P.cellsOf e)).take (P.cellsOf e))=xs[i]?)->
   Da P n e (P.cellsOf e) (xs.map (·.1))=some al->RL hp L β al cs
 |[],cs,al,hl,hx,hf=>by
  simp[Da]at hf;subst hf;have:cs=[]:=anE.1 (by simpa using hl);subst this;exact .nil
 |x::xs,cs,al,hl,hx,hf=>by
  simp only[anO,Da]at hf;split at hf
  ·rename_i a b ha hb;split at hf
   ·rename_i hz;cases hf;have h0:=hx 0 (by simp);simp at h0;obtain⟨d,p⟩:=x;have r1:=ih _ d p a h0 ha;refine r1.take_drop hz (D_ ih xs _ _ ?_ (λi hi=>?_) hb)
    ·simp only[am3,hl,am6,aoQ];omega
    ·have:=hx (i+1) (by simp;omega);rw[aoQ]at this;rw[an4,Nat.add_comm];simpa using this
   ·cases hf
  ·cases hf
theorem Eu{n m:Nat}(ih:∀(t:TypeId) (cs:List Value) (d:DataW H) (p:List MemPlace) (al:List AV),DataW.trod enc P w base spare held m t cs=some (d,p)->oJ P n t d=some al->RL hp L β al cs):
  ∀(fs:List Field) (xs:List (DataW H×List MemPlace)) (o:Nat) (cs:List Value) (al:List AV),al.length=cs.length->(∀(i:Nat) (f:Field),fs[i]?=some f->∃x,xs[i]?=some x/\o<=f.offset/\DataW.trod enc P w base spare held m f.type ((cs.drop (f.offset-o)).take (P.cellsOf f.type))=some x)->
   qc P n fs o (xs.map (·.1))=some al->RL hp L β al cs
 |[],[],o,cs,al,hl,hx,hf=>by
  simp[qc]at hf;subst hf;have:cs=[]:=anE.1 (by simpa using hl.symm);subst this;exact .nil
 |[],x::xs,o,cs,al,hl,hx,hf=>by simp[qc]at hf
 |f::fs,[],o,cs,al,hl,hx,hf=>by simp[qc]at hf
 |f::fs,x::xs,o,cs,al,hl,hx,hf=>by
  simp only[anO,qc]at hf;split at hf
  ·rename_i a ha;split at hf
   ·rename_i hc;obtain⟨hof,hz⟩:=hc;split at hf
    ·rename_i b hb;cases hf;obtain⟨x',h1,h2,h3⟩:=hx 0 f rfl;simp at h1;subst h1;rw[hof,Nat.sub_self,List.drop_zero]at h3;obtain⟨d,p⟩:=x;have r1:=ih _ _ d p a h3 ha;refine r1.take_drop hz (Eu ih fs xs _ _ _ ?_ (λi g hg=>?_) hb)
     ·simp at hl ⊢; omega
     ·obtain⟨y,q1,q2,q3⟩:=hx (i+1) g (by simpa using hg);have UP:o+a.length<=g.offset:=by
       clear q3;have:∀(fs:List Field) (ds:List (DataW H)) (o:Nat) (b:List AV),qc P n fs o ds=some b->∀(i:Nat) (g:Field),fs[i]?=some g->o<=g.offset:=by
        intro fs;induction fs with
        |nil=>intro ds o b _ i g hg;simp at hg
        |cons f fs ihf=>
         intro ds o b hb i g hg;cases ds with
         |nil=>simp[qc]at hb
         |cons d ds=>
         simp only[qc]at hb;split at hb
         ·split at hb
          ·rename_i hc;split at hb
           ·rename_i b' hb';cases i with
            |zero=>simp at hg;subst hg;omega
            |succ i=>have:=ihf _ _ _ hb' i g (by simpa using hg);omega
           ·cases hb
          ·cases hb
         ·cases hb
       exact this _ _ _ _ hb i g hg
      refine⟨y,by simpa using q1,UP,?_⟩;rw[<-hz,an4,show a.length+(g.offset-(o+a.length))=g.offset-o by omega];exact q3
    ·cases hf
   ·cases hf
  ·cases hf
theorem wu:∀(n m:Nat) (t:TypeId) (cs:List Value) (d:DataW H) (p:List MemPlace) (al:List AV),DataW.trod enc P w base spare held m t cs=some (d,p)->oJ P n t d=some al->RL hp L β al cs
 |0,m,t,cs,d,p,al,ht,hf=>by simp[oJ]at hf
 |n+1,m,t,cs,d,p,al,ht,hf=>by
  unfold oJ at hf;split at hf
  ·rename_i hu;obtain⟨b,rfl,hx⟩:=DataW.trod_bool hu ht;cases hx;cases hf;exact .cons (.bool _) .nil
  ·rename_i k hu;obtain⟨q,rfl,hx,_⟩:=DataW.trod_int hu ht;cases hx;simp only[anH]at hf;cases hf;exact .cons (.int _ _) .nil
  ·rename_i len e hu;obtain⟨xs,m1,rfl,hx,hcl,hxl,hel⟩:=DataW.trod_array hu ht;cases hx;simp only at hf;split at hf
   ·rename_i hc;exact D_ (n:=n) (λcs d p al h1 h2=>wu n m1 e cs d p al h1 h2) xs cs al (by rw[hcl,hc.2,hxl]) (λi hi=>hel i (by omega)) hf
   ·cases hf
  ·rename_i fs hu;obtain⟨xs,m1,rfl,hx,hcl,hxl,hel⟩:=DataW.trod_struct hu ht;cases hx;simp only at hf;split at hf
   ·rename_i al' h1;split at hf
    ·rename_i hl;cases hf;refine Eu (n:=n) (λt cs d p al h1 h2=>wu n m1 t cs d p al h1 h2) fs.toList xs 0 cs al (by rw[hl,hcl]) (λi f hi=>?_) h1;have hi':fs[i]?=some f:=by simpa using hi
     have hlt:i<xs.length:=by rw[hxl];exact(anv.1 hi').1
     have:=hel i f hi';rw[am0 hlt]at this;exact⟨xs[i],by simp[hlt],aoo _,by simpa using this⟩
    ·cases hf
   ·cases hf
  ·cases hf
end
section
variable {P:Program} {w:World}
def ap3:AV->Bool
 |.bool _ |.int _ _=>true
 |_=>false
theorem avE{hp hp':Array Obj}{L L':Nat->Prop}{β β':Bl}{a:AV}{v:Value}(h1:ap3 a=true)(h:VR hp L β a v):VR hp' L' β' a v:=by
 cases a<;>simp[ap3]at h1<;>cases h
 ·exact .bool _
 ·exact .int _ _
def Shp(w w':World):Prop:=∀(k:Nat) (cur:Array Value) (e:TypeId) (fz:Nat×Nat),w.heap[k]?=some (.cells cur e fz)->∃jB,w'.heap[k]?=some (.cells jB e fz)/\jB.size=cur.size
theorem Shp.trans{w w1 w2:World}(h:Shp w w1)(k:Shp w1 w2):Shp w w2:=λx cur e fz hx=>by
 obtain⟨c1,h1,h2⟩:=h x cur e fz hx;obtain⟨c2,h3,h4⟩:=k x c1 e fz h1;exact⟨c2,h3,h4.trans h2⟩
theorem Shp.refl(w:World):Shp w w:=λ_ cur _ _ h=>⟨cur,h,rfl⟩
theorem Shp.grown{w w':World}(h:w.grownBy w' none):Shp w w':=λk cur e fz hk=>⟨cur,by rw[h.block k (gg hk) (by simp)];exact hk,rfl⟩
theorem Shp.setCell(w:World)(a:Addr)(v:Value):Shp w (w.setCell a v):=λk cur e fz hk=>by
 simp only[World.setCell,aCi];by_cases hka:a.block=k
 ·rw[am1 hka,hk];exact⟨if a.spot.isSome=true then cur else cur.setIfInBounds a.off v,rfl,by split<;>simp⟩
 ·rw[amU hka];exact⟨cur,hk,rfl⟩
def RA(e:TypeId)(v:Value)(xs:List Value)(w:World):Prop:=
 (v =.slice none 0 0/\xs=[])\/∃g cap cur,v =.slice (some ⟨g,0,none⟩) xs.length cap/\w.heap[g]?=some (.cells cur e (0,0))/\xs.length<=cap/\cap<=maxLen/\cap<=cur.size/\cur.toList.take xs.length=xs
theorem RA.of{e:TypeId}{v:Value}{n:Nat}{xs:List Value}(h:w.ownsRow 0 e 1 v n xs):RA e v xs w:=by
 have hl:xs.length=n:=by simpa using h.1
 rcases h.2 with⟨h1,h2⟩|⟨g,cap,cur,h1,_,h3,h4,h5,h6,h7⟩
 ·exact .inl ⟨h1,am8 (by omega)⟩
 ·exact .inr ⟨g,cap,cur,by rw[hl];exact h1,h3,by omega,h5,by omega,by rw[hl];simpa using h7⟩
theorem RA.other{e:TypeId}{v:Value}{xs:List Value}{w':World}(h:RA e v xs w)(hk:∀g,v.ownBlock=some g->w'.heap[g]?=w.heap[g]?):RA e v xs w':=by
 rcases h with h|⟨g,cap,cur,rfl,h3,h4⟩
 ·exact .inl h
 ·exact .inr ⟨g,cap,cur,rfl,by rw[hk g rfl];exact h3,h4⟩
theorem asx(t u ty e:TypeId)(i:TypeInfo)(ht:P.underlying t=some (.slice e))(hu:P.underlying u=some .string)(hi:P.info? e=some i)(hz:i.zero=some (.int .u8 0))
  (ao_:i.size=1) (hby:i.bytes=1) (v:Value) (xs:List Value) (ajo:RA e v xs w) (s:ByteArray) (apI:xs.length+s.size<=140737488355328):
  ∃v' w',(Builtin.append_ #[t,u] ty #[v,.string s]).run P w =.ok v' w'/\RA e v' (xs++Lib.strCells s) w'/\w.grownBy w' v.ownBlock/\
   (v' =.slice none 0 0↔v =.slice none 0 0/\s.size=0)/\(v'.ownBlock=v.ownBlock\/v'.ownBlock=some w.heap.size)/\Shp w w':=by
 rcases ajo with⟨rfl,rfl⟩|⟨g,cap,cur,rfl,hg,hnc,hcm,hcs,ate⟩
 ·obtain⟨v',w',hr,h1,h2,h3⟩:=Lib.run_append_own_string (P:=P) w 0 t u ty e i ht hu hi hz ao_ hby (.slice none 0 0) 0 [] (World.ownsRow_nil w 0 e 1) s (by simp only[maxLen];simp at apI;omega) (by simpa using apI) (aoo _);refine⟨v',w',hr,RA.of h1,h2,h3,?_,.grown h2⟩;by_cases hm:s.size=0
  ·rw[h3.2 ⟨rfl,hm⟩];exact .inl rfl
  ·simp at apI;have hr2:=run_append_nil_string (P:=P) w t u ty e i (.int .u8 0) ht hu hi hz s (by omega) (by omega) (by rw[hby];omega);rw[hr]at hr2;cases hr2;exact .inr rfl
 ·have hl:(xs++Lib.strCells s).length=xs.length+s.size:=by rw[amX,Lib.strCells_length]
  by_cases tT:xs.length+s.size<=cap
  ·have hr:=Lib.run_append_room_string (P:=P) w t u ty e i ht hu hi ao_ g xs.length cap cur hg s tT (by omega);refine⟨_,_,hr,.inr ⟨g,cap,_,by rw[hl],setRow_heap w g cur _ e _ hg,by omega,hcm,?_,?_⟩,⟨rfl,rfl,rfl,by simp,λk _ hk=>aCB w g k _ (λe=>hk (by simp[Value.ownBlock,e]))⟩,by simp,.inl rfl,λk c2 e2 fz hk=>?_⟩
   ·simp only[aCk,amX,anN,am3,aCl,Lib.strCells_length];omega
   ·rw[ate];exact aCA
   ·by_cases hkg:k=g
    ·subst hkg;rw[hg]at hk;cases hk;refine⟨_,setRow_heap w k _ _ e _ hg,?_⟩;simp only[aCk,amX,anN,am3,aCl,Lib.strCells_length];omega
    ·exact⟨c2,by rw[aCB w g k _ hkg];exact hk,rfl⟩
  ·have holds:∀(j:Nat) u,xs[j]?=some u->w.cell? ((⟨g,0,none⟩:Addr).add j)=some u:=λj u hj=>by
    have hlt:j<xs.length:=(amV.1 hj).1;rw[<-ate,anZ,am1 hlt]at hj;have e1:((⟨g,0,none⟩:Addr).add j)=⟨g,j,none⟩:=by cases j<;>simp[Addr.add]
    rw[e1];simp only[World.cell?,hg];simpa using hj
   have hr:=Lib.run_append_grow_string (P:=P) w t u ty e i (.int .u8 0) ht hu hi hz ⟨g,0,none⟩ xs.length cap xs (by rw[ao_];simp) holds s (by omega) (by omega) (by rw[hby];exact growslice_fits (by omega) (by omega));have hge:=grownCap_ge w (xs.length+s.size) cap e;have hm:grownCap w (xs.length+s.size) cap e<=maxLen:=aCs w (xs.length+s.size) cap e (by simp only[maxLen];omega);refine⟨_,_,hr,.inr ⟨w.heap.size,_,_,by rw[hl],aCz w.drew _,by omega,hm,?_,?_⟩,⟨rfl,rfl,rfl,by simp,λk hk _=>heap_alloc_old w.drew _ hk⟩,by simp,.inr rfl,λk c2 e2 fz hk=>⟨c2,by rw[heap_alloc_old w.drew _ (gg hk)];exact hk,rfl⟩⟩
   ·have hz1:(Value.int IntKind.u8 0).cells.size=1:=rfl;simp only[aCw,aCk,size_zeroCells,hz1,Lib.strCells_length];omega
   ·simp only[aCr,aok];rw[<-aok];exact aCA
theorem aqX{ops:Array Oper}{S1:List Oper}{o:Oper}{a:Act}{Q:Exit->Act->World->Prop}(hgd:o.guard=none)(sl x:Operand)(t u:TypeId)
  (ho:o.op =.call { callee:=.builtin .append,args:= #[sl,x],argTypes:= #[t,u] })
  (e:TypeId) (i:TypeInfo) (ht:P.underlying t=some (.slice e)) (hu:P.underlying u=some .string) (hi:P.info? e=some i) (hz:i.zero=some (.int .u8 0))
  (ao_:i.size=1) (hby:i.bytes=1) (v:Value) (xs:List Value) (hs:a.eval sl=v) (ajo:RA e v xs w) (s:ByteArray) (hx:a.eval x =.string s)
  (apI:xs.length+s.size<=140737488355328)
  (h:∀v' w',RA e v' (xs++Lib.strCells s) w'->w.grownBy w' v.ownBlock->(v' =.slice none 0 0↔v =.slice none 0 0/\s.size=0)->(v'.ownBlock=v.ownBlock\/v'.ownBlock=some w.heap.size)->Shp w w'->wpList P ops Q S1 (a.put o.dst v') w'):wpList P ops Q (o::S1) a w:=by
 refine wpList_plain hgd λK hK=>?_
 obtain⟨v',w',hr,h2,h3,h4,h5,h6⟩:=asx (P:=P) (w:=w) t u o.type e i ht hu hi hz ao_ hby v xs ajo s apI;unfold Oper.wp execOp;simp only[ho,resolve,invoke,builtin,anq,anG,ani,List.map_toArray,anO,aoq,hs,hx,hr];exact hK _ _ (h v' w' h2 h3 h4 h5 h6)
structure Bld(tE:TypeId)(b:Nat)(v:Value)(bs:List Value)(w:World):Prop where
 own:RA tE v bs w
 ne:v.ownBlock≠some b
def avk(P:Program)(f:Nat)(tB tE:TypeId):Prop:=
 ∀(b:Nat) (p v:Value) (bs:List Value) (s:ByteArray) (w:World),w.heap[b]?=some (.cells #[p,v] tB (0,0))->(p =.pointer none\/p =.pointer (some ⟨b,0,none⟩))->Bld tE b v bs w->bs.length+s.size<=140737488355328->
  Calls P f #[.pointer (some ⟨b,0,none⟩),.string s] w λe w'=>e =.returned (.tuple #[.int .i64 s.size,.nilIface])/\
   ∃v',w'.heap[b]?=some (.cells #[.pointer (some ⟨b,0,none⟩),v'] tB (0,0))/\Bld tE b v' (bs++Lib.strCells s) w'/\(v' =.slice none 0 0↔v =.slice none 0 0/\s.size=0)/\(v'.ownBlock=v.ownBlock\/∃g,v'.ownBlock=some g/\w.heap.size<=g)/\
    w'.os=w.os/\w'.tape=w.tape/\w'.output=w.output/\w.heap.size<=w'.heap.size/\(∀k,k<w.heap.size->k≠b->some k≠v.ownBlock->w'.heap[k]?=w.heap[k]?)/\Shp w w'
end
def aoY(s:List UInt8):List AV:=s.map λc=>.int .u8 c.toNat
theorem asO(s:List UInt8):Lib.strCells ⟨s.toArray⟩=s.map λc=>Value.int .u8 c.toNat:=by simp[Lib.strCells]
def awH(h:AH):Option Nat->AH
 |none=>h
 |some g=>h.kill g
theorem avG(h:AH)(og:Option Nat)(i:Nat):(awH h og).H.get i=if og=some i then none else h.H.get i:=by
 cases og with
 |none=>simp[awH]
 |some g=>
  show(h.kill g).H.get i=_
  rw[ri];by_cases hi:i=g
  ·subst hi;simp
  ·rw[amU hi,amU (by simpa using λe=>hi e.symm)]
def apb(h:AH)(id:Nat)(og:Option Nat)(tB tE:TypeId)(cs:List AV)(s:List UInt8):AH:=
 ⟨((awH h og).H.put id (.typ (2*tB+1) [.ptr id 0,.rsl h.nx 0 (cs.length+s.length) 1])).put h.nx (.typ (2*tE) (cs++aoY s)),h.nx+1⟩
theorem aro(h:AH)(id:Nat)(og:Option Nat)(tB tE:TypeId)(cs:List AV)(s:List UInt8)(i:Nat):(apb h id og tB tE cs s).H.get i=if i=h.nx then some (.typ (2*tE) (cs++aoY s))else if i=id then some (.typ (2*tB+1) [.ptr id 0,.rsl h.nx 0 (cs.length+s.length) 1])else if og=some i then none else h.H.get i:=by
 unfold apb;simp only[PM.jA];rw[avG]
theorem aqH(t:Nat):2*t/2=t:=by omega
def arC(h:AH)(id:Nat)(tE:TypeId)(bv:AV)(cs:List AV)(og:Option Nat):Prop:=
 (bv =.aa/\cs=[]/\og=none)\/∃g,og=some g/\g≠id/\cs≠[]/\bv =.rsl g 0 cs.length 1/\h.H.get g=some (.typ (2*tE) cs)
theorem arC.row{own:Nat->Prop}{β:Bl}{h:AH}{w:World}(hs:bV own β h.H h.nx w){id b:Nat}{tE:TypeId}{bv:AV}{cs:List AV}{og:Option Nat}(hb:arC h id tE bv cs og)(hid:∃o,h.H.get id=some o)(hβ:β id=some (b,0)){vv:Value}(hv:VR w.heap (LL own β h.H) β bv vv):
  ∃bs:List Value,RA tE vv bs w/\bs.length=cs.length/\(∀(i:Nat) (c:AV) (u:Value),cs[i]?=some c->bs[i]?=some u->VR w.heap (LL own β h.H) β c u)/\vv.ownBlock≠some b/\
   ((og=none/\vv.ownBlock=none/\vv =.slice none 0 0)\/∃g gb,og=some g/\β g=some (gb,0)/\vv.ownBlock=some gb/\¬own gb):=by
 rcases hb with⟨rfl,rfl,rfl⟩|⟨g,rfl,hne,hc0,rfl,hg⟩
 ·cases hv;exact⟨[],.inl ⟨rfl,rfl⟩,rfl,λi c u h1=>by simp at h1,by simp[Value.ownBlock],.inl ⟨rfl,rfl,rfl⟩⟩
 ·obtain⟨gb,base,hgb,hno,hor⟩:=hs.obj g _ hg;obtain⟨rfl,cur,q1,q2,q3⟩:=hor;rw[aqH]at q1;have hl0:cs.length≠0:=λe=>hc0 (am8 e)
  generalize hn:cs.length=n at hv;cases hv with
  |nQ=>exact absurd hn hl0
  |rsl _ _ _ _ b2 kp cap CV e2 fz2 g1 g2 g3 g4 g5=>
   rw[hgb]at g1;cases g1;rw[q1]at g2;cases g2;have hq:=q2.1;have hlt:(cur.toList.take n).length=n:=by rw[anN,aCl];omega
   refine⟨cur.toList.take n,.inr ⟨gb,cap,cur,by rw[hlt],q1,by rw[hlt];exact g3,g4,by simpa using g5,by rw[hlt]⟩,by rw[hlt],λi c u h1 h2=>?_,?_,.inr ⟨g,gb,rfl,hgb,rfl,hno⟩⟩
   ·have hi:i<n:=by rw[<-hn];exact(amV.1 h1).1
    rw[anZ,am1 hi]at h2;exact q3 i c u h1 (by simpa using h2)
   ·intro e;have:gb=b:=by simpa[Value.ownBlock]using e
    subst this;obtain⟨o,ho⟩:=hid;exact hne (hs.inj g id _ o gb 0 0 hg ho hgb hβ)
theorem arp{cS:Array Value}{hp:Array Obj}{L:Nat->Prop}{β:Bl}{a b:AV}(hR:RL hp L β [a,b] cS.toList):∃u v,cS = #[u,v]/\VR hp L β a u/\VR hp L β b v:=by
 have hl:=hR.1;obtain⟨l⟩:=cS;match l,hl with
 |[u,v],_=>exact⟨u,v,rfl,hR.2 0 a u rfl rfl,hR.2 1 b v rfl rfl⟩
theorem VR.plain{hp hp':Array Obj}{L L':Nat->Prop}{β β':Bl}{a:AV}{v:Value}(h1:ap3 a=true)(h:VR hp L β a v):VR hp' L' β' a v:=avE h1 h
def arF(P:Program)(f:Nat)(tB tE:TypeId)(arg:Value)(s:ByteArray):Prop:=
 ∀(b:Nat) (p v:Value) (bs:List Value) (w:World),w.heap[b]?=some (.cells #[p,v] tB (0,0))->(p =.pointer none\/p =.pointer (some ⟨b,0,none⟩))->Bld tE b v bs w->bs.length+s.size<=140737488355328->
  Calls P f #[.pointer (some ⟨b,0,none⟩),arg] w λe w'=>e =.returned (.tuple #[.int .i64 s.size,.nilIface])/\
   ∃v',w'.heap[b]?=some (.cells #[.pointer (some ⟨b,0,none⟩),v'] tB (0,0))/\Bld tE b v' (bs++Lib.strCells s) w'/\(v'.ownBlock=v.ownBlock\/∃g,v'.ownBlock=some g/\w.heap.size<=g)/\
    w'.os=w.os/\w'.tape=w.tape/\w'.output=w.output/\w.heap.size<=w'.heap.size/\(∀k,k<w.heap.size->k≠b->some k≠v.ownBlock->w'.heap[k]?=w.heap[k]?)/\Shp w w'
theorem aur{P:Program}{f:Nat}{tB tE:TypeId}{xa:AV}{arg:Value}{s:List UInt8}(hxa:∀(hp:Array Obj) (L:Nat->Prop) (β:Bl) (u:Value),VR hp L β xa u->u=arg)(hw:arF P f tB tE arg ⟨s.toArray⟩)(hf:Fex P f){h:AH}{id:Nat}{p bv:AV}{cs:List AV}{og:Option Nat}
  (hg:h.H.get id=some (.typ (2*tB+1) [p,bv])) (hp:p =.dS\/p =.ptr id 0) (hb:arC h id tE bv cs og) (hpl:cs.all ap3=true) (hs0:s≠[]) (hlen:cs.length+s.length<=140737488355328):
  aK P f [.ptr id 0,xa] h (.tup [.int .i64 s.length,.gf]) (apb h id og tB tE cs s):=by
 refine⟨hf,λown β w cS hs hR=>?_⟩;obtain⟨c0,c1,rfl,v0,v1⟩:=arp hR;cases v0 with
 |ptr _ _ b base hβ=>
 have hca:=hxa _ _ _ _ v1;subst hca;obtain⟨b',eI,hβ',hno,hor⟩:=hs.obj id _ hg;rw[hβ]at hβ';cases hβ';obtain⟨rfl,cur,q1,q2,q3⟩:=hor;rw[S0]at q1;have hsz:cur.size=2:=q2.2 (by omega);obtain⟨pv,vv,rfl⟩:∃pv vv,cur = #[pv,vv]:=by
  obtain⟨l⟩:=cur;match l,hsz with
  |[x,y],_=>exact⟨x,y,rfl⟩
 have r0:=q3 0 p pv rfl rfl;have r1:=q3 1 bv vv rfl rfl;have hp':pv =.pointer none\/pv =.pointer (some ⟨b,0,none⟩):=by
  rcases hp with rfl|rfl
  ·cases r0;exact .inl rfl
  ·cases r0 with
   |ptr _ _ b2 kp h2=>rw[hβ]at h2;cases h2;exact .inr rfl
 obtain⟨bs,ajo,hbl,hbs,hne,hog⟩:=hb.row hs ⟨_,hg⟩ hβ r1;have hwr:=hw b pv vv bs w q1 hp' ⟨ajo,hne⟩ (by simpa[ByteArray.size,hbl]using hlen);refine hwr.mono ?_;rintro e w' ⟨rfl,v',k1,⟨kr,kn⟩,kob,kos,aAA,aBg,ksz,ayI,azu⟩;have hs1:0<s.length:=anI.2 hs0;have ao_:(⟨s.toArray⟩:ByteArray).size=s.length:=by simp[ByteArray.size]
 rw[asO]at kr;rcases kr with⟨rfl,he⟩|⟨g',cap,jB,rfl,m1,m2,m3,m4,m5⟩
 ·simp at he;exact absurd he.2 hs0
 have hlb:(bs++s.map λc=>Value.int .u8 c.toNat).length=cs.length+s.length:=by simp[hbl]
 rw[hlb]at m2 m5;have aBU:g'≠b:=λe=>kn (by rw[e];rfl)
 have hg':(∃g,og=some g/\β g=some (g',0)/\¬own g')\/w.heap.size<=g':=by
  rcases kob with h1|⟨x,h1,h2⟩
  ·rcases hog with⟨_,h3,_⟩|⟨g,gb,h3,h4,h5,h6⟩
   ·rw[h3]at h1;simp[Value.ownBlock]at h1
   ·rw[h5]at h1;have:g'=gb:=by simpa[Value.ownBlock]using h1
    subst this;exact .inl ⟨g,h3,h4,h6⟩
  ·have:g'=x:=by simpa[Value.ownBlock]using h1
   subst this;exact .inr h2
 have aBf:¬own g':=by
  rcases hg' with⟨_,_,_,h6⟩|h6
  ·exact h6
  ·intro ho;have:=hs.mf _ ho;omega
 have ak4:id<h.nx:=by
  rcases aoi id h.nx with k|k
  ·exact k
  ·rw[hs.fresh id k]at hβ;cases hβ
 have hb':∀i,i≠h.nx->upd β h.nx g' 0 i=β i:=λi hi=>fK _ _ _ hi
 have aiG:∀i x,β i=some x->upd β h.nx g' 0 i=some x:=λi x hx=>by
  rw[hb' i λe=>by rw[e,hs.fresh _ (amY _)]at hx;cases hx];exact hx
 have um:=aro h id og tB tE cs s;have r_:∀x,live (upd β h.nx g' 0) (apb h id og tB tE cs s).H x->live β h.H x\/w.heap.size<=x:=by
  rintro x ⟨i,o,ba,h1,h2⟩;rw[um]at h1;by_cases hi:i=h.nx
  ·subst hi;rw[dz]at h2;cases h2;rcases hg' with⟨g,h3,h4,_⟩|h3
   ·rcases hb with⟨_,_,h5⟩|⟨g2,h5,_,_,_,h6⟩
    ·rw[h5]at h3;cases h3
    ·rw[h5]at h3;cases h3;exact .inl ⟨_,_,0,h6,h4⟩
   ·exact .inr h3
  ·rw[hb' i hi]at h2;rw[amU hi]at h1;by_cases hii:i=id
   ·subst hii;exact .inl ⟨_,_,ba,hg,h2⟩
   ·rw[amU hii]at h1;split at h1
    ·cases h1
    ·exact .inl ⟨i,o,ba,h1,h2⟩
 have aAz:∀x,x<w.heap.size->¬live β h.H x->w'.heap[x]?=w.heap[x]?:=by
  intro x hx hl;refine ayI x hx (λe=>hl ⟨id,_,0,hg,e▸hβ⟩) λe=>hl ?_
  rcases hog with⟨_,h3,_⟩|⟨g,gb,h3,h4,h5,h6⟩
  ·rw[h3]at e;cases e
  ·rw[h5]at e;cases e;rcases hb with⟨_,_,k5⟩|⟨g2,k5,_,_,_,k6⟩
   ·rw[k5]at h3;cases h3
   ·rw[k5]at h3;cases h3;exact⟨_,_,0,k6,h4⟩
 have hT:bJ own β h w (upd β h.nx g' 0) (apb h id og tB tE cs s) w':=by
  refine⟨aiG,λi hi=>hb' i (by omega),by simp[apb],ksz,aAz,r_,λx cur e fz hx=>?_,kos,aAA,aBg⟩;obtain⟨c,h1,h2⟩:=azu x cur e fz hx;exact⟨c,fz,h1,h2,λ_=>rfl⟩
 refine⟨_,_,_,upd β h.nx g' 0,rfl,⟨rfl,rfl⟩,?_,?_,hT⟩
 ·refine⟨λi hi=>?_,λi x ba hi=>?_,λx hx=>ant (hs.mf x hx) ksz,λi o hi=>?_,λi j o o' x y z h1 h2 h3 h4=>?_⟩
  ·have:h.nx+1<=i:=hi;rw[hb' i (by omega)];exact hs.fresh i (by omega)
  ·by_cases hin:i=h.nx
   ·subst hin;rw[dz]at hi;cases hi;exact gg m1
   ·rw[hb' i hin]at hi;exact ant (hs.lt i x ba hi) ksz
  ·rw[um]at hi;by_cases hin:i=h.nx
   ·subst hin;rw[am1 rfl]at hi;cases hi;refine⟨g',0,dz _ _ _ _,aBf,rfl,jB,by rw[aqH];exact m1,⟨by simp[aoY];omega,λhh=>by omega⟩,λj c u h1 h2=>?_⟩;have hj:j<cs.length+s.length:=by
     have:=(amV.1 h1).1;simpa[aoY]using this
    have h3:(bs++s.map λc=>Value.int .u8 c.toNat)[j]?=some u:=by
     rw[<-m5,anZ,am1 hj];simpa using h2
    by_cases hjc:j<cs.length
    ·rw[anz hjc]at h1;rw[anz (by omega)]at h3;exact(hbs j c u h1 h3).plain (anK.1 hpl c (am9 h1))
    ·rw[anj (by omega)]at h1;rw[anj (by omega),hbl]at h3;unfold aoY at h1;rw[anb,anm]at h1 h3;obtain⟨x,hx,rfl⟩:=h1;obtain⟨y,hy,rfl⟩:=h3;rw[hx]at hy;cases hy;exact .int _ _
   ·rw[amU hin]at hi;by_cases hii:i=id
    ·subst hii;rw[am1 rfl]at hi;cases hi;refine⟨b,0,aiG _ _ hβ,hno,rfl,_,by rw[S0];exact k1,⟨by simp,λ_=>by simp⟩,λj c u h1 h2=>?_⟩;match j with
     |0=>simp at h1 h2;subst h1;subst h2;exact .ptr _ 0 b 0 (aiG _ _ hβ)
     |1=>
      simp at h1 h2;subst h1;subst h2;rw[hbl];exact .rsl h.nx 0 (cs.length+s.length) 1 g' 0 cap jB tE (0,0) (dz _ _ _ _) m1 m2 m3 (by omega)
     |j+2=>simp at h1
    ·rw[amU hii]at hi;split at hi
     ·cases hi
     rename_i aAH;obtain⟨x,ba,p1,p2,p3⟩:=hs.obj i o hi;refine⟨x,ba,aiG _ _ p1,p2,p3.later hT.later (ayI x (hs.lt i x ba p1) (λe=>?_) λe=>?_)⟩
     ·subst e;exact hii (hs.inj i id o _ x ba 0 hi hg p1 hβ)
     ·rcases hog with⟨_,h3,_⟩|⟨g,gb,h3,h4,h5,h6⟩
      ·rw[h3]at e;cases e
      ·rw[h5]at e;cases e;rcases hb with⟨_,_,k5⟩|⟨g2,k5,_,_,_,k6⟩
       ·rw[k5]at h3;cases h3
       ·rw[k5]at h3;cases h3;exact aAH (by rw[k5,hs.inj i _ o _ x ba 0 hi k6 p1 h4])
  ·have hold:∀i o,(apb h id og tB tE cs s).H.get i=some o->i≠h.nx->(∃o0,h.H.get i=some o0)/\og≠some i:=by
    intro i o hi hin;rw[um,amU hin]at hi;by_cases hii:i=id
    ·subst hii;refine⟨⟨_,hg⟩,λe=>?_⟩;rcases hb with⟨_,_,k5⟩|⟨g2,k5,k7,_⟩
     ·rw[k5]at e;cases e
     ·rw[k5]at e;cases e;exact k7 rfl
    ·rw[amU hii]at hi;split at hi
     ·cases hi
     ·exact⟨⟨o,hi⟩,by assumption⟩
   have UA:∀i o ba,(apb h id og tB tE cs s).H.get i=some o->i≠h.nx->β i=some (g',ba)->False:=by
    intro i o ba hi hin hx;obtain⟨⟨o0,k1⟩,k2⟩:=hold i o hi hin;rcases hg' with⟨g,h3,h4,_⟩|h3
    ·rcases hb with⟨_,_,k5⟩|⟨g2,k5,_,_,_,k6⟩
     ·rw[k5]at h3;cases h3
     ·rw[k5]at h3;cases h3;exact k2 (by rw[k5,hs.inj i _ o0 _ g' ba 0 k1 k6 hx h4])
    ·have:=hs.lt i g' ba hx;omega
   by_cases hin:i=h.nx
   ·by_cases hjn:j=h.nx
    ·rw[hin,hjn]
    ·subst hin;rw[dz]at h3;cases h3;rw[hb' j hjn]at h4;exact(UA j o' _ h2 hjn h4).elim
   ·by_cases hjn:j=h.nx
    ·subst hjn;rw[dz]at h4;cases h4;rw[hb' i hin]at h3;exact(UA i o _ h1 hin h3).elim
    ·rw[hb' i hin]at h3;rw[hb' j hjn]at h4;obtain⟨⟨o1,k1⟩,_⟩:=hold i o h1 hin;obtain⟨⟨o2,k2⟩,_⟩:=hold j o' h2 hjn;exact hs.inj i j o1 o2 x y z k1 k2 h3 h4
 ·rw[ao_];refine .tup _ _ rfl λi c v hc hv=>?_
  match i with
  |0=>simp at hc hv;subst hc;subst hv;exact .int _ _
  |1=>simp at hc hv;subst hc;subst hv;exact .gf
  |i+2=>simp at hc
def awj(P:Program)(f:Nat)(tB tE:TypeId):Prop:=
 ∀(b g cap:Nat) (p:Value) (cur:Array Value) (l:List UInt8) (w:World),w.heap[b]?=some (.cells #[p,.slice (some ⟨g,0,none⟩) l.length cap] tB (0,0))->w.heap[g]?=some (.cells cur tE (0,0))->
  l≠[]->l.length<=cap->cap<=maxLen->cap<=cur.size->cur.toList.take l.length=(l.map λc=>Value.int .u8 c.toNat)->
  Calls P f #[.pointer (some ⟨b,0,none⟩)] w λe w'=>e =.returned (.string ⟨l.toArray⟩)/\w'=w.drew.freeze ⟨g,0,none⟩ l.length
theorem ax5{P:Program}{f:Nat}{tB tE:TypeId}(hw:avk P f tB tE)(hf:Fex P f){h:AH}{id:Nat}{p bv:AV}{cs:List AV}{s:List UInt8}{og:Option Nat}
  (hg:h.H.get id=some (.typ (2*tB+1) [p,bv])) (hp:p =.dS\/p =.ptr id 0) (hb:arC h id tE bv cs og) (hpl:cs.all ap3=true) (hs0:s≠[]) (hlen:cs.length+s.length<=140737488355328):
  aK P f [.ptr id 0,.str s] h (.tup [.int .i64 s.length,.gf]) (apb h id og tB tE cs s):=by
 refine aur (arg:=.string ⟨s.toArray⟩) (λ_ _ _ u hu=>by cases hu;rfl) (λb p v bs w h1 h2 h3 h4=>(hw b p v bs ⟨s.toArray⟩ w h1 h2 h3 h4).mono ?_) hf hg hp hb hpl hs0 hlen;rintro e w' ⟨h1,v',h2,h3,_,h5⟩;exact⟨h1,v',h2,h3,h5⟩
theorem uv{cS:Array Value}{hp:Array Obj}{L:Nat->Prop}{β:Bl}{a:AV}(hR:RL hp L β [a] cS.toList):∃u,cS = #[u]/\VR hp L β a u:=by
 have hl:=hR.1;obtain⟨l⟩:=cS;match l,hl with
 |[u],_=>exact⟨u,rfl,hR.2 0 a u rfl rfl⟩
theorem asZ(w:World)(g n:Nat)(x:Nat)(hx:x≠g):(w.drew.freeze ⟨g,0,none⟩ n).heap[x]?=w.heap[x]?:=by
 unfold World.freeze;split
 ·rfl
 ·show(Array.modify _ _ _)[x]?=_
  rw[aCi,amU (λe=>hx e.symm)];rfl
theorem axt{P:Program}{f:Nat}{tB tE:TypeId}(hw:awj P f tB tE)(hf:Fex P f){h:AH}{id g:Nat}{p:AV}{l:List UInt8}
  (hg:h.H.get id=some (.typ (2*tB+1) [p,.rsl g 0 l.length 1])) (hg2:h.H.get g=some (.typ (2*tE) (aoY l))) (hne:g≠id) (h0:l≠[]):
  aK P f [.ptr id 0] h (.str l) ((h.kill g).kill id):=by
 refine⟨hf,λown β w cS hs hR=>?_⟩;obtain⟨c0,rfl,v0⟩:=uv hR;cases v0 with
 |ptr _ _ b base hβ=>
 obtain⟨b',eI,hβ',hno,hor⟩:=hs.obj id _ hg;rw[hβ]at hβ';cases hβ';obtain⟨rfl,cur,q1,q2,q3⟩:=hor;rw[S0]at q1;have hsz:cur.size=2:=q2.2 (by omega);obtain⟨pv,vv,rfl⟩:∃pv vv,cur = #[pv,vv]:=by
  obtain⟨l⟩:=cur;match l,hsz with
  |[x,y],_=>exact⟨x,y,rfl⟩
 have r1:=q3 1 _ vv rfl rfl;obtain⟨gb,aBI,hgb,aAH,aBm⟩:=hs.obj g _ hg2;obtain⟨rfl,ath,p1,p2,p3⟩:=aBm;rw[aqH]at p1;have aBL:gb≠b:=λe=>hne (hs.inj g id _ _ gb 0 0 hg2 hg hgb (e▸hβ))
 have hl0:l.length≠0:=λe=>h0 (am8 e)
 have MA:(aoY l).length=l.length:=by simp[aoY]
 generalize hn:l.length=n at r1;cases r1 with
 |nQ=>exact absurd hn hl0
 |rsl _ _ _ _ b2 kp cap CV e2 fz2 g1 g2 g3 g4 g5=>
 rw[hgb]at g1;cases g1;rw[p1]at g2;cases g2;subst hn;have hq:=p2.1;have ht:ath.toList.take l.length=l.map λc=>Value.int .u8 c.toNat:=by
  apply aCx;intro j;by_cases hj:j<l.length
  ·rw[anZ,am1 hj,anb,am0 hj];have hjc:j<ath.size:=by omega
   have h1:(aoY l)[j]?=some (.int .u8 (l[j]).toNat):=by simp[aoY,anb,am0 hj]
   have h2:ath[j]?=some ath[j]:=aCf hjc;have h3:=p3 j _ _ h1 h2;have h4:ath[j] =.int .u8 (l[j]).toNat:=by
    generalize ath[j]=z at h3;cases h3;rfl
   rw[Array.getElem?_toList,h2,h4];rfl
  ·rw[aoa (by rw[anN];omega),aoa (by simp;omega)]
 refine(hw b gb cap pv ath l w q1 p1 h0 g3 g4 (by simpa using g5) ht).mono ?_;rintro e w' ⟨rfl,rfl⟩;have hk:=asZ w gb l.length;have um:∀i,((h.kill g).kill id).H.get i=if i=id then none else if i=g then none else h.H.get i:=λi=>by rw[ri,ri]
 have EM:∀i o,((h.kill g).kill id).H.get i=some o->h.H.get i=some o/\i≠id/\i≠g:=λi o hi=>by
  rw[um]at hi;split at hi
  ·cases hi
  split at hi
  ·cases hi
  exact⟨hi,by assumption,by assumption⟩
 have r_:∀x,live β ((h.kill g).kill id).H x->live β h.H x/\x≠gb:=by
  rintro x ⟨i,o,ba,h1,h2⟩;obtain⟨h3,_,h4⟩:=EM i o h1;exact⟨⟨i,o,ba,h3,h2⟩,λe=>h4 (hs.inj i g o _ x ba 0 h3 hg2 h2 (e▸hgb))⟩
 have ao_:(w.drew.freeze ⟨gb,0,none⟩ l.length).heap.size=w.heap.size:=by
  unfold World.freeze;split
  ·rfl
  ·show(Array.modify _ _ _).size=_
   rw[Array.size_modify];rfl
 have hT:bJ own β h w β ((h.kill g).kill id) (w.drew.freeze ⟨gb,0,none⟩ l.length):=by
  refine⟨λ_ _ h=>h,λ_ _=>rfl,amY _,by omega,λx _ hl=>hk x λe=>hl ⟨g,_,0,hg2,e▸hgb⟩,λx hx=>.inl (r_ x hx).1,λx cur e fz hx=>?_,?_,?_,?_⟩
  ·by_cases hxg:x=gb
   ·subst hxg;rw[p1]at hx;cases hx;refine⟨ath,(0,0+l.length),?_,rfl,λhl=>absurd rfl (r_ _ hl).2⟩;unfold World.freeze;rw[amU hl0];show(Array.modify _ _ _)[x]?=_
    rw[aCi,am1 rfl];show Option.map _ (w.heap[x]?)=_
    rw[p1];rfl
   ·exact⟨cur,fz,by rw[hk x hxg];exact hx,rfl,λ_=>rfl⟩
  all_goals (unfold World.freeze;split<;>rfl)
 refine⟨_,_,_,β,rfl,⟨rfl,rfl⟩,⟨hs.fresh,λi x ba hi=>by rw[ao_];exact hs.lt i x ba hi,λx hx=>by rw[ao_];exact hs.mf x hx,λi o hi=>?_,λi j o o' x y z h1 h2=>hs.inj i j o o' x y z (EM i o h1).1 (EM j o' h2).1⟩,.str l,hT⟩;obtain⟨h1,h2,h3⟩:=EM i o hi;obtain⟨x,ba,k1,k2,k3⟩:=hs.obj i o h1;exact⟨x,ba,k1,k2,k3.later hT.later (hk x λe=>h3 (hs.inj i g o _ x ba 0 h1 hg2 k1 (e▸hgb)))⟩
open Go.RowKit
theorem kj.below{w w':World}(hb:Below w.heap.size w w'):kj w.heap.size w w':=
 ⟨hb.size,λb x hx _=>by rw[hb.block b (gg hx)];exact hx,hb.block,hb.os,hb.tape,hb.output⟩
theorem aK.lib{P:Program}{f:Nat}{args:List AV}{h:AH}{v:AV}(hf:Fex P f)
  (hc:∀(own:Nat->Prop) (β:Bl) (w:World) (cS:Array Value),bV own β h.H h.nx w->RL w.heap (LL own β h.H) β args cS.toList->Calls P f cS w λe w'=>∃cv,e =.returned cv/\VR w'.heap (LL own β h.H) β v cv/\Below w.heap.size w w'):aK P f args h v h:=
 ⟨hf,λown β w cS hs hR=>(hc own β w cS hs hR).mono λ_ _ ⟨cv,he,hv,hb⟩=>⟨cv,v,h,β,he,⟨rfl,rfl⟩,hs.quiet (.below hb),hv,(bJ.refl own β h w).quiet (.below hb)⟩⟩
theorem VR.cap{hp:Array Obj}{L:Nat->Prop}{β:Bl}{a:AV}{x:Option Addr}{n c:Nat}(h:VR hp L β a (.slice x n c))(hu:a ≠ .undef):n<=c:=by
 cases h<;>first|assumption|exact aoo _|exact absurd rfl hu
def arL:List (List AV)->Option (List (List UInt8))
 |[]=>some []
 |[.str s]::r=>match arL r with
  |some l=>some (s::l)
  |none=>none
 |_=>none
theorem arf:∀ {xl:List (List AV)} {l:List (List UInt8)},arL xl=some l->xl=l.map λs=>[.str s]
 |[],l,h=>by cases h;rfl
 |[.str s]::r,l,h=>by
  simp only[arL]at h;split at h
  ·rename_i m hm;cases h;rw[arf hm];rfl
  ·cases h
