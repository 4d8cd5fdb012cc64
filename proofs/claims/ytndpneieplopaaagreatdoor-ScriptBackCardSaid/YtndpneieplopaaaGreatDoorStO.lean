/- The library's variables, and its functions. -/
import Derived.Test.YtndpneieplopaaaGreatDoorEngLB
import Derived.Test.YtndpneieplopaaaGreatDoorTryzShelf
import Derived.Lib.AppendIntMem
import Derived.Lib.EndianBits
import Derived.Lib.Endian
import Derived.Laws.BitsAllLaws
set_option linter.unusedSimpArgs false
set_option linter.unusedVariables false
noncomputable section
namespace Go.Proofs.YtndpneieplopaaaGreatDoor
open Go.Eng Go.St Go.RowKit Tryz
def qC:List Int:=List.replicate 128 240++List.replicate 66 241++List.replicate 30 2++[19]++List.replicate 12 3++[35]++List.replicate 2 3++[52]++List.replicate 3 4++[68]++List.replicate 11 241
def yh:List Int:=[128,191,160,191,128,159,144,191,128,143]++List.replicate 22 0
def IV:List Int:=(List.range 20).map λi=>((10^i:Nat):Int)
def VG:List (Nat×LA):=[(1,qC.map (.int .u8)),(2,yh.map (.int .u8)),(3,[.iface 258 (.ptr 6 0)]),(4,[.iface 258 (.ptr 7 0)]),(5,IV.map (.int .u64))]
def GJ(h:AH):Prop:=Gx VG h/\8<=h.nx
theorem ae2:∀g cs,(g,cs)∈VG->g<8:=by
 intro g cs h;simp only[VG,anT,Prod.mk.injEq,aoc,or_false]at h;omega
theorem GJ.me{h h1:AH}(hg:GJ h)(he:∀i,i<8->h1.H.get i=h.H.get i)(hn:h.nx<=h1.nx):GJ h1:=
 ⟨λg cs hm=>by rw[he g (ae2 g cs hm)];exact hg.1 g cs hm,ane hg.2 hn⟩
theorem GJ.ob{h h1:AH}{id:Nat}{cs:LA}(hg:GJ h)(o:Ob h h1 id cs)(hi:8<=id):GJ h1:=
 hg.me (λi h8=>o.get i (by omega) (by have:=hg.2;omega)) o.nx
theorem GJ.set{h:AH}{id:Nat}{o:dx}(hg:GJ h)(hi:8<=id):GJ (h.set id o):=
 hg.me (λi h8=>by rw[au,amU (by omega)]) (amY _)
theorem GJ.bump{h:AH}(hg:GJ h){k:Nat}(hk:h.nx<=k):GJ ⟨h.H,k⟩:=hg.me (λ_ _=>rfl) hk
theorem GJ.add{h:AH}(hg:GJ h)(o:dx):GJ (h.add o):=
 hg.me (λi h8=>by have:=hg.2;rw[az,amU (by omega)]) (by simp)
theorem GJ.at1{h:AH}(hg:GJ h):h.H.get 1=some (.iq 1 (qC.map (.int .u8))):=hg.1 1 _ (by simp[VG])
theorem GJ.at2{h:AH}(hg:GJ h):h.H.get 2=some (.iq 2 (yh.map (.int .u8))):=hg.1 2 _ (by simp[VG])
theorem GJ.at3{h:AH}(hg:GJ h):h.H.get 3=some (.iq 3 [.iface 258 (.ptr 6 0)]):=hg.1 3 _ (by simp[VG])
theorem GJ.at4{h:AH}(hg:GJ h):h.H.get 4=some (.iq 4 [.iface 258 (.ptr 7 0)]):=hg.1 4 _ (by simp[VG])
theorem GJ.at5{h:AH}(hg:GJ h):h.H.get 5=some (.iq 5 (IV.map (.int .u64))):=hg.1 5 _ (by simp[VG])
def aR(l:Str):LA:=l.map λc=>.int .u8 c.toNat
theorem vV:∀l:Str,lJ (aR l)=some l
 |[]=>rfl
 |c::l=>by
  have:=vV l;unfold aR at this ⊢;simp only[anO,lJ,this];simp
def BSl(h:AH)(x:AV)(l:Str):Prop:=(x =.aa/\l=[])\/∃id,x =.rsl id 0 l.length 1/\l≠[]/\8<=id/\id<h.nx/\h.ab id=some (aR l)
def qk(w:Str):AV:=match Lib.atoiAll w with |.ok _=>.gf|_=>.iface 206 .undef
theorem aaV:Fex prog 123:=⟨_,func123,rfl,by decide⟩
theorem ad9:Fex prog 99:=⟨_,func99,rfl,by decide⟩
theorem Zf:Fex prog 169:=⟨_,func169,rfl,by decide⟩
theorem Yg{own:Nat->Prop}{β:Bl}{h:AH}{w:World}(hs:bV own β h.H h.nx w){g:Nat}{a:AV}(hg:h.H.get g=some (.iq g [a])):∃v,w.cell? ⟨g,0,none⟩=some v/\VR w.heap (LL own β h.H) β a v:=by
 obtain⟨cur,e,fz,h1,h2,h3⟩:=hs.Ux hg;have hlt:0<cur.size:=by simp at h2;omega
 refine⟨cur[0],?_,h3 0 a cur[0] rfl (by simp[hlt])⟩;rw[Lib.cell_of_heap h1];simp[hlt]
theorem O8{hp:Array Obj}{L:Nat->Prop}{β:Bl}{a b:AV}{u v:Value}(hu:VR hp L β a u)(hv:VR hp L β b v):VR hp L β (.tup [a,b]) (.tuple #[u,v]):=
 .tup _ _ rfl λi c x hc hx=>by
  match i with
  |0=>simp at hc hx;subst hc;subst hx;exact hu
  |1=>simp at hc hx;subst hc;subst hx;exact hv
  |i+2=>simp at hc
theorem ZB(h:AH)(w:Str)(hg:GJ h)(hw:w.length<=1000000):aK prog 123 [.str w] h (.tup [I (f_ w),qk w]) h:=by
 refine aK.lib aaV λown β wd cS hs hR=>?_
 obtain⟨u,rfl,hu⟩:=uv hR;cases hu;have hsz:(⟨w.toArray⟩:ByteArray).size=w.length:=by simp[ByteArray.size]
 cases hA:Lib.atoiAll w with
 |ok n=>
  refine(qy ⟨w.toArray⟩ (by rw[hsz];omega) n hA wd).mono ?_;rintro e w' ⟨rfl,hw'⟩;have e1:f_ w=n:=by unfold f_;rw[hA]
  have e2:qk w =.gf:=by unfold qk;rw[hA]
  rw[e1,e2];refine⟨_,rfl,O8 (.int _ _) .gf,?_⟩;rcases hw' with rfl|⟨t,rfl⟩
  ·exact Below.refl _ _
  ·unfold Lib.bytesWorld;exact Lib.below_freeze (Below.alloc (Below.drew (Below.refl _ _)) (amY _) _) (amY _) _
 |range=>
  obtain⟨v,hv,hvr⟩:=Yg hs hg.at4;cases hvr with
  |iface t a x hx=>
  refine(apL ⟨w.toArray⟩ (by rw[hsz];omega) hA _ wd hv (.inr ⟨_,_,rfl⟩)).mono ?_;rintro e w' ⟨N,rfl,_,_,hb⟩;have e1:f_ w=Lib.atoiSat w:=by unfold f_;rw[hA]
  have e2:qk w =.iface 206 .undef:=by unfold qk;rw[hA]
  rw[e1,e2];exact⟨_,rfl,O8 (.int _ _) (.iface _ _ _ (.undef _)),hb⟩
 |_=>
  obtain⟨v,hv,hvr⟩:=Yg hs hg.at3;cases hvr with
  |iface t a x hx=>
  refine(nK ⟨w.toArray⟩ (by rw[hsz];omega) hA _ wd hv (.inr ⟨_,_,rfl⟩)).mono ?_;rintro e w' ⟨N,rfl,_,_,hb⟩;have e1:f_ w=0:=by unfold f_;rw[hA]
  have e2:qk w =.iface 206 .undef:=by unfold qk;rw[hA]
  rw[e1,e2];exact⟨_,rfl,O8 (.int _ _) (.iface _ _ _ (.undef _)),hb⟩
def Vp:QE prog:=QE.fn 123 GJ (fun(w:Str)=>[.str w]) (fun(w:Str)(h:AH)=>w.length<=1000000) (fun(w:Str)=>.tup [I (f_ w),qk w]) (λh w hj hx=>ZB h w hj hx)
theorem aaX{tl h}(w:Str){Q:QT}(hj:GJ h)(hx:w.length<=1000000)(hq:Q (.tup [I (f_ w),qk w]) h):tb (Vp::tl) 123 [.str w] h Q:=aV w hj hx hq
@[simp ↓] theorem aiq:TbT Vp 123:=aH Vp
theorem ain:prog.globalNamed "internal/strconv.uint64pow10" = some 5:=by kernel_rfl
theorem QX{own:Nat->Prop}{β:Bl}{h:AH}{w:World}(hs:bV own β h.H h.nx w){g:Nat}{k:IntKind}{zs:List Int}{name:String}(hn:prog.globalNamed name=some g)(hg:h.H.get g=some (.iq g (zs.map (.int k)))):Lib.TabIs prog w name k zs:=by
 obtain⟨cur,e,fz,h1,h2,h3⟩:=hs.Ux hg;have NX:cur=(zs.map λz=>Value.int k z).toArray:=by
  apply Array.ext
  ·simpa using h2.symm
  ·intro i hi hi2;have hz:i<zs.length:=by simpa using hi2
   have:=h3 i (.int k zs[i]) cur[i] (by simp[hz]) (by simp[hi]);generalize cur[i]=x at this ⊢;cases this;simp
 unfold Lib.TabIs World.var?;rw[hn,<-NX];simp[h1]
theorem aaO(h:AH)(n:Int)(hg:GJ h)(hn : -9223372036854775808<=n/\n<=9223372036854775807):aK prog 99 [I n] h (.str (Lib.itoa n)) h:=by
 refine aK.lib ad9 λown β wd cS hs hR=>?_
 obtain⟨u,rfl,hu⟩:=uv hR;cases hu;refine(uc n hn.1 hn.2 wd (QX hs ain (by have:=hg.at5;simpa[IV,Lib.pow10Tab]using this))).mono ?_;rintro e w' ⟨rfl,k,os,rfl⟩;exact⟨_,rfl,.str _,Lib.below_grow _ _ (amY _) _ _⟩
def e99:QE prog:=QE.fn 99 GJ (fun(n:Int)=>[I n]) (fun(n:Int)(h:AH)=> -9223372036854775808<=n/\n<=9223372036854775807) (fun(n:Int)=>.str (Lib.itoa n)) (λh n hj hx=>aaO h n hj hx)
theorem afI{tl h}(n:Int){Q:QT}(hj:GJ h)(hx : -9223372036854775808<=n/\n<=9223372036854775807)(hq:Q (.str (Lib.itoa n)) h):tb (e99::tl) 99 [I n] h Q:=aV n hj hx hq
@[simp ↓] theorem aBu:TbT e99 99:=aH e99
theorem Fc{w:Str}{n:Int}(h:Lib.atoiAll w =.ok n):-9223372036854775808<=n/\n<=9223372036854775807:=by
 unfold Lib.atoiAll at h;cases w with
 |nil=>cases h
 |cons c r=>
  dsimp only at h;cases hm:Lib.parseMag (if c.toNat=43\/c.toNat=45 then r else c::r)with
  |range=>rw[hm]at h;cases h
  |ok u=>
   rw[hm]at h;dsimp only at h;split at h
   ·cases h
   ·split at h
    ·cases h
    ·injection h with h
     split at h<;>omega
  |_=>rw[hm]at h;cases h
theorem adW(h:AH)(w:Str)(hg:GJ h)(hw:w.length<=1000000):aK prog 92 [.str w] h (.tup [I (f_ w),.bool (fD w)]) h:=by
 refine aZ (R:=λv h'=>v =.tup [I (f_ w),.bool (fD w)]/\h'=h) (C92 (aW [Vp,e99]) ?_) λv' h' ⟨h1,h2⟩=>⟨?_,by rw[h2];exact amY _,λi _=>by rw[h2]⟩
 ·simp(disch:=first|go_size|fail)[g92];refine aaX (w:=w) hg hw ?_;have hM:eM=1099511627776:=rfl;cases hA:Lib.atoiAll w with
  |ok n=>
   have eV:f_ w=n:=by unfold f_;rw[hA]
   have eE:qk w =.gf:=by unfold qk;rw[hA]
   obtain⟨r1,r2⟩:=Fc hA;rw[eV,eE];have eO:fD w=(Lib.itoa n==w&&decide (-eM<=n)&&decide (n<=eM)):=by unfold fD;rw[hA]
   simp(disch:=first|go_size|fail)[BS,ZE];refine afI (n:=n) hg ⟨r1,r2⟩ ?_;by_cases hi:Lib.itoa n=w
   ·subst hi;by_cases h0 : -1099511627776<=n
    ·simp(disch:=first|go_size|fail)[aqE,h0,eO,hM]
    ·simp(disch:=first|go_size|fail)[aqE,h0,eO,hM]
   ·simp(disch:=first|go_size|fail)[aqE,hi,eO]
  |range=>
   have eE:qk w =.iface 206 .undef:=by unfold qk;rw[hA]
   have eO:fD w=false:=by unfold fD;rw[hA]
   rw[eE,eO];simp(disch:=first|go_size|fail)[BS,XP];simp(disch:=first|go_size|fail)[aqE]
  |_=>
   have eE:qk w =.iface 206 .undef:=by unfold qk;rw[hA]
   have eO:fD w=false:=by unfold fD;rw[hA]
   rw[eE,eO];simp(disch:=first|go_size|fail)[BS,XP];simp(disch:=first|go_size|fail)[aqE]
 ·rw[h1];refine .tup _ _ rfl λi c d hc hd=>?_
  match i with
  |0=>simp at hc hd;subst hc;subst hd;exact .int _ _
  |1=>simp at hc hd;subst hc;subst hd;exact .bool _
  |i+2=>simp at hc
def e92:QE prog:=QE.fn 92 GJ (fun(w:Str)=>[.str w]) (fun(w:Str)(h:AH)=>w.length<=1000000) (fun(w:Str)=>.tup [I (f_ w),.bool (fD w)]) (λh w hj hx=>adW h w hj hx)
theorem YB{tl h}(w:Str){Q:QT}(hj:GJ h)(hx:w.length<=1000000)(hq:Q (.tup [I (f_ w),.bool (fD w)]) h):tb (e92::tl) 92 [.str w] h Q:=aV w hj hx hq
theorem Nk(s:Str)(t:PS):(bT s t).length<=s.length:=by
 unfold bT bZ;have:=mD (bl false) (s.drop (mi s t).pos);rw[am3]at this;omega
theorem Rm(h:AH)(id:Nat)(x:Sc)(hj:GJ h/\8<=id)(hc:h.ab id=some (scC x))(hid:id<h.nx)(hx:x.Ok):aK prog 58 [.ptr id 0] h (I (cQ x.s x.t)) (h.set id (.cells (scC ⟨x.s,bc x.s x.t⟩))):=by
 refine bm (R:=λv h'=>v=I (cQ x.s x.t)/\Ob h h' id (scC ⟨x.s,bc x.s x.t⟩)) hid (dE _) (C58 (aW [e91,e92]) ?_) λv' h' ⟨h1,h2⟩=>⟨by rw[h1];exact .int _ _,h2⟩
 simp(disch:=first|go_size|fail)[g58];refine SQ hc hid hx ?_;simp(disch:=first|go_size|fail)[Sn];have ho:Ob h (h.set id (.cells (scC ⟨x.s,bq x.s x.t⟩))) id (scC ⟨x.s,bq x.s x.t⟩):=(Ob.start hc).set _;refine YB (w:=bT x.s x.t) (hj.1.ob ho hj.2) (ane (Nk _ _) hx.1) ?_;simp(disch:=first|go_size|fail)[Q3];generalize h.set id (.cells (scC ⟨x.s,bq x.s x.t⟩))=h1 at*;have hc2:h1.ab id=some [.str x.s,I (bq x.s x.t).pos,.bool (bq x.s x.t).first,.bool (bq x.s x.t).ok]:=ho.c;refine⟨λvs h2=>vs=[I (cQ x.s x.t)]/\Ob h h2 id (scC ⟨x.s,bc x.s x.t⟩),?_,?_⟩
 ·have eT:bc x.s x.t=⟨(bq x.s x.t).pos,(bq x.s x.t).first,(bq x.s x.t).ok&&fD (bT x.s x.t)⟩:=rfl;rw[eT];cases hok:(bq x.s x.t).ok
  ·rw[hok]at hc2;simp(disch:=first|go_size|fail)[E1,hc2];exact⟨rfl,ho.set _⟩
  ·rw[hok]at hc2;simp(disch:=first|go_size|fail)[E1,hc2];exact⟨rfl,ho.set _⟩
 ·rintro vs h2 ⟨rfl,ho2⟩;simp(disch:=first|go_size|fail)[Pn];exact ho2
def e58:QE prog:=QE.obj 58 (λh id=>GJ h/\8<=id) scC (fun(_:Unit)=>[]) (fun(x:Sc)(y:Unit)=>match y with|_=>x.Ok) (fun(x:Sc)(y:Unit)=>match y with|_=>I (cQ x.s x.t)) (fun(x:Sc)(y:Unit)=>match y with|_=>⟨x.s,bc x.s x.t⟩) (λh id x y hj hc hid hx=>match y,hx with|_,hx=>Rm h id x hj hc hid hx)
theorem kQ{tl h}{id:Nat}{x:Sc}{Q:QT}(hj:GJ h/\8<=id)(hc:h.ab id=some (scC x))(hid:id<h.nx)(hx:x.Ok)(hq:Q (I (cQ x.s x.t)) (h.set id (.cells (scC (⟨x.s,bc x.s x.t⟩))))):tb (e58::tl) 58 (.ptr id 0::[]) h Q:=bF () hj hc hid hx hq
@[simp ↓] theorem akQ:TbT e58 58:=aH e58
end Go.Proofs.YtndpneieplopaaaGreatDoor
end
noncomputable section
namespace Go.Eng
open Go.St
theorem aM{α:LA}{b:LA}{n:Nat}(h:α.length=n):cut (α++b) 0 n=some α:=by
 unfold cut;rw[am1 (by simp;omega)];simp[<-h]
@[simp] theorem BL(h:AH)(z bytes id off len id2 xO m:Nat):dK h z bytes (.rsl id off len z) (.rsl id2 xO m z) =
  match h.ab id,h.ab id2 with
  |some cs,some cs2=>match cut cs off (len*z),cut cs2 xO (m*z)with
   |some old,some new=>if dj new=true/\jh (len+m) bytes=true then some (.rsl h.nx 0 (len+m) z,(h.kill id).add (.cells (old++new)))else none
   |_,_=>none
  |_,_=>none:=by
 simp only[dK,RM,cj,fj,anH];cases h1:h.ab id with
 |none=>
  cases h2:h.ab id2 with
  |none=>simp
  |some cs2=>
   simp;cases h4:cut cs2 xO (m*z)with
   |none=>simp
   |some new=>simp
 |some cs=>
  cases h2:h.ab id2 with
  |none=>simp
  |some cs2=>
   simp;cases h4:cut cs2 xO (m*z)with
   |none=>cases h3:cut cs off (len*z)<;>simp
   |some new=>
    cases h3:cut cs off (len*z)with
    |none=>simp
    |some old=>cases ho:dj new<;>cases hr:jh (len+m) bytes<;>simp[ho,hr]
@[simp] theorem Du(h:AH)(z len:Nat)(zero:LA)(ps:List (Nat×Nat×AV)):aQ h z len zero ps=match bW zero ps with|some cs=>some (.rsl h.nx 0 len z,h.add (.cells cs))|none=>none:=am_ rfl rfl
@[simp] theorem v_(n b:Nat)(h:n*b<=140737488355328)(h2:n<=9223372036854775807):jh n b=true:=by simp[jh,h,h2]
@[simp] theorem Cy(h:AH)(z bytes id2 xO m:Nat)(hm:m≠0):dK h z bytes .aa (.rsl id2 xO m z) =
  match h.ab id2 with
  |some cs2=>match cut cs2 xO (m*z)with
   |some new=>if dj new=true/\jh m bytes=true then some (.rsl h.nx 0 m z,h.add (.cells new))else none
   |none=>none
  |none=>none:=by
 simp only[dK,RM,cj,fj,anH];cases h2:h.ab id2 with
 |none=>simp
 |some cs2=>
  simp;cases h4:cut cs2 xO (m*z)with
  |none=>simp
  |some new=>cases ho:dj new<;>cases hr:jh m bytes<;>simp[ho,hr,hm]
def OL(z:Nat)(h0 h:AH)(lv:AV)(n:Nat)(cs:LA):Prop:=
 (lv =.aa/\n=0/\cs=[])\/∃k,lv =.rsl k 0 n z/\n≠0/\h0.nx<=k/\k<h.nx/\h.ab k=some cs/\cs.length=n*z
theorem OL.start(z:Nat)(h0 h:AH):OL z h0 h .aa 0 []:=.inl ⟨rfl,rfl,rfl⟩
theorem OL.du{z:Nat}{h0 h h2:AH}{lv:AV}{n:Nat}{cs:LA}(o:OL z h0 h lv n cs)(hn:h.nx<=h2.nx)(hg:∀i,h0.nx<=i->i<h.nx->h2.H.get i=h.H.get i):OL z h0 h2 lv n cs:=by
 rcases o with⟨h1,h2',h3⟩|⟨k,h1,h2',h3,h4,h5,h6⟩
 ·exact .inl ⟨h1,h2',h3⟩
 ·exact .inr ⟨k,h1,h2',h3,by omega,by rw[ay (hg k h3 h4)];exact h5,h6⟩
theorem mI{z bytes:Nat}{h0 h:AH}{lv:AV}{n:Nat}{cs tc:LA}(o:OL z h0 h lv n cs)(h0n:h0.nx<=h.nx)(htl:tc.length=z)(hto:dj tc=true)(hn:n<=1000000)(hb:bytes<=1000):
  ∃lv' h2,dK (h.add (.cells tc)) z bytes lv (.rsl h.nx 0 1 z)=some (lv',h2)/\OL z h0 h2 lv' (n+1) (cs++tc)/\h2.nx=h.nx+2/\∀i,i<h0.nx->h2.H.get i=h.H.get i:=by
 have fk:cut tc 0 (1*z)=some tc:=by
  have:=aM (α:=tc) (b:=[]) (n:=1*z) (by omega);rwa [am5]at this
 have hro:jh (n+1) bytes=true:=by
  refine v_ _ _ ?_ (by omega);have:(n+1)*bytes<=1000001*1000:=Nat.mul_le_mul (by omega) hb;omega
 rcases o with⟨rfl,rfl,rfl⟩|⟨k,rfl,hn0,hk0,hk,hcs,hlen⟩
 ·refine⟨.rsl (h.nx+1) 0 1 z,(h.add (.cells tc)).add (.cells tc),?_,.inr ⟨h.nx+1,by simp,by omega,by omega,by simp,?_,by simp[htl]⟩,by simp,λi hi=>?_⟩
  ·rw[Cy _ _ _ _ _ _ (by omega)];have Vc:jh 1 bytes=true:=by simpa using hro
   have zG:cut tc 0 z=some tc:=by simpa using fk
   simp[zG,hto,Vc]
  ·have:(h.add (.cells tc)).nx=h.nx+1:=by simp
   rw[<-this,anx];exact bd _ _ _ rfl
  ·rw[az,amU (by simp;omega),az,amU (by omega)]
 ·have UC:(h.add (.cells tc)).ab k=some cs:=by rw[aC _ _ _ (by omega)];exact hcs
  have EK:cut cs 0 (n*z)=some cs:=by
   have:=aM (α:=cs) (b:=[]) (n:=n*z) hlen;rwa [am5]at this
  refine⟨.rsl (h.nx+1) 0 (n+1) z,((h.add (.cells tc)).kill k).add (.cells (cs++tc)),?_,.inr ⟨h.nx+1,rfl,by omega,by omega,by simp,?_,?_⟩,by simp,λi hi=>?_⟩
  ·rw[BL];have zG:cut tc 0 z=some tc:=by simpa using fk
   simp[zG,hto,hro,UC,EK]
  ·have:((h.add (.cells tc)).kill k).nx=h.nx+1:=by simp
   rw[<-this];exact bd _ _ _ rfl
  ·rw[amX,hlen,htl,anY,aoH]
  ·rw[az,amU (by simp;omega),ri,amU (by omega),az,amU (by omega)]
theorem Ob.app{h h1 h2:AH}{id:Nat}{cs:LA}(o:Ob h h1 id cs)(hid:id<h.nx)(hn:h1.nx<=h2.nx)(hg:∀i,i<h.nx->h2.H.get i=h1.H.get i):Ob h h2 id cs:=
 ⟨(ay (hg id hid)).trans o.c,ane o.nx hn,λi hi hl=>by rw[hg i hl];exact o.get i hi hl⟩
theorem OL.set{z:Nat}{h0 h:AH}{lv:AV}{n:Nat}{cs:LA}(o:OL z h0 h lv n cs){id:Nat}(hid:id<h0.nx)(ob:dx):OL z h0 (h.set id ob) lv n cs:=
 o.du (amY _) λi hi _=>by rw[au,amU (by omega)]
theorem OL.bump{z:Nat}{h0 h:AH}{lv:AV}{n:Nat}{cs:LA}(o:OL z h0 h lv n cs){k:Nat}(hk:h.nx<=k):OL z h0 ⟨h.H,k⟩ lv n cs:=
 o.du hk λ_ _ _=>rfl
theorem mw{z bytes q:Nat}{h0 h:AH}{lv:AV}{n:Nat}{cs tc:LA}(o:OL z h0 h lv n cs)(h0n:h0.nx<=h.nx)(hq:h.ab q=some tc)(htl:tc.length=z)(hto:dj tc=true)(hn:n<=1000000)(hb:bytes<=1000):
  ∃lv' h2,dK h z bytes lv (.rsl q 0 1 z)=some (lv',h2)/\OL z h0 h2 lv' (n+1) (cs++tc)/\h2.nx=h.nx+1/\∀i,i<h0.nx->h2.H.get i=h.H.get i:=by
 have zG:cut tc 0 z=some tc:=by
  have:=aM (α:=tc) (b:=[]) (n:=z) htl;rwa [am5]at this
 have hro:jh (n+1) bytes=true:=by
  refine v_ _ _ ?_ (by omega);have:(n+1)*bytes<=1000001*1000:=Nat.mul_le_mul (by omega) hb;omega
 rcases o with⟨rfl,rfl,rfl⟩|⟨k,rfl,hn0,hk0,hk,hcs,hlen⟩
 ·refine⟨.rsl h.nx 0 1 z,h.add (.cells tc),?_,.inr ⟨h.nx,by simp,by omega,by omega,by simp,?_,by simp[htl]⟩,by simp,λi hi=>?_⟩
  ·rw[Cy _ _ _ _ _ _ (by omega)];have Vc:jh 1 bytes=true:=by simpa using hro
   simp[zG,hto,Vc,hq]
  ·rw[anx];exact bd _ _ _ rfl
  ·rw[az,amU (by omega)]
 ·have EK:cut cs 0 (n*z)=some cs:=by
   have:=aM (α:=cs) (b:=[]) (n:=n*z) hlen;rwa [am5]at this
  refine⟨.rsl h.nx 0 (n+1) z,(h.kill k).add (.cells (cs++tc)),?_,.inr ⟨h.nx,rfl,by omega,by omega,by simp,?_,?_⟩,by simp,λi hi=>?_⟩
  ·rw[BL];simp[zG,hto,hro,hcs,EK,hq]
  ·have:(h.kill k).nx=h.nx:=by simp
   rw[<-this];exact bd _ _ _ rfl
  ·rw[amX,hlen,htl,anY,aoH]
  ·rw[az,amU (by simp;omega),ri,amU (by omega)]
theorem fR{h h':AH}{x:Option (AV×AH)}{v:AV}{k:AV->Rec->AH->Prop}(hr:x=some (v,h'))(hn:h.nx<=h'.nx)(hk:k v (.eff h h') h'):wde h x k:=by subst hr;exact⟨hn,hk⟩
end Go.Eng
end
noncomputable section
namespace Go.Proofs.YtndpneieplopaaaGreatDoor
open Go.Eng Go.St Tryz
theorem NH(h:AH)(y x:Int):ae h .or (.int .u64 y) (.int .u64 x)=some (.int .u64 (bits .or .u64 y x),h):=rfl
theorem adl(h:AH)(y x:Int):ae h .and (.int .u64 y) (.int .u64 x)=some (.int .u64 (bits .and .u64 y x),h):=rfl
theorem wv(h:AH)(b:UInt8)(j m:Nat)(hj:j<64)(hm:2^j=m)(hb:255*m<18446744073709551616):ae h .shl (.int .u64 b.toNat) (.int .u64 j)=some (.int .u64 ((b.toNat:Int)*m),h):=by
 have hbl:=b.toNat_lt;have e:vK .shl .u64 (b.toNat:Int) (j:Int)=some (.int .u64 (IntKind.u64.wrap ((b.toNat:Int)*2^(min (j:Int).toNat 64)))):=by
  unfold vK;rw[amU (by omega)];rfl
 have e2:min (j:Int).toNat 64=j:=by omega
 have e3:((2:Int)^j)=(m:Int):=by rw[<-hm];simp
 have h1:(b.toNat:Int)*m<18446744073709551616:=by
  have:b.toNat*m<=255*m:=anS m (by omega);have h2:((b.toNat*m:Nat):Int)<=((255*m:Nat):Int):=by omega
  rw[Int.natCast_mul]at h2;omega
 have h0:0<=(b.toNat:Int)*m:=Int.mul_nonneg (by omega) (by omega);rw[e2,e3,u64_wrap_id _ h0 h1]at e;simp[ae,dy,ey,e]
def wd(l:Str):Nat:=Lib.leNat (l.take 8)
theorem ZS{l:Str}(h:8<=l.length):wd l &&& 9259542123273814144=0↔∀b∈l.take 8,b.toNat<128:=by
 have:=Lib.leNat_mask (l.take 8);rwa [show(l.take 8).length=8 by rw[anN];omega,Lib.maskN8]at this
theorem gX{L:Str}{p:Nat}{c:UInt8}(h:L[p]?=some c):(aR L)[p]?=some (.int .u8 c.toNat):=by
 unfold aR;rw[anb,h];rfl
theorem aaG(h:AH)(k off n:Nat)(L:Str)(hc:h.ab k=some (aR L))(hn:8<=n)(hL:off+n<=L.length):aK prog 151 [.rsl k off n 1] h (.int .u64 (wd (L.drop off))) h:=by
 refine aZ (R:=λv h'=>v =.int .u64 (wd (L.drop off))/\h.nx<=h'.nx/\h'.H=h.H) (ahv (aW []) ?_) λv' h' ⟨h1,h2,h3⟩=>⟨by rw[h1];exact .int _ _,h2,λi _=>by rw[h3]⟩
 have hd:∀i,i<8->∃c,(L.drop off)[i]?=some c:=λi hi=>⟨(L.drop off)[i]'(by rw[am3];omega),am0 _⟩
 obtain⟨b0,e0⟩:=hd 0 (by omega);obtain⟨b1,e1⟩:=hd 1 (by omega);obtain⟨b2,e2⟩:=hd 2 (by omega);obtain⟨b3,e3⟩:=hd 3 (by omega);obtain⟨b4,e4⟩:=hd 4 (by omega);obtain⟨b5,e5⟩:=hd 5 (by omega);obtain⟨b6,e6⟩:=hd 6 (by omega);obtain⟨b7,e7⟩:=hd 7 (by omega);have ht:(L.drop off).take 8=[b0,b1,b2,b3,b4,b5,b6,b7]:=by
  apply aCx;intro i;by_cases hi:i<8
  ·rw[anZ,am1 hi];have:i=0\/i=1\/i=2\/i=3\/i=4\/i=5\/i=6\/i=7:=by omega
   rcases this with rfl|rfl|rfl|rfl|rfl|rfl|rfl|rfl<;>first|rw[e0];rfl|rw[e1];rfl|rw[e2];rfl|rw[e3];rfl|rw[e4];rfl|rw[e5];rfl|rw[e6];rfl|rw[e7];rfl
  ·rw[anZ,amU hi];symm
   rw[List.getElem?_eq_none_iff];simp;omega
 rw[anl]at e0 e1 e2 e3 e4 e5 e6 e7;rw[aoy]at e0;have c0:=gX e0;have c1:=gX e1;have c2:=gX e2;have c3:=gX e3;have c4:=gX e4;have c5:=gX e5;have c6:=gX e6;have c7:=gX e7;have l0:=b0.toNat_lt;have l1:=b1.toNat_lt;have l2:=b2.toNat_lt;have l3:=b3.toNat_lt;have l4:=b4.toNat_lt;have l5:=b5.toNat_lt;have l6:=b6.toNat_lt;have l7:=b7.toNat_lt;have hix:∀(h:AH) (i:Nat),i<8->aF h 1 (.rsl k off n 1) (I (i:Int))=some (.ptr k (off+i),h):=λh i hi=>by
  have:=dY (h:=h) (z:=1) (id:=k) (off:=off) (len:=n) (i:=(i:Int)) (by omega) (by omega);rwa [aou,Nat.mul_one]at this
 have i0:∀h:AH,aF h 1 (.rsl k off n 1) (I 0)=some (.ptr k off,h):=λh=>hix h 0 (by omega)
 have i1:∀h:AH,aF h 1 (.rsl k off n 1) (I 1)=some (.ptr k (off+1),h):=λh=>hix h 1 (by omega)
 have i2:∀h:AH,aF h 1 (.rsl k off n 1) (I 2)=some (.ptr k (off+2),h):=λh=>hix h 2 (by omega)
 have i3:∀h:AH,aF h 1 (.rsl k off n 1) (I 3)=some (.ptr k (off+3),h):=λh=>hix h 3 (by omega)
 have i4:∀h:AH,aF h 1 (.rsl k off n 1) (I 4)=some (.ptr k (off+4),h):=λh=>hix h 4 (by omega)
 have i5:∀h:AH,aF h 1 (.rsl k off n 1) (I 5)=some (.ptr k (off+5),h):=λh=>hix h 5 (by omega)
 have i6:∀h:AH,aF h 1 (.rsl k off n 1) (I 6)=some (.ptr k (off+6),h):=λh=>hix h 6 (by omega)
 have i7:∀h:AH,aF h 1 (.rsl k off n 1) (I 7)=some (.ptr k (off+7),h):=λh=>hix h 7 (by omega)
 have w0:IntKind.u64.wrap (b0.toNat:Int)=b0.toNat:=u64_wrap_id _ (by omega) (by omega);have w1:IntKind.u64.wrap (b1.toNat:Int)=b1.toNat:=u64_wrap_id _ (by omega) (by omega);have w2:IntKind.u64.wrap (b2.toNat:Int)=b2.toNat:=u64_wrap_id _ (by omega) (by omega);have w3:IntKind.u64.wrap (b3.toNat:Int)=b3.toNat:=u64_wrap_id _ (by omega) (by omega);have w4:IntKind.u64.wrap (b4.toNat:Int)=b4.toNat:=u64_wrap_id _ (by omega) (by omega);have w5:IntKind.u64.wrap (b5.toNat:Int)=b5.toNat:=u64_wrap_id _ (by omega) (by omega);have w6:IntKind.u64.wrap (b6.toNat:Int)=b6.toNat:=u64_wrap_id _ (by omega) (by omega);have w7:IntKind.u64.wrap (b7.toNat:Int)=b7.toNat:=u64_wrap_id _ (by omega) (by omega);have s1:∀h:AH,ae h .shl (.int .u64 b1.toNat) (.int .u64 8)=some (.int .u64 ((b1.toNat:Int)*(256:Nat)),h):=λh=>wv h b1 8 256 (by omega) (by decide) (by decide)
 have s2:∀h:AH,ae h .shl (.int .u64 b2.toNat) (.int .u64 16)=some (.int .u64 ((b2.toNat:Int)*(65536:Nat)),h):=λh=>wv h b2 16 65536 (by omega) (by decide) (by decide)
 have s3:∀h:AH,ae h .shl (.int .u64 b3.toNat) (.int .u64 24)=some (.int .u64 ((b3.toNat:Int)*(16777216:Nat)),h):=λh=>wv h b3 24 16777216 (by omega) (by decide) (by decide)
 have s4:∀h:AH,ae h .shl (.int .u64 b4.toNat) (.int .u64 32)=some (.int .u64 ((b4.toNat:Int)*(4294967296:Nat)),h):=λh=>wv h b4 32 4294967296 (by omega) (by decide) (by decide)
 have s5:∀h:AH,ae h .shl (.int .u64 b5.toNat) (.int .u64 40)=some (.int .u64 ((b5.toNat:Int)*(1099511627776:Nat)),h):=λh=>wv h b5 40 1099511627776 (by omega) (by decide) (by decide)
 have s6:∀h:AH,ae h .shl (.int .u64 b6.toNat) (.int .u64 48)=some (.int .u64 ((b6.toNat:Int)*(281474976710656:Nat)),h):=λh=>wv h b6 48 281474976710656 (by omega) (by decide) (by decide)
 have s7:∀h:AH,ae h .shl (.int .u64 b7.toNat) (.int .u64 56)=some (.int .u64 ((b7.toNat:Int)*(72057594037927936:Nat)),h):=λh=>wv h b7 56 72057594037927936 (by omega) (by decide) (by decide)
 have hv:((wd (L.drop off):Nat):Int)=(b0.toNat:Int)+(b1.toNat:Int)*256+(b2.toNat:Int)*65536+(b3.toNat:Int)*16777216+(b4.toNat:Int)*4294967296+(b5.toNat:Int)*1099511627776+(b6.toNat:Int)*281474976710656+(b7.toNat:Int)*72057594037927936:=by
  unfold wd;rw[ht];simp only[Lib.leNat];omega
 rw[hv];have hcc:∀x:Nat,(AH.mk h.H x).ab k=some (aR L):=λ_=>hc
 simp[afH,i0,i1,hcc,c0,c1,w0,w1];simp[Lb,s1,i2,hcc,c2,w2,s2,NH];simp[Jt,i3,i4,hcc,c3,w3,s3,NH];simp[K_,i5,hcc,c4,c5,w4,w5,s4,NH];simp[JZ,i6,hcc,c6,w6,s5,s6,NH];simp[KM,i7,hcc,c7,w7,s7,NH];simp(disch:=omega) only[u64_or8,u64_or16,u64_or24,u64_or32,u64_or40,u64_or48,u64_or56]
def ya:QE prog:=
 ⟨151,λargs h Q=>∃k off n L,args=[.rsl k off n 1]/\(h.ab k=some (aR L)/\8<=n/\off+n<=L.length)/\Q (.int .u64 (wd (L.drop off))) h,λargs h Q ⟨k,off,n,L,h1,⟨h2,h3,h4⟩,h5⟩=>by
  subst h1;exact⟨_,_,aaG h k off n L h2 h3 h4,h5⟩⟩
theorem qt{tl h}{k off n:Nat}{L:Str}{Q:QT}(hx:h.ab k=some (aR L)/\8<=n/\off+n<=L.length)(hq:Q (.int .u64 (wd (L.drop off))) h):tb (ya::tl) 151 [.rsl k off n 1] h Q:=by
 rw[dJ _ tl 151 _ _ _ rfl];exact⟨k,off,n,L,rfl,hx,hq⟩
theorem rT(l:Str):wd l<18446744073709551616:=by
 have key:∀(n:Nat) (l:Str),l.length<=n->Lib.leNat l<256^n:=by
  intro n;induction n with
  |zero=>intro l hl;have:l=[]:=am8 (by omega);subst this;simp[Lib.leNat]
  |succ n ih=>
   intro l hl;cases l with
   |nil=>simp only[Lib.leNat];exact Nat.pow_pos (by omega)
   |cons b l=>
    have:=ih l (by simpa using hl);have hb:=b.toNat_lt;simp only[Lib.leNat];have e:256^(n+1)=256^n*256:=Nat.pow_succ 256 n;omega
 have:=key 8 (l.take 8) (by rw[anN];omega);unfold wd;exact this
structure VS(h:AH)(k:Nat)(L:Str)(ANS:Bool)(h':AH)(off:Nat):Prop where
 c:h'.ab k=some (aR L)
 le:off<=L.length
 v:Lib.validD (L.drop off)=ANS
 nx:h.nx<=h'.nx
 get:∀i,i<h.nx->h'.H.get i=h.H.get i
theorem VS.skip{h:AH}{k:Nat}{L:Str}{ANS:Bool}{h':AH}{off:Nat}(s:VS h k L ANS h' off)(n:Nat)(hn:off+n<=L.length)(ha:∀b∈(L.drop off).take n,b.toNat<128):VS h k L ANS h' (off+n):=
 ⟨s.c,hn,by rw[<-an4,<-Lib.validD_ascii n _ ha];exact s.v,s.nx,s.get⟩
theorem iZ(h:AH)(k off n a:Nat)(ha:a<=n):kSl h 1 (.rsl k off n 1) (some (I a)) none none=some (.rsl k (off+a) (n-a) 1,h):=by
 have q2:(a:Int)<=n:=by omega
 simp[kSl,lF,asl,fj,abd,oc,q2]
inductive VM(h:AH)(k:Nat)(L:Str)(ANS:Bool)(lo:Nat):List AV->AH->Prop
 |mk {h':AH} (off:Nat) (hlo:lo<=off) (s:VS h k L ANS h' off):VM h k L ANS lo [.rsl k off (L.length-off) 1] h'
theorem Gb(h:AH)(a:Nat)(ha:a<18446744073709551616):ae h .and (.int .u64 a) (.int .u64 9259542123273814144)=some (.int .u64 ((a &&& 9259542123273814144:Nat):Int),h):=by
 rw[adl];have:=u64_and_nat a 9259542123273814144 ha (by omega);exact congrArg (λz=>some (AV.int .u64 z,h)) this
theorem Xc(h:AH)(a b:Nat)(ha:a<18446744073709551616)(hb:b<18446744073709551616):ae h .or (.int .u64 a) (.int .u64 b)=some (.int .u64 ((a ||| b:Nat):Int),h):=by
 rw[NH];exact congrArg (λz=>some (AV.int .u64 z,h)) (u64_or_nat a b ha hb)
theorem yo{h:AH}{g:Nat}{cs:LA}(hg:h.H.get g=some (.iq g cs)):h.mL g=some cs:=by
 unfold AH.mL;rw[hg];simp
theorem zt:∀c,c<256->qC[c]?=some ((Lib.firstT c:Nat):Int):=by decide +kernel
theorem JD:∀i,i<16->yh[2*i]?=some ((Lib.accLo i:Nat):Int)/\yh[2*i+1]?=some ((Lib.accHi i:Nat):Int):=by decide +kernel
theorem WH{h:AH}(hg:GJ h)(c:Nat)(hc:c<256):eK h (.fY 1 c)=some (.int .u8 ((Lib.firstT c:Nat):Int),h):=by
 have h1:=yo hg.at1;unfold eK jQ;simp only[h1];rw[anb,zt c hc];rfl
theorem RD{h:AH}(hg:GJ h)(i:Nat)(hi:i<16):bj h 2 (.fY 2 (2*i))=some (.agg [.int .u8 ((Lib.accLo i:Nat):Int),.int .u8 ((Lib.accHi i:Nat):Int)],h):=by
 have h1:=yo hg.at2;obtain⟨a1,a2⟩:=JD i hi;have fk:cut (yh.map (.int .u8)) (2*i) 2=some [.int .u8 ((Lib.accLo i:Nat):Int),.int .u8 ((Lib.accHi i:Nat):Int)]:=by
  have hl:(yh.map (AV.int .u8)).length=32:=rfl;unfold cut;rw[am1 (by rw[hl];omega)];congr 1
  apply aCx;intro j;rw[anZ];by_cases hj:j<2
  ·rw[am1 hj,anl,anb];have:j=0\/j=1:=by omega
   rcases this with rfl|rfl
   ·rw[aoy,a1];rfl
   ·rw[a2];rfl
  ·rw[amU hj];symm
   rw[List.getElem?_eq_none_iff];simp;omega
 unfold bj gm;simp only[h1,fk]
theorem VS.gj{h:AH}{k:Nat}{L:Str}{ANS:Bool}{h':AH}{off:Nat}(s:VS h k L ANS h' off)(hg:GJ h):GJ h':=
 have h8:=hg.2;hg.me (λi hi=>s.get i (by omega)) s.nx
theorem VS.bump{h:AH}{k:Nat}{L:Str}{ANS:Bool}{h':AH}{off:Nat}(s:VS h k L ANS h' off){n:Nat}(hn:h'.nx<=n):VS h k L ANS ⟨h'.H,n⟩ off:=⟨s.c,s.le,s.v,ane s.nx hn,s.get⟩
theorem wd8{L:Str}{off:Nat}(h:off+8<=L.length):wd (L.drop off) &&& 9259542123273814144=0↔∀b∈(L.drop off).take 8,b.toNat<128:=ZS (by rw[am3];omega)
theorem uL{L:Str}{off a b:Nat}(h1:∀c∈(L.drop off).take a,c.toNat<128)(h2:∀c∈(L.drop (off+a)).take b,c.toNat<128):∀c∈(L.drop off).take (a+b),c.toNat<128:=by
 intro c hc;rw[List.take_add,anP]at hc;rcases hc with hc|hc
 ·exact h1 c hc
 ·rw[an4]at hc;exact h2 c hc
inductive M8(h:AH)(k:Nat)(L:Str)(ANS:Bool)(off:Nat)(n:Nat)(h0:AH):List AV->AH->Prop
 |mk (b:Bool) (x:Nat) (hb:b=true->off+n<=L.length/\∀c∈(L.drop off).take n,c.toNat<128) (hx:h0.nx<=x):M8 h k L ANS off n h0 [.rsl k off (L.length-off) 1,.bool b] ⟨h0.H,x⟩
theorem aal{h h':AH}{k off:Nat}{L:Str}{ANS:Bool}(s:VS h k L ANS h' off):uE (tb [ya]) (.rsl k off (L.length-off) 1) h' (M8 h k L ANS off 8 h'):=by
 have hle:=s.le;by_cases h8:8<L.length-off
 ·have h8':(8:Int)<((L.length-off:Nat):Int):=by omega
  simp[uE,h8'];refine qt ⟨s.c,by omega,by omega⟩ ?_;have hm:=Gb h' (wd (L.drop off)) (rT _);have hw:=(wd8 (L:=L) (off:=off) (by omega)).1;rw[hm];generalize wd (L.drop off) &&& 9259542123273814144=Z at*;by_cases hz:Z=0
  ·subst hz;simp[];exact .mk true h'.nx (λ_=>⟨by omega,hw rfl⟩) (amY _)
  ·have hz':((Z:Int)==0)=false:=by simp;omega
   simp[hz'];exact .mk false h'.nx (λe=>by cases e) (amY _)
 ·have h8':¬(8:Int)<((L.length-off:Nat):Int):=by omega
  simp[uE,h8'];exact .mk false h'.nx (λe=>by cases e) (amY _)
theorem VD{h h':AH}{k off:Nat}{L:Str}{ANS:Bool}(s:VS h k L ANS h' off):ux (tb [ya]) (.rsl k off (L.length-off) 1) h' (M8 h k L ANS off 16 h'):=by
 have hle:=s.le;by_cases h8:16<L.length-off
 ·have h8':(16:Int)<((L.length-off:Nat):Int):=by omega
  have hsl:∀h:AH,kSl h 1 (.rsl k off (L.length-off) 1) (some (I 8)) none none=some (.rsl k (off+8) (L.length-off-8) 1,h):=λh=>iZ h k off _ 8 (by omega)
  simp[ux,h8'];refine qt ⟨s.c,by omega,by omega⟩ ?_;simp[];rw[hsl];simp[BZ];refine qt ⟨s.c,by omega,by omega⟩ ?_;have ho:=λh=>Xc h (wd (L.drop off)) (wd (L.drop (off+8))) (rT _) (rT _)
  have hm:=λh=>Gb h (wd (L.drop off) ||| wd (L.drop (off+8))) (aoI (n:=64) (rT _) (rT _))
  have hw1:=(wd8 (L:=L) (off:=off) (by omega)).1;have hw2:=(wd8 (L:=L) (off:=off+8) (by omega)).1;have hor:=(Lib.or_mask (wd (L.drop off)) (wd (L.drop (off+8))) 9259542123273814144).1;simp[];rw[ho];simp[];rw[hm];generalize(wd (L.drop off) ||| wd (L.drop (off+8))) &&& 9259542123273814144=Z at*;by_cases hz:Z=0
  ·subst hz;simp[];exact .mk true _ (λ_=>⟨by omega,uL (hw1 (hor rfl).1) (hw2 (hor rfl).2)⟩) (by omega)
  ·have hz':((Z:Int)==0)=false:=by simp;omega
   simp[hz'];exact .mk false _ (λe=>by cases e) (by omega)
 ·have h8':¬(16:Int)<((L.length-off:Nat):Int):=by omega
  simp[ux,h8'];simp[BZ];exact .mk false _ (λe=>by cases e) (by omega)
theorem Xj{h h':AH}{k off:Nat}{L:Str}{ANS:Bool}(s:VS h k L ANS h' off):uP (tb [ya]) (.rsl k off (L.length-off) 1) h' (M8 h k L ANS off 32 h'):=by
 have hle:=s.le;by_cases h8:32<L.length-off
 ·have h8':(32:Int)<((L.length-off:Nat):Int):=by omega
  have hs1:∀h:AH,kSl h 1 (.rsl k off (L.length-off) 1) (some (I 8)) none none=some (.rsl k (off+8) (L.length-off-8) 1,h):=λh=>iZ h k off _ 8 (by omega)
  have hs2:∀h:AH,kSl h 1 (.rsl k off (L.length-off) 1) (some (I 16)) none none=some (.rsl k (off+16) (L.length-off-16) 1,h):=λh=>iZ h k off _ 16 (by omega)
  have hs3:∀h:AH,kSl h 1 (.rsl k off (L.length-off) 1) (some (I 24)) none none=some (.rsl k (off+24) (L.length-off-24) 1,h):=λh=>iZ h k off _ 24 (by omega)
  have l0:=rT (L.drop off);have l1:=rT (L.drop (off+8));have l2:=rT (L.drop (off+16));have l3:=rT (L.drop (off+24));have w0:=(wd8 (L:=L) (off:=off) (by omega)).1;have w1:=(wd8 (L:=L) (off:=off+8) (by omega)).1;have w2:=(wd8 (L:=L) (off:=off+16) (by omega)).1;have w3:=(wd8 (L:=L) (off:=off+24) (by omega)).1;simp[uP,h8'];refine qt ⟨s.c,by omega,by omega⟩ ?_;simp[];rw[hs1];simp[Ck];refine qt ⟨s.c,by omega,by omega⟩ ?_;simp[];generalize wd (L.drop off)=A at*;generalize wd (L.drop (off+8))=B at*;rw[Xc _ A B l0 l1];simp[];rw[hs2];simp[];refine qt ⟨s.c,by omega,by omega⟩ ?_;simp[];rw[hs3];simp[];refine qt ⟨s.c,by omega,by omega⟩ ?_;generalize wd (L.drop (off+16))=C at*;generalize wd (L.drop (off+24))=D at*;have l01:A ||| B<18446744073709551616:=aoI (n:=64) l0 l1;have l23:C ||| D<18446744073709551616:=aoI (n:=64) l2 l3;have l4:(A ||| B) ||| (C ||| D)<18446744073709551616:=aoI (n:=64) l01 l23;have hor:=(Lib.or_mask (A ||| B) (C ||| D) 9259542123273814144).1;have ho1:=(Lib.or_mask A B 9259542123273814144).1;have ho2:=(Lib.or_mask C D 9259542123273814144).1;have o1:=λh=>Xc h C D l2 l3
  have o2:=λh=>Xc h (A ||| B) (C ||| D) l01 l23
  have o3:=λh=>Gb h ((A ||| B) ||| (C ||| D)) l4
  simp[z_];rw[o1];simp[];rw[o2];simp[];rw[o3];generalize((A ||| B) ||| (C ||| D)) &&& 9259542123273814144=Z at*;by_cases hz:Z=0
  ·subst hz;simp[];refine .mk true _ (λ_=>⟨by omega,?_⟩) (by omega);have q:=hor rfl;have a1:=uL (w0 (ho1 q.1).1) (w1 (ho1 q.1).2);have a2:=uL (off:=off) (a:=16) (b:=8) a1 (w2 (ho2 q.2).1);exact uL (off:=off) (a:=24) (b:=8) a2 (w3 (ho2 q.2).2)
  ·have hz':((Z:Int)==0)=false:=by simp;omega
   simp[hz'];exact .mk false _ (λe=>by cases e) (by omega)
 ·have h8':¬(32:Int)<((L.length-off:Nat):Int):=by omega
  simp[uP,h8'];simp[Ck];simp[z_];exact .mk false _ (λe=>by cases e) (by omega)
inductive VL2(h:AH)(k:Nat)(L:Str)(ANS:Bool)(lo:Nat):Nat->List AV->AH->Prop
 |mk {h':AH} (off:Nat) (hlo:lo<=off) (s:VS h k L ANS h' off):VL2 h k L ANS lo (L.length-off) [.rsl k off (L.length-off) 1] h'
theorem adH{h h':AH}{k off lo:Nat}{L:Str}{ANS:Bool}(s:VS h k L ANS h' off)(hlo:lo<=off)(b:Bool)(hb:b=true->off+8<=L.length/\∀c∈(L.drop off).take 8,c.toNat<128):
  uA (tb [ya]) (.rsl k off (L.length-off) 1) (.bool b) h' (VM h k L ANS lo):=by
 cases b
 ·simp[uA];exact .mk off hlo s
 ·obtain⟨q1,q2⟩:=hb rfl;have s8:=s.skip 8 q1 q2;have hsl:∀h:AH,kSl h 1 (.rsl k off (L.length-off) 1) (some (I 8)) none none=some (.rsl k (off+8) (L.length-(off+8)) 1,h):=λh=>by
   have:=iZ h k off (L.length-off) 8 (by omega);rwa [show L.length-off-8=L.length-(off+8)by omega]at this
  simp[uA];rw[hsl];simp[];refine⟨M8 h k L ANS (off+8) 16 h',VD s8,?_⟩;intro vs h2 hM;cases hM with
  |mk b x hb hx=>
  cases b
  ·simp[A7];exact .mk (off+8) (by omega) (s8.bump hx)
  ·obtain⟨q3,q4⟩:=hb rfl;have s24:=(s8.bump hx).skip 16 q3 q4;have hs2:∀h:AH,kSl h 1 (.rsl k (off+8) (L.length-(off+8)) 1) (some (I 16)) none none=some (.rsl k (off+8+16) (L.length-(off+8+16)) 1,h):=λh=>by
    have:=iZ h k (off+8) (L.length-(off+8)) 16 (by omega);rwa [show L.length-(off+8)-16=L.length-(off+8+16)by omega]at this
   simp[A7];rw[hs2];simp[];refine⟨VL2 h k L ANS lo,_,.mk (off+8+16) (by omega) s24,?_⟩;intro m vs h3 hI;cases hI with
   |mk off hlo s=>
   simp[KE];refine⟨M8 h k L ANS off 32 h3,Xj s,?_⟩;intro vs h4 hM;cases hM with
   |mk b x hb hx=>
   cases b
   ·simp[Ac];simp[LK];simp[AD];exact .mk off hlo (s.bump hx)
   ·obtain⟨q5,q6⟩:=hb rfl;have s32:=(s.bump hx).skip 32 q5 q6;have hs3:∀h:AH,kSl h 1 (.rsl k off (L.length-off) 1) (some (I 32)) none none=some (.rsl k (off+32) (L.length-(off+32)) 1,h):=λh=>by
     have:=iZ h k off (L.length-off) 32 (by omega);rwa [show L.length-off-32=L.length-(off+32)by omega]at this
    simp[Ac];rw[hs3];simp[];exact⟨L.length-(off+32),by omega,.mk (off+32) (by omega) s32⟩
inductive MB(k off:Nat)(L:Str)(cond:Bool)(h0:AH):List AV->AH->Prop
 |mk (x:Nat) (hx:h0.nx<=x):MB k off L cond h0 [.rsl k off (L.length-off) 1,.bool cond] ⟨h0.H,x⟩
theorem x7(h:AH)(c:Nat):ae h .and (.int .u8 ((Lib.firstT c:Nat):Int)) (.int .u8 7)=some (.int .u8 ((Lib.firstT c%8:Nat):Int),h):=by
 rcases Lib.firstT_cases c with e|e|e|e|e|e|e|e|e<;>rw[e]<;>rfl
theorem x16(h:AH)(c:Nat):ae h .shr (.int .u8 ((Lib.firstT c:Nat):Int)) (.int .u64 4)=some (.int .u8 ((Lib.firstT c/16:Nat):Int),h):=by
 rcases Lib.firstT_cases c with e|e|e|e|e|e|e|e|e<;>rw[e]<;>rfl
theorem Z9(c:Nat):Lib.firstT c/16<16:=by
 rcases Lib.firstT_cases c with e|e|e|e|e|e|e|e|e<;>rw[e]<;>decide
theorem wq{L:Str}{off i k n:Nat}{h:AH}(hi:off+i<L.length)(hn:n=L.length-off):aF h 1 (.rsl k off n 1) (I (i:Int))=some (.ptr k (off+i),h):=by
 have:=dY (h:=h) (z:=1) (id:=k) (off:=off) (len:=n) (i:=(i:Int)) (by omega) (by omega);rwa [aou,Nat.mul_one]at this
theorem qv{L:Str}{off i:Nat}(hi:off+i<L.length):(aR L)[off+i]?=some (.int .u8 ((L.drop off).getD i 0).toNat):=by
 have e:L[off+i]?=some ((L.drop off).getD i 0):=by
  rw[anh,anl,am0 hi];rfl
 exact gX e
theorem af1{h':AH}{k off k6:Nat}{L:Str}{lo hi:Nat}(hc:h'.ab k=some (aR L))(h6:h'.ab k6=some [.int .u8 lo,.int .u8 hi])(hle:off<=L.length):
  qR (tb [ya]) (.rsl k off (L.length-off) 1) (.ptr k6 0) h' (MB k off L (decide (L.length-off<2\/((L.drop off).getD 1 0).toNat<lo\/hi<((L.drop off).getD 1 0).toNat)) h'):=by
 by_cases hl:L.length-off<2
 ·have hl':((L.length-off:Nat):Int)<2:=by omega
  simp[qR,hl',hl];simp[uo];simp[qZ];exact .mk _ (by omega)
 ·have hl':¬((L.length-off:Nat):Int)<2:=by omega
  have i1:∀h:AH,aF h 1 (.rsl k off (L.length-off) 1) (I 1)=some (.ptr k (off+1),h):=λh=>wq (i:=1) (L:=L) (by omega) rfl
  have c1:=qv (L:=L) (off:=off) (i:=1) (by omega);generalize((L.drop off).getD 1 0).toNat=b1 at*;simp[qR,hl',hl,i1,hc,c1];by_cases q1:b1<lo
  ·have q1':(b1:Int)<lo:=by omega
   simp[uo,h6,q1,q1'];simp[qZ];exact .mk _ (by omega)
  ·have q1':¬(b1:Int)<lo:=by omega
   simp[uo,h6,q1,q1',i1];by_cases q2:hi<b1
   ·have q2':(hi:Int)<b1:=by omega
    simp[qZ,hc,c1,q2,q2'];exact .mk _ (by omega)
   ·have q2':¬(hi:Int)<b1:=by omega
    simp[qZ,hc,c1,q2,q2'];exact .mk _ (by omega)
theorem VK{h':AH}{k off k6:Nat}{L:Str}{lo hi:Nat}(hc:h'.ab k=some (aR L))(h6:h'.ab k6=some [.int .u8 lo,.int .u8 hi])(hle:off<=L.length):
  rr (tb [ya]) (.rsl k off (L.length-off) 1) (.ptr k6 0) h' (MB k off L (decide (L.length-off<3\/((L.drop off).getD 1 0).toNat<lo\/hi<((L.drop off).getD 1 0).toNat\/((L.drop off).getD 2 0).toNat<128\/191<((L.drop off).getD 2 0).toNat)) h'):=by
 by_cases hl:L.length-off<3
 ·have hl':((L.length-off:Nat):Int)<3:=by omega
  simp[rr,hl',hl];simp[uR];simp[nI];simp[nz];exact .mk _ (by omega)
 ·have hl':¬((L.length-off:Nat):Int)<3:=by omega
  have i1:∀h:AH,aF h 1 (.rsl k off (L.length-off) 1) (I 1)=some (.ptr k (off+1),h):=λh=>wq (i:=1) (L:=L) (by omega) rfl
  have i2:∀h:AH,aF h 1 (.rsl k off (L.length-off) 1) (I 2)=some (.ptr k (off+2),h):=λh=>wq (i:=2) (L:=L) (by omega) rfl
  have c1:=qv (L:=L) (off:=off) (i:=1) (by omega);have c2:=qv (L:=L) (off:=off) (i:=2) (by omega);generalize((L.drop off).getD 1 0).toNat=b1 at*;generalize((L.drop off).getD 2 0).toNat=b2 at*;simp[rr,hl',hl,i1,hc,c1];by_cases q1:b1<lo
  ·have q1':(b1:Int)<lo:=by omega
   simp[uR,h6,q1,q1'];simp[nI];simp[nz];exact .mk _ (by omega)
  ·have q1':¬(b1:Int)<lo:=by omega
   simp[uR,h6,q1,q1',i1];by_cases q2:hi<b1
   ·have q2':(hi:Int)<b1:=by omega
    simp[nI,hc,c1,q2,q2'];simp[nz];exact .mk _ (by omega)
   ·have q2':¬(hi:Int)<b1:=by omega
    by_cases q3:b2<128
    ·have q3':(b2:Int)<128:=by omega
     simp[nI,hc,c1,q2,q2',i2,c2,q3,q3'];simp[nz];exact .mk _ (by omega)
    ·have q3':¬(b2:Int)<128:=by omega
     by_cases q4:191<b2
     ·have q4':(191:Int)<b2:=by omega
      simp[nI,hc,c1,q2,q2',i2,c2,q3,q3'];simp[nz,i2,hc,c2,q4,q4'];exact .mk _ (by omega)
     ·have q4':¬(191:Int)<b2:=by omega
      simp[nI,hc,c1,q2,q2',i2,c2,q3,q3'];simp[nz,i2,hc,c2,q4,q4'];exact .mk _ (by omega)
theorem ZR{h':AH}{k off k6:Nat}{L:Str}{lo hi:Nat}(hc:h'.ab k=some (aR L))(h6:h'.ab k6=some [.int .u8 lo,.int .u8 hi])(hle:off<=L.length):
  rN (tb [ya]) (.rsl k off (L.length-off) 1) (.ptr k6 0) h' (MB k off L (decide (L.length-off<4\/((L.drop off).getD 1 0).toNat<lo\/hi<((L.drop off).getD 1 0).toNat\/((L.drop off).getD 2 0).toNat<128\/191<((L.drop off).getD 2 0).toNat\/((L.drop off).getD 3 0).toNat<128\/191<((L.drop off).getD 3 0).toNat)) h'):=by
 by_cases hl:L.length-off<4
 ·have hl':((L.length-off:Nat):Int)<4:=by omega
  simp[rN,hl',hl];simp[rn];simp[mR];simp[lR];simp[jw];simp[lj];exact .mk _ (by omega)
 ·have hl':¬((L.length-off:Nat):Int)<4:=by omega
  have i1:∀h:AH,aF h 1 (.rsl k off (L.length-off) 1) (I 1)=some (.ptr k (off+1),h):=λh=>wq (i:=1) (L:=L) (by omega) rfl
  have i2:∀h:AH,aF h 1 (.rsl k off (L.length-off) 1) (I 2)=some (.ptr k (off+2),h):=λh=>wq (i:=2) (L:=L) (by omega) rfl
  have i3:∀h:AH,aF h 1 (.rsl k off (L.length-off) 1) (I 3)=some (.ptr k (off+3),h):=λh=>wq (i:=3) (L:=L) (by omega) rfl
  have c1:=qv (L:=L) (off:=off) (i:=1) (by omega);have c2:=qv (L:=L) (off:=off) (i:=2) (by omega);have c3:=qv (L:=L) (off:=off) (i:=3) (by omega);generalize((L.drop off).getD 1 0).toNat=b1 at*;generalize((L.drop off).getD 2 0).toNat=b2 at*;generalize((L.drop off).getD 3 0).toNat=b3 at*;simp[rN,hl',hl,i1,hc,c1];by_cases q1:b1<lo
  ·have q1':(b1:Int)<lo:=by omega
   simp[rn,h6,q1,q1'];simp[mR];simp[lR];simp[jw];simp[lj];exact .mk _ (by omega)
  ·have q1':¬(b1:Int)<lo:=by omega
   simp[rn,h6,q1,q1',i1];by_cases q2:hi<b1
   ·have q2':(hi:Int)<b1:=by omega
    simp[mR,hc,c1,q2,q2'];simp[lR];simp[jw];simp[lj];exact .mk _ (by omega)
   ·have q2':¬(hi:Int)<b1:=by omega
    by_cases q3:b2<128
    ·have q3':(b2:Int)<128:=by omega
     simp[mR,hc,c1,q2,q2',i2,c2,q3,q3'];simp[lR];simp[jw];simp[lj];exact .mk _ (by omega)
    ·have q3':¬(b2:Int)<128:=by omega
     simp[mR,hc,c1,q2,q2',i2,c2,q3,q3'];by_cases q4:191<b2
     ·have q4':(191:Int)<b2:=by omega
      simp[lR,i2,hc,c2,q4,q4'];simp[jw];simp[lj];exact .mk _ (by omega)
     ·have q4':¬(191:Int)<b2:=by omega
      simp[lR,i2,hc,c2,q4,q4'];by_cases q5:b3<128
      ·have q5':(b3:Int)<128:=by omega
       simp[jw,i3,hc,c3,q5,q5'];simp[lj];exact .mk _ (by omega)
      ·have q5':¬(b3:Int)<128:=by omega
       by_cases q6:191<b3
       ·have q6':(191:Int)<b3:=by omega
        simp[jw,i3,hc,c3,q5,q5'];simp[lj,i3,hc,c3,q6,q6'];exact .mk _ (by omega)
       ·have q6':¬(191:Int)<b3:=by omega
        simp[jw,i3,hc,c3,q5,q5'];simp[lj,i3,hc,c3,q6,q6'];exact .mk _ (by omega)
inductive VLx(h:AH)(k:Nat)(L:Str)(ANS:Bool):Nat->List AV->AH->Prop
 |mk {h':AH} (off:Nat) (s:VS h k L ANS h' off):VLx h k L ANS (L.length-off) [.rsl k off (L.length-off) 1] h'
theorem VS.new{h:AH}{k:Nat}{L:Str}{ANS:Bool}{h' h2:AH}{off:Nat}(s:VS h k L ANS h' off)(hk:k<h'.nx)(hn:h'.nx<=h2.nx)(hg:∀i,i<h'.nx->h2.H.get i=h'.H.get i):VS h k L ANS h2 off:=
 have:=s.nx
 ⟨by rw[ay (hg k hk)];exact s.c,s.le,s.v,ane s.nx hn,λi hi=>by rw[hg i (by omega)];exact s.get i hi⟩
theorem aaj{h h':AH}{k off c:Nat}{L:Str}{ANS:Bool}{K:AX->List AV->NT}(s:VS h k L ANS h' off)(hk:k<h'.nx)(hg:GJ h)(hlt:off<L.length)(hc:((L.drop off).getD 0 0).toNat=c)(acE:128<=c)
  (XI:∀x:AH,(h.nx<=x.nx/\∀i,i<h.nx->x.H.get i=h.H.get i)->ANS=false->K .ret [.rsl k off (L.length-off) 1] [.bool false] x)
  (abV:∀(n:Nat) (x:AH),1<=n->off+n<=L.length->VS h k L ANS x (off+n)->K .nrm [.rsl k (off+n) (L.length-(off+n)) 1] [.undef] x):
  vY (tb [ya]) (.rsl k off (L.length-off) 1) (.int .u8 ((Lib.firstT c:Nat):Int)) (.int .u8 ((Lib.firstT c%8:Nat):Int)) h' K:=by
 have hle:=s.le;have aiU:=x16 h' c;have hxl:=Z9 c;have hgj:=s.gj hg;have hld:=RD hgj (Lib.firstT c/16) hxl;have jH:=Lib.validD_lead (L.drop off) (by intro e;have:=congrArg List.length e;rw[am3,anr]at this;omega) (by rw[hc];exact acE);rw[hc,s.v,am3]at jH;have alK:Lib.firstT c%8<8:=Nat.mod_lt _ (by omega);have hix:fv h' 16 2 (.fY 2 0) (.int .u8 ((Lib.firstT c/16:Nat):Int))=some (.fY 2 (2*(Lib.firstT c/16)),h'):=by
  generalize Lib.firstT c/16=q at*;have h0:(0:Int)<=(q:Int)/\(q:Int)<16:=by omega
  simp[fv,aix,oc,n9,h0,hxl,Nat.mul_comm]
 have hwr:IntKind.i64.wrap ((Lib.firstT c%8:Nat):Int)=(Lib.firstT c%8:Nat):=lG (by omega) (by omega);generalize Lib.firstT c/16=q at*;generalize Lib.firstT c%8=sz at*;generalize Lib.firstT c=X at*;generalize Lib.accLo q=lo at*;generalize Lib.accHi q=hi at*;simp[vY,hwr];rw[aiU];simp[];rw[hix];simp[];rw[hld];simp[];have hs2:=s.new (h2:=(h'.add (.cells [.int .u8 0,.int .u8 0])).set h'.nx (.cells [.int .u8 lo,.int .u8 hi])) hk (by simp) λi hi=>by rw[au,amU (by omega),az,amU (by omega)]
 have h6:((h'.add (.cells [.int .u8 0,.int .u8 0])).set h'.nx (.cells [.int .u8 lo,.int .u8 hi])).ab h'.nx=some [.int .u8 lo,.int .u8 hi]:=eD _ _ _ _ rfl;generalize(h'.add (.cells [.int .u8 0,.int .u8 0])).set h'.nx (.cells [.int .u8 lo,.int .u8 hi])=h2 at*;generalize h'.nx=k6 at*;have hsl:∀(n:Nat) (h:AH),off+n<=L.length->kSl h 1 (.rsl k off (L.length-off) 1) (some (I (n:Int))) none none=some (.rsl k (off+n) (L.length-(off+n)) 1,h):=λn h hn=>by
  have:=iZ h k off (L.length-off) n (by omega);rwa [show L.length-off-n=L.length-(off+n)by omega]at this
 have go:∀(n x:Nat),1<=n->off+n<=L.length->h2.nx<=x->ANS=Lib.validD ((L.drop off).drop n)->VS h k L ANS ⟨h2.H,x⟩ (off+n):=λn x h1 h3 h4 h5=>
  ⟨hs2.c,h3,by rw[h5,an4],ane hs2.nx h4,hs2.get⟩
 by_cases s2:sz=2
 ·subst s2;simp[];refine⟨_,af1 hs2.c h6 hle,?_⟩;intro vs h3 hM;cases hM with
  |mk x hx=>
  simp only[Lib.checkN,anH]at jH;by_cases hb:L.length-off<2\/((L.drop off).getD 1 0).toNat<lo\/hi<((L.drop off).getD 1 0).toNat
  ·rw[am1 hb]at jH;rw[anA hb];simp[wG];exact XI _ ⟨ane hs2.nx hx,hs2.get⟩ jH
  ·rw[amU hb]at jH;rw[anw hb];have U4:∀h:AH,kSl h 1 (.rsl k off (L.length-off) 1) (some (I 2)) none none=some (.rsl k (off+2) (L.length-(off+2)) 1,h):=λh=>hsl 2 h (by omega)
   simp[wG];rw[U4];simp[];exact abV 2 _ (by omega) (by omega) (go 2 x (by omega) (by omega) hx jH)
 ·by_cases s3:sz=3
  ·subst s3;simp[];simp[rR];refine⟨_,VK hs2.c h6 hle,?_⟩;intro vs h3 hM;cases hM with
   |mk x hx=>
   simp only[Lib.checkN,Nat.reduceEqDiff,anH,ans]at jH;by_cases hb:L.length-off<3\/((L.drop off).getD 1 0).toNat<lo\/hi<((L.drop off).getD 1 0).toNat\/((L.drop off).getD 2 0).toNat<128\/191<((L.drop off).getD 2 0).toNat
   ·rw[am1 hb]at jH;rw[anA hb];simp[vR];exact XI _ ⟨ane hs2.nx hx,hs2.get⟩ jH
   ·rw[amU hb]at jH;rw[anw hb];have U4:∀h:AH,kSl h 1 (.rsl k off (L.length-off) 1) (some (I 3)) none none=some (.rsl k (off+3) (L.length-(off+3)) 1,h):=λh=>hsl 3 h (by omega)
    simp[vR];rw[U4];simp[];exact abV 3 _ (by omega) (by omega) (go 3 x (by omega) (by omega) hx jH)
  ·have z2:¬(sz:Int)=2:=by omega
   have z3:¬(sz:Int)=3:=by omega
   have z3':((sz:Int)==3)=false:=by simp;omega
   by_cases s4:sz=4
   ·subst s4;simp[];simp[rR];refine⟨_,ZR hs2.c h6 hle,?_⟩;intro vs h3 hM;cases hM with
    |mk x hx=>
    simp only[Lib.checkN,Nat.reduceEqDiff,anH,ans]at jH;by_cases hb:L.length-off<4\/((L.drop off).getD 1 0).toNat<lo\/hi<((L.drop off).getD 1 0).toNat\/((L.drop off).getD 2 0).toNat<128\/191<((L.drop off).getD 2 0).toNat\/((L.drop off).getD 3 0).toNat<128\/191<((L.drop off).getD 3 0).toNat
    ·rw[am1 hb]at jH;rw[anA hb];simp[xg];exact XI _ ⟨ane hs2.nx hx,hs2.get⟩ jH
    ·rw[amU hb]at jH;rw[anw hb];have U4:∀h:AH,kSl h 1 (.rsl k off (L.length-off) 1) (some (I 4)) none none=some (.rsl k (off+4) (L.length-(off+4)) 1,h):=λh=>hsl 4 h (by omega)
     simp[xg];rw[U4];simp[];exact abV 4 _ (by omega) (by omega) (go 4 x (by omega) (by omega) hx jH)
   ·have z4:¬(sz:Int)=4:=by omega
    simp only[Lib.checkN,s2,s3,s4,ans]at jH;simp[z2,z3,z3'];simp[rR,z4];exact XI _ ⟨hs2.nx,hs2.get⟩ jH
theorem VZ(h:AH)(x:AV)(l:Str)(hg:GJ h)(hx:BSl h x l/\l.length<=1000000):aK prog 130 [x] h (.bool (Lib.validD l)) h:=by
 refine aZ (R:=λv h'=>v =.bool (Lib.validD l)/\h.nx<=h'.nx/\∀i,i<h.nx->h'.H.get i=h.H.get i) (ahy (aW [ya]) ?_) λv' h' ⟨h1,h2⟩=>⟨by rw[h1];exact .bool _,h2⟩
 obtain⟨hx,hl⟩:=hx;rcases hx with⟨rfl,rfl⟩|⟨k,rfl,hne,h8,hk,hc⟩
 ·have hsl:∀h:AH,kSl h 1 .aa none (some (I 0)) (some (I 0))=some (.aa,h):=λh=>by simp[kSl,lF,asl,fj,abd,oc]
  simp[aan];refine⟨λm vs h'=>vs=[.aa]/\h'=h,0,⟨rfl,rfl⟩,?_⟩;rintro m vs h' ⟨rfl,rfl⟩;simp[oI];simp[rC];simp[rG];exact Lib.validD_nil
 ·generalize hA:Lib.validD l=ANS;have ot:=anI.2 hne;have hsl:∀h:AH,kSl h 1 (.rsl k 0 l.length 1) none (some (I l.length)) (some (I l.length))=some (.rsl k 0 l.length 1,h):=λh=>by
   have:¬l.length=0:=by omega
   simp[kSl,lF,asl,fj,abd,oc,this]
  simp[aan];rw[hsl];simp[];refine⟨VLx h k l ANS,l.length,?_,?_⟩
  ·exact .mk 0 ⟨hc,by omega,by simpa using hA,amY _,λ_ _=>rfl⟩
  ·intro m vs h' hI;cases hI with
   |mk off s=>
   have hle:=s.le;have hkn:k<h'.nx:=by have:=s.nx;omega
   by_cases hlt:off<l.length
   ·have cw:(0:Int)<((l.length-off:Nat):Int):=by omega
    have xW:0<l.length-off:=by omega
    have i0:∀h:AH,aF h 1 (.rsl k off (l.length-off) 1) (I 0)=some (.ptr k (off+0),h):=λh=>wq (i:=0) (L:=l) (by omega) rfl
    have c0:=qv (L:=l) (off:=off) (i:=0) (by omega);have hb:=((l.drop off).getD 0 0).toNat_lt;generalize hcc:((l.drop off).getD 0 0).toNat=c at*;rw[aoy]at i0 c0;have hcx:=s.c;by_cases acE:c<128
    ·have Vd:(c:Int)<128:=by omega
     have ha1:∀b∈(l.drop off).take 1,b.toNat<128:=by
      intro b hb2;rw[ang hlt]at hb2;simp only[List.take_succ_cons,List.take_zero,anQ]at hb2;have hb3:b=l[off]:=hb2;rw[hb3];have:(l.drop off).getD 0 0=l[off]:=by
       rw[anh,anl,aoy,am0 hlt];rfl
      rw[<-this,hcc];exact acE
     have s1:=s.skip 1 (by omega) ha1;have hs1:∀h:AH,kSl h 1 (.rsl k off (l.length-off) 1) (some (I 1)) none none=some (.rsl k (off+1) (l.length-(off+1)) 1,h):=λh=>by
      have:=iZ h k off (l.length-off) 1 (by omega);rwa [show l.length-off-1=l.length-(off+1)by omega]at this
     simp[oI,cw,xW,i0,hcx,c0,Vd];rw[hs1];simp[];refine⟨M8 h k l ANS (off+1) 8 h',aal s1,?_⟩;intro vs h2 hM;cases hM with
     |mk b x hb hx=>
     simp[DV];refine⟨VM h k l ANS (off+1),adH (s1.bump hx) (amY _) b hb,?_⟩;intro vs h3 hM;cases hM with
     |mk xO hlo s2=>
     simp[Eb];have:=s2.le;exact⟨l.length-xO,by omega,.mk xO s2⟩
    ·have Vd:¬(c:Int)<128:=by omega
     have hgj:=s.gj hg;have hld:=WH hgj c (by omega);have hix:fv h' 256 1 (.fY 1 0) (.int .u8 (c:Int))=some (.fY 1 c,h'):=by
      have h0:(0:Int)<=(c:Int)/\(c:Int)<256:=by omega
      have h1:c<256:=by omega
      simp[fv,aix,oc,n9,h0,h1]
     have hx7:=x7 h' c;obtain⟨F,hF⟩:∃F,F=Lib.firstT c%8:=⟨_,rfl⟩;rw[<-hF]at hx7;simp[oI,cw,xW,i0,hcx,c0,Vd];rw[hix];simp[];rw[hld];simp[];rw[hx7];simp[];rw[hF];refine aaj s hkn hg hlt hcc (by omega) (λx hx hA2=>?_) λn x hn1 hn2 hs2=>?_
     ·simp[rC];exact⟨hA2,hx.1,hx.2⟩
     ·exact Exists.intro (l.length-(off+n)) ⟨by omega,.mk (off+n) hs2⟩
   ·have cw:¬(0:Int)<((l.length-off:Nat):Int):=by omega
    have he:l.drop off=[]:=anf (by omega);have hv:=s.v;rw[he]at hv;have hAt:ANS=true:=hv.symm;simp(disch:=first|go_size|fail)[oI,cw];simp(disch:=first|go_size|fail)[rC];simp(disch:=first|go_size|fail)[rG];exact⟨hAt,s.nx,s.get⟩
def aet:QE prog:=QE.fn 130 GJ (fun(y:AV×Str)=>match y with|⟨x,l⟩=>[x]) (fun(y:AV×Str)(h:AH)=>match y with|⟨x,l⟩=>BSl h x l/\l.length<=1000000) (fun(y:AV×Str)=>match y with|⟨x,l⟩=>.bool (Lib.validD l)) (λh y hj hx=>match y,hx with|⟨x,l⟩,hx=>VZ h x l hj hx)
theorem Z2{tl h}(x:AV)(l:Str){Q:QT}(hj:GJ h)(hx:BSl h x l/\l.length<=1000000)(hq:Q (.bool (Lib.validD l)) h):tb (aet::tl) 130 [x] h Q:=aV (x,l) hj hx hq
theorem HG{h0 h:AH}{lv:AV}{l:Str}(o:OL 1 h0 h lv l.length (aR l)):kX h .b2s [lv]=some (.str l,h):=by
 have hb:=vV l;rcases o with⟨rfl,h2,h3⟩|⟨k,rfl,hn0,hk0,hk,hcs,hlen⟩
 ·have:l=[]:=am8 h2;subst this;simp[kX,cj,fj,lJ]
 ·have hc:cut (aR l) 0 (l.length*1)=some (aR l):=by
   have:=aM (α:=aR l) (b:=[]) (n:=l.length*1) hlen;rwa [am5]at this
  have hc1:cut (aR l) 0 l.length=some (aR l):=by simpa using hc
  simp[kX,cj,fj,hcs,hc1,hb]
theorem ZH{h0 h:AH}{lv:AV}{l:Str}(o:OL 1 h0 h lv l.length (aR l))(hn:8<=h0.nx):BSl h lv l:=by
 rcases o with⟨rfl,h2,h3⟩|⟨k,rfl,hn0,hk0,hk,hcs,hlen⟩
 ·exact .inl ⟨rfl,am8 h2⟩
 ·exact .inr ⟨k,rfl,λe=>hn0 (by rw[e];rfl),by omega,hk,hcs⟩
theorem afM(s:Str)(c:UInt8)(t:PS)(hc:s[t.pos]?=some c):(pQ1 s c t).2.pos<=s.length/\t.pos+1<=(pQ1 s c t).2.pos:=by
 have hlt:=(amV.1 hc).1;unfold pQ1;split
 ·refine⟨WL s _ (by simp only;omega),?_⟩;unfold fx;split
  ·split<;>simp
  ·simp
 ·exact⟨by simp only;omega,by simp⟩
theorem aaQ(h:AH)(id:Nat)(x:Sc)(hj:GJ h/\8<=id)(hc:h.ab id=some (scC x))(hid:id<h.nx)(hx:x.Ok):aK prog 98 [.ptr id 0] h (.str (jd x.s x.t)) (h.set id (.cells (scC ⟨x.s,ef x.s x.t⟩))):=by
 obtain⟨s,t0⟩:=x;have hs:s.length<=1000000:=hx.1;have hp0:=ED s 34 t0 hx.2;refine bm (R:=λv h'=>v =.str (jd s t0)/\Ob h h' id (scC ⟨s,ef s t0⟩)) hid (dE _) (C98 (aW [MU,e94,Wa,aet]) ?_) λv' h' ⟨h1,h2⟩=>⟨by rw[h1];exact .str _,h2⟩
 simp[g98];refine sn (b:=34) hc hid hx ?_;have hob:Ob h (h.set id (.cells (scC ⟨s,bg s 34 t0⟩))) id (scC ⟨s,bg s 34 t0⟩):=(Ob.start hc).set _;have hR:pQL s s.length [] (bg s 34 t0)=jN s t0:=rfl;generalize h.set id (.cells (scC ⟨s,bg s 34 t0⟩))=h1 at*;generalize bg s 34 t0=t1 at*;refine⟨λm vs h'=>∃out t lv,vs=[.ptr id 0,lv]/\Ob h h' id (scC ⟨s,t⟩)/\OL 1 h h' lv out.length (aR out)/\t.pos<=s.length/\s.length-t.pos<=m/\pQL s m out t=jN s t0/\out.length<=t.pos,s.length,?_,?_⟩
 ·exact⟨[],t1,.aa,rfl,hob,OL.start _ _ _,hp0,by omega,hR,by simp⟩
 ·rintro m vs h' ⟨out,t,lv,rfl,ho,hl,hp,hm,hq,hlen⟩;simp[PF];refine⟨λvs h2=>vs=[.ptr id 0,lv,.bool (bB s t && !(s[t.pos]?== some 34))]/\Ob h h2 id (scC ⟨s,t⟩)/\OL 1 h h2 lv out.length (aR out),?_,?_⟩
  ·simp[SB];refine vZ (x:=⟨s,t⟩) ho.c (by have:=ho.lt hid;simp;omega) ⟨hs,hp⟩ ?_;refine⟨by simp,?_⟩;have hc2:h'.ab id=some [.str s,I t.pos,.bool t.first,.bool t.ok]:=ho.c;cases hm:bB s t
   ·simp[hm];simp[FR];exact⟨ho.bump _ (by simp),hl.bump (by simp)⟩
   ·obtain⟨c,hcp⟩:=lT hm;have k1:=Ax c;simp[hm,hc2];simp[FR,hc2,bC hcp,k1];rw[hcp];exact⟨rfl,ho.bump _ (by simp),hl.bump (by simp)⟩
  ·rintro vs h2 ⟨rfl,ho2,hl2⟩;have hc3:h2.ab id=some [.str s,I t.pos,.bool t.first,.bool t.ok]:=ho2.c;cases bN:(bB s t && !(s[t.pos]?== some 34))
   ·have ly:pQL s m out t=(out,t):=by
     cases m with
     |zero=>rfl
     |succ m=>
      unfold pQL;cases hm2:bB s t
      ·simp
      ·obtain⟨c,hcp⟩:=lT hm2;rw[hm2,hcp]at bN;simp at bN;rw[hcp];simp[bN]
    simp[G2];simp[TX];rw[hq]at ly;have eV:jd s t0=out:=by unfold jd;rw[ly]
    have eT:ef s t0=⟨(bg s 34 t).pos,(bg s 34 t).first,(bg s 34 t).ok&&Lib.validD out⟩:=by unfold ef;rw[ly]
    rw[eV,eT];simp[Ih];refine sn (b:=34) (x:=⟨s,t⟩) ho2.c (ho2.lt hid) ⟨hs,hp⟩ ?_;have ho3:Ob h (h2.set id (.cells (scC ⟨s,bg s 34 t⟩))) id (scC ⟨s,bg s 34 t⟩):=ho2.set _;have hl3:OL 1 h (h2.set id (.cells (scC ⟨s,bg s 34 t⟩))) lv out.length (aR out):=hl2.set hid _;simp only at*;generalize h2.set id (.cells (scC ⟨s,bg s 34 t⟩))=h3 at*;generalize bg s 34 t=t3 at*;have hc4:h3.ab id=some [.str s,I t3.pos,.bool t3.first,.bool t3.ok]:=ho3.c;refine⟨λvs h4=>vs=[lv]/\Ob h h4 id (scC ⟨s,⟨t3.pos,t3.first,t3.ok&&Lib.validD out⟩⟩)/\OL 1 h h4 lv out.length (aR out),?_,?_⟩
    ·cases hok:t3.ok
     ·rw[hok]at hc4;simp[HE,hc4];simp[GS,hc4];exact⟨ho3.set _,hl3.set hid _⟩
     ·rw[hok]at hc4;simp[HE,hc4];refine Z2 (x:=lv) (l:=out) (hj.1.ob ho3 hj.2) ⟨ZH hl3 hj.1.2,by omega⟩ ?_;simp[GS,hc4];exact⟨ho3.set _,hl3.set hid _⟩
    ·rintro vs h4 ⟨rfl,ho4,hl4⟩;simp[S5,HG hl4];exact ho4
   ·simp only[amZ,anX]at bN;obtain⟨hm2,U1⟩:=bN;obtain⟨c,hcp⟩:=lT hm2;have hne:c≠34:=by rintro rfl;rw[hcp]at U1;simp at U1
    obtain⟨m,rfl⟩:∃k,m=k+1:=⟨m-1,by have:=(amV.1 hcp).1;omega⟩;have hq2:pQL s m (out++[(pQ1 s c t).1]) (pQ1 s c t).2=jN s t0:=by
     rw[<-hq];conv=>rhs;unfold pQL
     rw[am1 hm2,hcp];simp[hne]
    simp(disch:=first|go_size|fail)[G2,hc3];simp(disch:=first|go_size|fail)[Qt,hc3,bC hcp];simp(disch:=first|go_size|fail)[Te,hc3];have Jg:(AH.mk h2.H (h2.nx+10)).set id (.cells [.str s,I ((t.pos:Int)+1),.bool t.first,.bool t.ok])=(AH.mk h2.H (h2.nx+10)).set id (.cells (scC ⟨s,⟨t.pos+1,t.first,t.ok⟩⟩)):=rfl;try rw[Jg]
    have ho3:Ob h ((AH.mk h2.H (h2.nx+10)).set id (.cells (scC ⟨s,⟨t.pos+1,t.first,t.ok⟩⟩))) id (scC ⟨s,⟨t.pos+1,t.first,t.ok⟩⟩):=(ho2.bump _ (by simp)).set _;have hl3:OL 1 h ((AH.mk h2.H (h2.nx+10)).set id (.cells (scC ⟨s,⟨t.pos+1,t.first,t.ok⟩⟩))) lv out.length (aR out):=(hl2.bump (by simp)).set hid _;generalize(AH.mk h2.H (h2.nx+10)).set id (.cells (scC ⟨s,⟨t.pos+1,t.first,t.ok⟩⟩))=h3 at*;have hq1:=afM s c t hcp;have hlt:=(amV.1 hcp).1;refine⟨λvs h4=>vs=[.ptr id 0,lv,.int .u8 (pQ1 s c t).1.toNat]/\Ob h h4 id (scC ⟨s,(pQ1 s c t).2⟩)/\OL 1 h h4 lv out.length (aR out),?_,?_⟩
    ·have k1:=JR c;by_cases hb:c=92
     ·have e1:pQ1 s c t=(lU s ⟨t.pos+1,t.first,t.ok⟩,fx s ⟨t.pos+1,t.first,t.ok⟩):=by unfold pQ1;rw[am1 hb]
      rw[e1];simp[I0,k1,hb];refine aae (x:=⟨s,⟨t.pos+1,t.first,t.ok⟩⟩) ho3.c (ho3.lt hid) ⟨hs,by simp only;omega⟩ ?_;exact⟨rfl,ho3.set _,hl3.set hid _⟩
     ·have e1:pQ1 s c t=(c,⟨t.pos+1,t.first,t.ok⟩):=by unfold pQ1;rw[amU hb]
      rw[e1];simp[I0,k1,hb];exact⟨ho3,hl3⟩
    ·rintro vs h4 ⟨rfl,ho4,hl4⟩;obtain⟨lv',h5,hk,hl5,hn5,hg5⟩:=mI (bytes:=1) (tc:=[.int .u8 (pQ1 s c t).1.toNat]) hl4 ho4.nx rfl rfl (by omega) (by omega);simp[Qw,hk];refine⟨m,by omega,out++[(pQ1 s c t).1],(pQ1 s c t).2,ho4.app hid (by omega) hg5,?_,hq1.1,by omega,hq2,?_⟩
     ·have:aR (out++[(pQ1 s c t).1])=aR out++[.int .u8 (pQ1 s c t).1.toNat]:=by simp[aR]
      rw[this,amX];exact hl5
     ·rw[amX];simp only[am2];omega
def e98:QE prog:=QE.obj 98 (λh id=>GJ h/\8<=id) scC (fun(_:Unit)=>[]) (fun(x:Sc)(y:Unit)=>match y with|_=>x.Ok) (fun(x:Sc)(y:Unit)=>match y with|_=>.str (jd x.s x.t)) (fun(x:Sc)(y:Unit)=>match y with|_=>⟨x.s,ef x.s x.t⟩) (λh id x y hj hc hid hx=>match y,hx with|_,hx=>aaQ h id x hj hc hid hx)
theorem XJ{tl h}{id:Nat}{x:Sc}{Q:QT}(hj:GJ h/\8<=id)(hc:h.ab id=some (scC x))(hid:id<h.nx)(hx:x.Ok)(hq:Q (.str (jd x.s x.t)) (h.set id (.cells (scC (⟨x.s,ef x.s x.t⟩))))):tb (e98::tl) 98 (.ptr id 0::[]) h Q:=bF () hj hc hid hx hq
@[simp ↓] theorem aj0:TbT e98 98:=aH e98
theorem aaz(h:AH)(id:Nat)(x:Sc)(hj:GJ h/\8<=id)(hc:h.ab id=some (scC x))(hid:id<h.nx)(hx:x.Ok):aK prog 62 [.ptr id 0] h (.str (iJ x.s x.t)) (h.set id (.cells (scC ⟨x.s,dW x.s x.t⟩))):=by
 refine bm (R:=λv h'=>v =.str (iJ x.s x.t)/\Ob h h' id (scC ⟨x.s,dW x.s x.t⟩)) hid (dE _) (C62 (aW [e95,e98]) ?_) λv' h' ⟨h1,h2⟩=>⟨by rw[h1];exact .str _,h2⟩
 simp[g62];refine R7 hc hid hx ?_;refine XJ (x:=⟨x.s,mi x.s x.t⟩) ⟨hj.1.set hj.2,hj.2⟩ (eD _ _ _ _ rfl) hid ⟨hx.1,sJ _ _ hx.2⟩ ?_;exact⟨rfl,((Ob.start hc).set _).set _⟩
def e62:QE prog:=QE.obj 62 (λh id=>GJ h/\8<=id) scC (fun(_:Unit)=>[]) (fun(x:Sc)(y:Unit)=>match y with|_=>x.Ok) (fun(x:Sc)(y:Unit)=>match y with|_=>.str (iJ x.s x.t)) (fun(x:Sc)(y:Unit)=>match y with|_=>⟨x.s,dW x.s x.t⟩) (λh id x y hj hc hid hx=>match y,hx with|_,hx=>aaz h id x hj hc hid hx)
theorem P1{tl h}{id:Nat}{x:Sc}{Q:QT}(hj:GJ h/\8<=id)(hc:h.ab id=some (scC x))(hid:id<h.nx)(hx:x.Ok)(hq:Q (.str (iJ x.s x.t)) (h.set id (.cells (scC (⟨x.s,dW x.s x.t⟩))))):tb (e62::tl) 62 (.ptr id 0::[]) h Q:=bF () hj hc hid hx hq
@[simp ↓] theorem akY:TbT e62 62:=aH e62
end Go.Proofs.YtndpneieplopaaaGreatDoor
end
noncomputable section
namespace Go.St
open Go.Eng
open Go.Lib
def iK(s:Str)(V:PS->Val×PS):Nat->List Val->PS->List Val×PS
 |0,acc,t=>(acc,t)
 |n+1,acc,t=>if bB s t=true/\s[t.pos]?≠some 93 then iK s V n (acc++[(V (if acc=[]then t else bg s 32 t)).1]) (V (if acc=[]then t else bg s 32 t)).2 else(acc,t)
def oE(s:Str)(V:PS->Val×PS)(t:PS):List Val×PS:=iK s V (s.length+2) [] (bg s 91 t)
def lZ(s:Str)(V:PS->Val×PS)(t:PS):Val:=.mk 4 0 [] (oE s V t).1
def gR(s:Str)(V:PS->Val×PS)(t:PS):PS:=bg s 93 (oE s V t).2
def i_(s:Str)(t:PS):Val:=if bZ s true t=d_ then .mk 2 1 [] []else if bZ s true t=LM then .mk 2 0 [] []else .mk 1 (f_ (bZ s true t)) [] []
def gy(s:Str)(t:PS):PS:=if bZ s true t=d_ then vw s true t else if bZ s true t=LM then vw s true t else⟨(vw s true t).pos,(vw s true t).first,(vw s true t).ok&&fD (bZ s true t)⟩
def jb(s:Str):Nat->PS->Val×PS
 |0,t=>(Val.zero,⟨t.pos,t.first,false⟩)
 |k+1,t=>if bB s t=true then
   (if s[t.pos]?=some 34 then(.mk 3 0 (jd s t) [],ef s t)
    else if s[t.pos]?=some 91 then(lZ s (jb s k) t,gR s (jb s k) t)
    else(i_ s t,gy s t))
  else(Val.zero,⟨t.pos,t.first,false⟩)
structure cD(s:Str)(t u:PS):Prop where
 le:t.pos<=u.pos
 lt:u.pos<=s.length
 ok:u.ok=true->t.ok=true
theorem cD.trans{s:Str}{t u v:PS}(a:cD s t u)(b:cD s u v):cD s t v:=⟨ane a.le b.le,b.lt,λh=>a.ok (b.ok h)⟩
theorem cD.refl{s:Str}{t:PS}(h:t.pos<=s.length):cD s t t:=⟨amY _,h,id⟩
theorem eZ(s:Str)(b:UInt8)(t:PS)(ht:t.pos<=s.length):cD s t (bg s b t)/\((bg s b t).ok=true->t.pos<(bg s b t).pos):=by
 unfold bg;split
 ·rename_i h;have:=(amV.1 h.2).1;exact⟨⟨by simp,by simp only;omega,λh=>h⟩,λ_=>by simp⟩
 ·exact⟨⟨amY _,ht,λh=>by cases h⟩,λh=>by cases h⟩
theorem dM(s:Str)(t:PS)(ht:t.pos<=s.length):cD s t (mi s t):=by
 unfold mi;split
 ·exact⟨amY _,ht,λh=>h⟩
 ·exact(eZ s 32 t ht).1
theorem qA(s:Str)(cl:Bool)(t:PS)(ht:t.pos<=s.length):cD s t (vw s cl t)/\((vw s cl t).ok=true->t.pos<(vw s cl t).pos):=by
 have h1:(bZ s cl t).length<=s.length-t.pos:=by
  have:=(List.takeWhile_sublist (bl cl) (l:=s.drop t.pos)).length_le;rw[am3]at this;exact this
 unfold vw;refine⟨⟨by simp,by simp only;omega,λh=>?_⟩,λh=>?_⟩
 ·simp only[amZ]at h;exact h.1
 ·simp only[amZ,anX]at h;have:bZ s cl t≠[]:=by intro e;rw[e]at h;simp at h
  have:=anI.2 this;simp only;omega
theorem fW(s:Str)(t:PS)(ht:t.pos<=s.length):cD s t (bq s t):=(dM s t ht).trans (qA s false _ (dM s t ht).lt).1
theorem Nr(s:Str)(t:PS)(ht:t.pos<=s.length):cD s t (fx s t):=by
 unfold fx;split
 ·rename_i h;unfold bB at h;simp only[amZ,ana]at h;split
  ·exact⟨by simp,h.2,λ_=>h.1⟩
  ·exact⟨amY _,ht,λh=>by cases h⟩
 ·exact⟨amY _,ht,λh=>by cases h⟩
theorem qS(s:Str)(c:UInt8)(t:PS)(hc:s[t.pos]?=some c):cD s t (pQ1 s c t).2:=by
 have hlt:=(amV.1 hc).1;have h1:cD s t ⟨t.pos+1,t.first,t.ok⟩:=⟨by simp,by simp only;omega,λh=>h⟩;unfold pQ1;split
 ·exact h1.trans (Nr s _ (by simp only;omega))
 ·exact h1
theorem rF(s:Str):∀(n:Nat) (out:Str) (t:PS),t.pos<=s.length->cD s t (pQL s n out t).2
 |0,out,t,ht=>cD.refl ht
 |n+1,out,t,ht=>by
  unfold pQL;split
  ·split
   ·rename_i c hc;split
    ·exact cD.refl ht
    ·exact(qS s c t hc).trans (rF s n _ _ (qS s c t hc).lt)
   ·exact cD.refl ht
  ·exact cD.refl ht
theorem qm(s:Str)(t:PS)(ht:t.pos<=s.length):cD s t (ef s t)/\((ef s t).ok=true->t.pos<(ef s t).pos):=by
 have h1:=eZ s 34 t ht;have h2:cD s (bg s 34 t) (jN s t).2:=rF s s.length [] _ h1.1.lt;have h3:=eZ s 34 _ h2.lt;have h4:cD s (bg s 34 (jN s t).2) (ef s t):=by
  refine⟨amY _,h3.1.lt,λh=>?_⟩;unfold ef at h;simp only[amZ]at h;exact h.1
 exact⟨((h1.1.trans h2).trans h3.1).trans h4,λh=>ant (h1.2 (h2.ok (h3.1.ok (h4.ok h)))) ((h2.trans h3.1).trans h4).le⟩
def left(s:Str)(t:PS):Nat:=if t.ok=true then s.length-t.pos+1 else 0
def xC(s:Str)(V:PS->Val×PS):Prop:=∀t,t.pos<=s.length->cD s t (V t).2/\((V t).2.ok=true->t.pos<(V t).2.pos)
theorem mv{s:Str}{V:PS->Val×PS}(hV:xC s V):∀(n:Nat) (acc:List Val) (t:PS),t.pos<=s.length->cD s t (iK s V n acc t).2
 |0,acc,t,ht=>cD.refl ht
 |n+1,acc,t,ht=>by
  unfold iK;split
  ·have h1:cD s t (if acc=[]then t else bg s 32 t):=by
    split
    ·exact cD.refl ht
    ·exact(eZ s 32 t ht).1
   have h2:=(hV _ h1.lt).1;exact(h1.trans h2).trans (mv hV n _ _ h2.lt)
  ·exact cD.refl ht
theorem GK{s:Str}{V:PS->Val×PS}(hV:xC s V)(t:PS)(ht:t.pos<=s.length):cD s t (gR s V t)/\((gR s V t).ok=true->t.pos<(gR s V t).pos):=by
 have h1:=eZ s 91 t ht;have h2:cD s (bg s 91 t) (oE s V t).2:=mv hV _ _ _ h1.1.lt;have h3:=eZ s 93 _ h2.lt;exact⟨(h1.1.trans h2).trans h3.1,λh=>ant (h1.2 (h2.ok (h3.1.ok h))) (h2.trans h3.1).le⟩
theorem lA(s:Str):∀k,xC s (jb s k)
 |0=>λt ht=>⟨⟨amY _,ht,λh=>by cases h⟩,λh=>by cases h⟩
 |k+1=>λt ht=>by
  unfold jb;split
  ·split
   ·exact qm s t ht
   ·split
    ·exact GK (lA s k) t ht
    ·have hb:=qA s true t ht;simp only[gy];split
     ·exact hb
     ·split
      ·exact hb
      ·refine⟨⟨hb.1.le,hb.1.lt,λh=>?_⟩,λh=>?_⟩
       ·simp only[amZ]at h;exact hb.1.ok h.1
       ·simp only[amZ]at h;exact hb.2 h.1
  ·exact⟨⟨amY _,ht,λh=>by cases h⟩,λh=>by cases h⟩
end Go.St
end
noncomputable section
namespace Go.Proofs.YtndpneieplopaaaGreatDoor
open Go.Eng Go.St Tryz
mutual
def vC:Val->List AV
 |.mk k n s l=>[I k,I n,.str s,.psl (vCs l)]
def vCs:List Val->List (LA)
 |[]=>[]
 |v::l=>vC v::vCs l
end
theorem ql:∀l:List Val,vCs l=l.map vC
 |[]=>by simp[vCs]
 |v::l=>by simp[vCs,ql l]
theorem cH(v:Val):(vC v).length=4:=by cases v;simp[vC]
theorem iH(v:Val):dj (vC v)=true:=by cases v;simp[vC,dj,AV.one]
mutual
theorem Zs:∀(v:Val) (H:AH),ea H false (vC v) (vC v)
 |.mk k n s l,H=>by
  have h4:Frz H false (.psl (vCs l)) (.psl (vCs l)):=by
   refine .psl rfl _ _ rfl (λi x y hx hy=>by rw[hx]at hy;cases hy;rfl) λi x y j c d hx hy hc hd=>?_
   rw[hx]at hy;cases hy;rw[hc]at hd;cases hd;exact rZ l H i x hx j c hc
  rw[bK];refine⟨rfl,λi a b ha hb=>?_⟩;rw[ha]at hb;cases hb;match i with
  |0=>simp[vC]at ha;subst ha;exact .int _ _
  |1=>simp[vC]at ha;subst ha;exact .int _ _
  |2=>simp[vC]at ha;subst ha;exact .str _
  |3=>simp[vC]at ha;subst ha;exact h4
  |i+4=>simp[vC]at ha
theorem rZ:∀(l:List Val) (H:AH) (i:Nat) (x:LA),(vCs l)[i]?=some x->∀(j:Nat) (c:AV),x[j]?=some c->Frz H false c c
 |[],H,i,x,hx,j,c,hc=>by simp[vCs]at hx
 |v::l,H,0,x,hx,j,c,hc=>by
  simp[vCs]at hx;subst hx;exact((bK _ _ _ _).1 (Zs v H)).2 j c c hc hc
 |v::l,H,i+1,x,hx,j,c,hc=>by
  simp[vCs]at hx;exact rZ l H i x hx j c hc
end
theorem oO{H:AH}{k n:Int}{s:Str}{l:List Val}{x:AV}(hx:Frz H false x (.psl (vCs l))):Frz H false (.agg [I k,I n,.str s,x]) (.agg (vC (.mk k n s l))):=by
 refine .agg _ _ (by simp[vC]) λi c d hc hd=>?_
 match i with
 |0=>simp[vC]at hc hd;subst hc;subst hd;exact .int _ _
 |1=>simp[vC]at hc hd;subst hc;subst hd;exact .int _ _
 |2=>simp[vC]at hc hd;subst hc;subst hd;exact .str _
 |3=>simp[vC]at hc hd;subst hc;subst hd;exact hx
 |i+4=>simp[vC]at hc
theorem dn{H:AH}:Frz H false .aa (.psl (vCs [])):=by simp only[vCs];exact .aa
def yz(s:Str)(V:PS->Val×PS)(d:Int):Prop:=∀(h:AH) (id:Nat) (t:PS),GJ h/\8<=id->h.ab id=some (scC ⟨s,t⟩)->id<h.nx->(Sc.mk s t).Ok->aK prog 96 [.ptr id 0,I d] h (.agg (vC (V t).1)) (h.set id (.cells (scC ⟨s,(V t).2⟩)))
def Dd(s:Str)(V:PS->Val×PS)(d:Int):Prop:=∀(h:AH) (id:Nat) (t:PS),GJ h/\8<=id->h.ab id=some (scC ⟨s,t⟩)->id<h.nx->(Sc.mk s t).Ok->aK prog 127 [.ptr id 0,I d] h (.agg (vC (lZ s V t))) (h.set id (.cells (scC ⟨s,gR s V t⟩)))
def eV(s:Str)(V:PS->Val×PS)(d:Int)(hv:yz s V d):QE prog:=
 ⟨96,λargs h Q=>∃id t,args=[.ptr id 0,I d]/\(GJ h/\8<=id)/\h.ab id=some (scC ⟨s,t⟩)/\id<h.nx/\(Sc.mk s t).Ok/\Q (.agg (vC (V t).1)) (h.set id (.cells (scC ⟨s,(V t).2⟩))),λargs h Q ⟨id,t,h1,h0,h2,h3,h4,h5⟩=>by
  subst h1;exact⟨_,_,hv h id t h0 h2 h3 h4,h5⟩⟩
theorem ahA{s:Str}{V:PS->Val×PS}{d:Int}{hv:yz s V d}{tl h}{id:Nat}{t:PS}{Q:QT}(hj:GJ h/\8<=id)(hc:h.ab id=some (scC ⟨s,t⟩))(hid:id<h.nx)(hx:(Sc.mk s t).Ok)
  (hq:Q (.agg (vC (V t).1)) (h.set id (.cells (scC ⟨s,(V t).2⟩)))):tb (eV s V d hv::tl) 96 [.ptr id 0,I d] h Q:=by
 rw[dJ _ tl 96 _ _ _ rfl];exact⟨id,t,rfl,hj,hc,hid,hx,hq⟩
def eL(s:Str)(V:PS->Val×PS)(d:Int)(hv:Dd s V d):QE prog:=
 ⟨127,λargs h Q=>∃id t,args=[.ptr id 0,I d]/\(GJ h/\8<=id)/\h.ab id=some (scC ⟨s,t⟩)/\id<h.nx/\(Sc.mk s t).Ok/\Q (.agg (vC (lZ s V t))) (h.set id (.cells (scC ⟨s,gR s V t⟩))),λargs h Q ⟨id,t,h1,h0,h2,h3,h4,h5⟩=>by
  subst h1;exact⟨_,_,hv h id t h0 h2 h3 h4,h5⟩⟩
theorem aia{s:Str}{V:PS->Val×PS}{d:Int}{hv:Dd s V d}{tl h}{id:Nat}{t:PS}{Q:QT}(hj:GJ h/\8<=id)(hc:h.ab id=some (scC ⟨s,t⟩))(hid:id<h.nx)(hx:(Sc.mk s t).Ok)
  (hq:Q (.agg (vC (lZ s V t))) (h.set id (.cells (scC ⟨s,gR s V t⟩)))):tb (eL s V d hv::tl) 127 [.ptr id 0,I d] h Q:=by
 rw[dJ _ tl 127 _ _ _ rfl];exact⟨id,t,rfl,hj,hc,hid,hx,hq⟩
@[simp ↓] theorem alg(s:Str)(V:PS->Val×PS)(d:Int)(hv:Dd s V d)(l:List (QE prog))(f:Nat)(args:LA)(h:AH)(Q:QT)(hf:127≠f):tb (eL s V d hv::l) f args h Q=tb l f args h Q:=aH _ l f args h Q hf
theorem cP(h:AH)(x id:Nat)(o:dx)(hx:x≠id):aU (.read x) (.eff h (h.set id o))=true:=by
 show Di (h.H.get x) ((h.set id o).H.get x)=true
 rw[au,amU hx];exact pI _
def cZ(l:List Val):LA:=(vCs l).flatten
theorem jL(l:List Val)(v:Val):cZ (l++[v])=cZ l++vC v:=by simp[cZ,ql]
def z4:LA:=[I 0,I 0,.str [],.aa]
structure LI(h hb h':AH)(id:Nat)(s:Str)(t:PS)(lv:AV)(acc:List Val):Prop where
 ob:Ob h h' id (scC ⟨s,t⟩)
 r0:h'.ab h.nx=some z4
 r1:h'.ab (h.nx+1)=some [I 4,I 0,.str [],lv]
 nx:h.nx+2<=h'.nx
 ol:OL 4 hb h' lv acc.length (cZ acc)
theorem LI.set{h hb h':AH}{id:Nat}{s:Str}{t:PS}{lv:AV}{acc:List Val}(l:LI h hb h' id s t lv acc)(hid:id<h.nx)(hb2:hb.nx=h.nx+2)(u:PS):LI h hb (h'.set id (.cells (scC ⟨s,u⟩))) id s u lv acc:=
 ⟨l.ob.set _,by rw[ak _ _ _ _ (by omega)];exact l.r0,by rw[ak _ _ _ _ (by omega)];exact l.r1,l.nx,l.ol.set (by omega) _⟩
theorem LI.bump{h hb h':AH}{id:Nat}{s:Str}{t:PS}{lv:AV}{acc:List Val}(l:LI h hb h' id s t lv acc){k:Nat}(hk:h'.nx<=k):LI h hb ⟨h'.H,k⟩ id s t lv acc:=
 ⟨l.ob.bump _ hk,l.r0,l.r1,ane l.nx hk,l.ol.bump hk⟩
theorem Bj{z:Nat}{h0 h hh:AH}{lv:AV}{n:Nat}{cs:LA}(o:OL z h0 h lv n cs):bh hh lv=some (I n,hh):=by
 rcases o with⟨rfl,rfl,rfl⟩|⟨k,rfl,_⟩<;>simp[bh,fj]
theorem vO{α:Type}{z:Nat}:∀(ys:List (List α)),(∀y∈ys,y.length=z)->∀(i j:Nat) (y:List α),ys[i]?=some y->j<z->ys.flatten[i*z+j]?=y[j]?
 |[],_,i,j,y,h,_=>by simp at h
 |x::ys,hz,0,j,y,h,hj=>by
  simp at h;subst h;have hx:=hz x (by simp);rw[an6,anz (by omega)];simp
 |x::ys,hz,i+1,j,y,h,hj=>by
  simp at h;have hx:=hz x (by simp);rw[an6,anj (by rw[anY];omega)];rw[show(i+1)*z+j-x.length=i*z+j by rw[anY];omega];exact vO ys (λy hy=>hz y (by simp[hy])) i j y h hj
theorem vS(l:List Val):∀y∈vCs l,y.length=4:=by
 intro y hy;rw[ql]at hy;obtain⟨v,_,rfl⟩:=an0.1 hy;exact cH v
theorem dr(l:List Val):(vCs l).length=l.length:=by rw[ql,aor]
theorem qx{n:Nat}{hb h':AH}{lv:AV}{acc:List Val}(o:OL 4 hb h' lv acc.length (cZ acc))(hn:n<=hb.nx):Frz (fresh h' n) false lv (.psl (vCs acc)):=by
 rcases o with⟨rfl,h2,h3⟩|⟨k,rfl,hn0,hk0,hk,hcs,hlen⟩
 ·have:acc=[]:=am8 h2;subst this;exact dn
 ·have hf:(fresh h' n).ab k=some (cZ acc):=by rw[iA (by omega)];exact hcs
  have:=Frz.rsl (h:=fresh h' n) (n:=false) k 0 4 (cZ acc) (vCs acc) hf (by rw[dr,hlen];omega) (λi y hy=>vS acc y (am9 hy)) (λi y j c d' hy hd hc=>by
   have hj:j<4:=by
    have:=(amV.1 hd).1;rw[vS acc y (am9 hy)]at this;exact this
   have h1:=vO (vCs acc) (vS acc) i j y hy hj;rw[show 0+i*4+j=i*4+j by omega]at hc;unfold cZ at hc;rw[h1,hd]at hc;cases hc;exact rZ acc _ i y hy j _ hd)
  rwa [dr]at this
theorem jy{z:Nat}{h0 h:AH}{lv:AV}{n:Nat}{cs:LA}(o:OL z h0 h lv n cs):lv.one=true:=by
 rcases o with⟨rfl,_⟩|⟨k,rfl,_⟩<;>rfl
theorem aat{s:Str}{V:PS->Val×PS}{d:Int}(hK:xC s V)(hd:0<=d/\d<=1000)(hv:yz s V (d+1)):Dd s V d:=by
 intro h id t0 hj hc hid hx;have hs:s.length<=1000000:=hx.1;have hp0:=(eZ s 91 t0 hx.2).1.lt;refine bm (R:=λv h'=>∃x,v =.agg [I 4,I 0,.str [],x]/\Frz (fresh h' h.nx) false x (.psl (vCs (oE s V t0).1))/\Ob h h' id (scC ⟨s,gR s V t0⟩)) hid (dE _) (ahu (aW [MU,e94,eV s V (d+1) hv]) ?_) λv' h' ⟨x,h1,h2,h3⟩=>⟨by rw[h1];exact oO h2,h3⟩
 simp[afF];obtain⟨hb,hhb⟩:∃hb:AH,hb=(h.add (.cells z4)).add (.cells z4):=⟨_,rfl⟩;have hbn:hb.nx=h.nx+2:=by rw[hhb];simp
 have hl0:LI h hb (((h.add (.cells z4)).add (.cells z4)).set (h.nx+1) (.cells [I 4,I 0,.str [],.aa])) id s t0 .aa []:=by
  refine⟨?_,?_,eD _ _ _ _ rfl,by simp,OL.start _ _ _⟩
  ·refine(Ob.start hc).new hid (by simp;omega) λi hi=>?_
   rw[au,amU (by omega),az,amU (by simp;omega),az,amU (by omega)]
  ·rw[ak _ _ _ _ (by omega),aC _ _ _ (by simp)];exact bd _ _ _ rfl
 have fJ:(((h.add (.cells [I 0,I 0,.str [],.aa])).add (.cells [I 0,I 0,.str [],.aa])).set (h.nx+1) (.cells [I 4,I 0,.str [],.aa]))=(((h.add (.cells z4)).add (.cells z4)).set (h.nx+1) (.cells [I 4,I 0,.str [],.aa])):=rfl;rw[fJ];generalize(((h.add (.cells z4)).add (.cells z4)).set (h.nx+1) (.cells [I 4,I 0,.str [],.aa]))=h1 at*;refine sn (b:=91) (x:=⟨s,t0⟩) hl0.ob.c (hl0.ob.lt hid) hx ?_;have hl1:=hl0.set hid hbn (bg s 91 t0);simp only at hl1 ⊢;generalize h1.set id (.cells (scC ⟨s,bg s 91 t0⟩))=h2 at*;have pq:iK s V (s.length+2) [] (bg s 91 t0)=oE s V t0:=rfl;have hT:gR s V t0=bg s 93 (oE s V t0).2:=rfl;generalize bg s 91 t0=t1 at*;generalize hR:oE s V t0=R at*;refine⟨λm vs h'=>∃acc t lv,vs=[.ptr id 0,I d,.ptr h.nx 0,.ptr (h.nx+1) 0]/\LI h hb h' id s t lv acc/\t.pos<=s.length/\left s t<=m/\iK s V m acc t=R/\(t.ok=true->acc.length<=t.pos)/\acc.length<=s.length+1,s.length+2,?_,?_⟩
 ·exact⟨[],t1,.aa,rfl,hl1,hp0,by unfold left;split<;>omega,pq,by simp,by simp⟩
 ·rintro m vs h' ⟨acc,t,lv,rfl,hl,hp,hm,hq,hlen,MA⟩;simp[Lh];refine⟨λvs h3=>vs=[.ptr id 0,I d,.ptr h.nx 0,.ptr (h.nx+1) 0,.bool (bB s t && !(s[t.pos]?== some 93))]/\LI h hb h3 id s t lv acc,?_,?_⟩
  ·simp[JK];refine vZ (x:=⟨s,t⟩) hl.ob.c (by have:=hl.ob.lt hid;simp;omega) ⟨hs,hp⟩ ?_;refine⟨by simp,?_⟩;have hc2:h'.ab id=some [.str s,I t.pos,.bool t.first,.bool t.ok]:=hl.ob.c;cases hm:bB s t
   ·simp[hm];simp[BP];exact hl.bump (by simp)
   ·obtain⟨c,hcp⟩:=lT hm;have k1:=SN c;simp[hm,hc2];simp[BP,hc2,bC hcp,k1];rw[hcp];exact⟨rfl,hl.bump (by simp)⟩
  ·rintro vs h3 ⟨rfl,hl3⟩;cases bN:(bB s t && !(s[t.pos]?== some 93))
   ·have ly:iK s V m acc t=(acc,t):=by
     cases m with
     |zero=>rfl
     |succ m=>
      unfold iK;rw[amU];rintro⟨q1,q2⟩;rw[q1]at bN;simp at bN;exact q2 bN
    simp[Ad];simp[Lq];simp[CF];refine sn (b:=93) (x:=⟨s,t⟩) hl3.ob.c (hl3.ob.lt hid) ⟨hs,hp⟩ ?_;have hl4:=hl3.set hid hbn (bg s 93 t);simp only at hl4 ⊢;generalize h3.set id (.cells (scC ⟨s,bg s 93 t⟩))=h4 at*;have hr1:=hl4.r1;have hr0:h4.ab h.nx=some [I 0,I 0,.str [],.aa]:=hl4.r0;rw[hq]at ly;subst ly;simp[hr1,hr0,jy hl4.ol];have hn4:=hl4.nx;have ol5:OL 4 hb (h4.set h.nx (.cells [I 4,I 0,.str [],lv])) lv acc.length (cZ acc):=hl4.ol.du (amY _) λi hi _=>by rw[au,amU (by omega)]
    refine⟨qx ol5 (by omega),?_⟩;rw[hT];exact hl4.ob.app hid (amY _) λi hi=>by rw[au,amU (by omega)]
   ·simp only[amZ,anX]at bN;obtain⟨hm2,agr⟩:=bN;have hne:s[t.pos]?≠some 93:=by intro e;rw[e]at agr;simp at agr
    have hok:t.ok=true:=by unfold bB at hm2;simp only[amZ]at hm2;exact hm2.1
    obtain⟨m,rfl⟩:∃k,m=k+1:=⟨m-1,by unfold left at hm;rw[am1 hok]at hm;omega⟩;have hq2:=hq;unfold iK at hq2;rw[am1 ⟨hm2,hne⟩]at hq2;have hr1:=hl3.r1;simp[Ad,hr1,Bj hl3.ol];have hk1:cD s t (if acc=[]then t else bg s 32 t):=by
     split
     ·exact cD.refl hp
     ·exact(eZ s 32 t hp).1
    refine⟨λvs h4=>vs=[.ptr id 0,I d,.ptr h.nx 0,.ptr (h.nx+1) 0]/\LI h hb h4 id s (if acc=[]then t else bg s 32 t) lv acc,?_,?_⟩
    ·by_cases ha:acc=[]
     ·subst ha;simp[zU];exact hl3
     ·have ot:0<acc.length:=anI.2 ha;simp(disch:=first|go_size|fail)[zU,ha,ot];refine sn (b:=32) (x:=⟨s,t⟩) hl3.ob.c (hl3.ob.lt hid) ⟨hs,hp⟩ ?_;exact hl3.set hid hbn _
    ·rintro vs h4 ⟨rfl,hl4⟩;generalize(if acc=[]then t else bg s 32 t)=u at*;have hKu:=hK u hk1.lt;have ach:=hl4.r1;simp(disch:=first|go_size|fail)[Jk,ach];refine ahA (t:=u) ⟨(hj.1.ob hl4.ob hj.2).bump (by simp),hj.2⟩ hl4.ob.c (by have:=hl4.ob.lt hid;simp;omega) ⟨hs,hk1.lt⟩ ?_;have hl5:=(hl4.bump (k:=h4.nx+10) (by omega)).set hid hbn (V u).2;refine⟨by simp,?_⟩;generalize hVu:V u=vu at*;obtain⟨⟨k',n',s',l'⟩,u'⟩:=vu;simp only[vC]at*;have hn4:=hl4.nx;have mj:aU (.read (h.nx+1)) (.eff (AH.mk h4.H (h4.nx+10)) ((AH.mk h4.H (h4.nx+10)).set id (.cells (scC ⟨s,u'⟩))))=true:=cP _ _ _ _ (by omega);have hl6:LI h hb (((AH.mk h4.H (h4.nx+10)).set id (.cells (scC ⟨s,u'⟩))).set (h4.nx+6) (.cells [I k',I n',.str s',.psl (vCs l')])) id s u' lv acc:=by
      refine⟨hl5.ob.app hid (amY _) λi hi=>by rw[au,amU (by omega)],?_,?_,by simp;omega,?_⟩
      ·rw[ak _ _ _ _ (by omega)];exact hl5.r0
      ·rw[ak _ _ _ _ (by omega)];exact hl5.r1
      ·exact hl4.ol.du (by simp) λi hi hi2=>by rw[au,amU (by omega),au,amU (by omega)]
     have hq6:(((AH.mk h4.H (h4.nx+10)).set id (.cells (scC ⟨s,u'⟩))).set (h4.nx+6) (.cells [I k',I n',.str s',.psl (vCs l')])).ab (h4.nx+6)=some [I k',I n',.str s',.psl (vCs l')]:=eD _ _ _ _ rfl;have hn6:(((AH.mk h4.H (h4.nx+10)).set id (.cells (scC ⟨s,u'⟩))).set (h4.nx+6) (.cells [I k',I n',.str s',.psl (vCs l')])).nx=h4.nx+10:=rfl;have haf:bW [I 0,I 0,.str [],.aa] [(0,4,.agg [I k',I n',.str s',.psl (vCs l')])]=some [I k',I n',.str s',.psl (vCs l')]:=rfl;obtain⟨lv',h7,hk7,hl7,hn7,hg7⟩:=mw (bytes:=56) hl6.ol (by omega) hq6 rfl rfl (by have:=hlen hok;omega) (by omega);rw[haf];simp[];refine fR hk7 (by omega) ?_;rw[hn6]at hn7;have hr7:h7.ab (h.nx+1)=some [I 4,I 0,.str [],lv]:=by rw[ay (hg7 (h.nx+1) (by omega))];exact hl6.r1
     have ho7:Ob h h7 id (scC ⟨s,u'⟩):=hl6.ob.app hid (by omega) λi hi=>hg7 i (by omega)
     have ajL:h7.ab h.nx=some z4:=by rw[ay (hg7 h.nx (by omega))];exact hl6.r0
     have iC:=jy hl7;have ab7:aU (.read (h.nx+1)) (.alloc (h4.nx+6) (.cells [I k',I n',.str s',.psl (vCs l')]))=true:=by
      rw[fw];simp;omega
     generalize(((AH.mk h4.H (h4.nx+10)).set id (.cells (scC ⟨s,u'⟩))).set (h4.nx+6) (.cells [I k',I n',.str s',.psl (vCs l')]))=h6 at*;simp[Kf,hr7,iC,mj,ab7];have hst:kSt h7 1 (.ptr (h.nx+1) 3) lv'=some (.undef,h7.set (h.nx+1) (.cells [I 4,I 0,.str [],lv'])):=by
      have hl8:=hl7;rcases hl8 with⟨_,h0,_⟩|⟨k,hk0,_⟩
      ·omega
      ·rw[hk0];simp[hr7]
     refine fR hst (by simp) ?_;refine⟨m,by omega,acc++[.mk k' n' s' l'],u',⟨lv',?_,?_,eD _ _ _ _ rfl,by simp;omega,?_⟩,hKu.1.lt,?_,hq2,?_,?_⟩
     ·exact ho7.app hid (by simp) λi hi=>by rw[au,amU (by omega)]
     ·rw[ak _ _ _ _ (by omega)];exact ajL
     ·rw[jL,amX];exact hl7.du (by simp) λi hi _=>by rw[au,amU (by omega)]
     ·unfold left at hm ⊢;rw[am1 hok]at hm;by_cases hu:u'.ok=true
      ·rw[am1 hu];have:=hKu.2 hu;have:=hk1.le;have:=hKu.1.lt;omega
      ·rw[amU hu];omega
     ·intro hu;have:=hKu.2 hu;have:=hk1.le;have:=hlen hok;rw[amX];simp only[am2];omega
     ·have:=hlen hok;rw[amX];simp only[am2];omega
end Go.Proofs.YtndpneieplopaaaGreatDoor
end
noncomputable section
namespace Go.St
open Go.Eng
open Go.Lib
inductive Ty where
 |s (k:Int)
 |l (of:Ty)
def di:Ty->Ty->Option Ty
 |.s a,.s b=>if a=b then some (.s b)else none
 |.s a,.l t=>if a=4 then some (.l t)else none
 |.l t,.s b=>if b=4 then some (.l t)else none
 |.l a,.l b=>(di a b).map .l
def kO:List Ty->Ty->Option Ty
 |[],t=>some t
 |u::l,t=>match di t u with|some v=>kO l v|none=>none
def jW:List Ty->Option Ty
 |[]=>some (.s 4)
 |t::l=>(kO l t).map .l
def kl(k n:Int)(s:Str)(l:List Val):Bool:=
 if k=1\/k=2 then decide (s=[])&&decide (l.length=0)else if k=3 then decide (n=0)&&decide (l.length=0)else if k=4 then decide (n=0)&&decide (s=[])else false
def lY(k n:Int):Bool:=(decide (k=1) && !(decide (-1099511627776<=n)&&decide (n<=1099511627776)))||(decide (k=2)&&decide (n≠0)&&decide (n≠1))
mutual
def chk(d:Int):Val->Int->Int×Ty×Int
 |.mk k n s l,m=>
  if k=4/\16<=d then(8,.s 0,m)
  else if kl k n s l=false then(9,.s 0,m+1)
  else if lY k n=true then(1,.s 0,m+1)
  else if 2000<s.length\/100<l.length\/1000<m+1 then(2,.s 0,m+1)
  else if validD s=false then(3,.s 0,m+1)
  else if k≠4 then(0,.s k,m+1)
  else if(nR (d+1) l (m+1) []).1≠0 then((nR (d+1) l (m+1) []).1,.s 0,(nR (d+1) l (m+1) []).2.2)
  else match jW (nR (d+1) l (m+1) []).2.1 with
   |none=>(5,.s 0,(nR (d+1) l (m+1) []).2.2)
   |some t=>(0,t,(nR (d+1) l (m+1) []).2.2)
def nR(d:Int):List Val->Int->List Ty->Int×List Ty×Int
 |[],m,ts=>(0,ts,m)
 |v::l,m,ts=>if(chk d v m).1≠0 then((chk d v m).1,ts,(chk d v m).2.2)else nR d l (chk d v m).2.2 (ts++[(chk d v m).2.1])
end
def mT(v:Val):Int:=(chk 0 v 0).1
def oQ(s:Str)(t:PS):Val:=(jb s 17 t).1
def lX(s:Str)(t:PS):PS:=(jb s 17 t).2
def je(s:Str)(t:PS):PS:=⟨(lX s (mi s t)).pos,(lX s (mi s t)).first,(lX s (mi s t)).ok&&(mT (oQ s (mi s t))==0)⟩
def ml(s:Str):Nat->List Val->PS->List Val×PS
 |0,acc,t=>(acc,t)
 |n+1,acc,t=>if bB s t=true then ml s n (acc++[oQ s (mi s t)]) (je s t)else(acc,t)
def kL(s:Str)(t:PS):List Val×PS:=ml s (s.length+2) [] t
theorem pM(s:Str)(t:PS)(ht:t.pos<=s.length):cD s t (je s t)/\((je s t).ok=true->t.pos<(je s t).pos):=by
 have h1:=dM s t ht;have h2:=lA s 17 _ h1.lt;refine⟨⟨ane h1.le h2.1.le,h2.1.lt,λh=>?_⟩,λh=>?_⟩
 ·unfold je at h;simp only[amZ]at h;exact h1.ok (h2.1.ok h.1)
 ·unfold je at h;simp only[amZ]at h;exact Nat.lt_of_le_of_lt h1.le (h2.2 h.1)
theorem lV(s:Str):∀(n:Nat) (acc:List Val) (t:PS),t.pos<=s.length->cD s t (ml s n acc t).2
 |0,acc,t,ht=>cD.refl ht
 |n+1,acc,t,ht=>by
  unfold ml;split
  ·exact(pM s t ht).1.trans (lV s n _ _ (pM s t ht).1.lt)
  ·exact cD.refl ht
end Go.St
end
noncomputable section
namespace Go.Proofs.YtndpneieplopaaaGreatDoor
open Go.Eng Go.St Tryz
structure VI(h h':AH)(id:Nat)(s:Str)(t:PS):Prop where
 ob:Ob h h' id (scC ⟨s,t⟩)
 r0:h'.ab h.nx=some z4
 nx:h.nx+1<=h'.nx
theorem VI.set{h h':AH}{id:Nat}{s:Str}{t:PS}(l:VI h h' id s t)(hid:id<h.nx)(u:PS):VI h (h'.set id (.cells (scC ⟨s,u⟩))) id s u:=
 ⟨l.ob.set _,by rw[ak _ _ _ _ (by omega)];exact l.r0,l.nx⟩
theorem VI.bump{h h':AH}{id:Nat}{s:Str}{t:PS}(l:VI h h' id s t){k:Nat}(hk:h'.nx<=k):VI h ⟨h'.H,k⟩ id s t:=⟨l.ob.bump _ hk,l.r0,ane l.nx hk⟩
theorem gZ{H:AH}{k n:Int}{s:Str}{l:List Val}{x:AV}(hx:Frz H false x (.psl (vCs l))):ea H false [I k,I n,.str s,x] (vC (.mk k n s l)):=by
 have h:=oO (k:=k) (n:=n) (s:=s) hx;rw[bK];cases h with
 |agg _ _ hl hc=>exact⟨hl,hc⟩
theorem Ph(H:AH)(l:List Val):Frz H false (.psl (vCs l)) (.psl (vCs l)):=
 .psl rfl _ _ rfl (λi x y hx hy=>by rw[hx]at hy;cases hy;rfl) λi x y j c d hx hy hc hd=>by
  rw[hx]at hy;cases hy;rw[hc]at hd;cases hd;exact rZ l H i x hx j c hc
theorem DX{cl:CL}{h h2:AH}{id:Nat}{s:Str}{t:PS}{d:Int}(hid:id<h.nx)(hl:VI h h2 id s t){v:Val}{u:PS}(e1:v=Val.zero)(e2:u=⟨t.pos,t.first,false⟩):
  vr cl (.ptr id 0) (I d) (.ptr h.nx 0) (.bool true) h2 λx h'=>Frz (fresh h' h.nx) false x (.agg (vC v))/\Ob h h' id (scC ⟨s,u⟩):=by
 subst e1;subst e2;have hc2:h2.ab id=some [.str s,I t.pos,.bool t.first,.bool t.ok]:=hl.ob.c;have hl3:=hl.set hid ⟨t.pos,t.first,false⟩;have hr0:h2.ab h.nx=some [I 0,I 0,.str [],.aa]:=hl.r0;have hne:h.nx≠id:=by omega
 have hr3:(h2.set id (.cells [.str s,I t.pos,.bool t.first,.bool false])).ab h.nx=some [I 0,I 0,.str [],.aa]:=hl3.r0;simp[vr,hc2,hr3];exact⟨gZ dn,hl3.ob.app hid (by simp) λi hi=>by rw[au,amU (by omega)];rfl⟩
theorem y9{cl:CL}{h:AH}{id:Nat}{s:Str}{t:PS}{d:Int}{Q:QT}{tl:List (QE prog)}(hcl:cl=tb (e94::tl))(hc:h.ab id=some (scC ⟨s,t⟩))(hid:id<h.nx)(hx:(Sc.mk s t).Ok)
  (hq:∀h2,VI h h2 id s t->vr cl (.ptr id 0) (I d) (.ptr h.nx 0) (.bool (!(bB s t)||decide (16<d))) h2 Q):g96 cl (.ptr id 0) (I d) h Q:=by
 subst hcl;simp[g96];have hl:VI h (h.add (.cells z4)) id s t:=⟨(Ob.start hc).new hid (by simp) λi hi=>by rw[az,amU (by omega)],bd _ _ _ rfl,by simp⟩;have fJ:h.add (.cells [I 0,I 0,.str [],.aa])=h.add (.cells z4):=rfl;rw[fJ];generalize h.add (.cells z4)=h1 at*;refine⟨λvs h2=>vs=[.ptr id 0,I d,.ptr h.nx 0,.bool (!(bB s t)||decide (16<d))]/\VI h h2 id s t,?_,?_⟩
 ·simp[Tx];refine vZ (x:=⟨s,t⟩) hl.ob.c (hl.ob.lt hid) hx ?_;cases hm:bB s t
  ·simp[Im,hm];exact hl
  ·simp[Im,hm];exact hl
 ·rintro vs h2 ⟨rfl,hl2⟩;simp[];exact hq h2 hl2
theorem Ze{s:Str}{d:Int}(hd:d=17):yz s (jb s 0) d:=by
 intro h id t hj hc hid hx;refine bm (R:=λv h'=>Frz (fresh h' h.nx) false v (.agg (vC (jb s 0 t).1))/\Ob h h' id (scC ⟨s,(jb s 0 t).2⟩)) hid (dE _) (C96 (aW [e94]) (y9 (tl:=[]) rfl hc hid hx λh2 hl=>?_)) λv' h' hq=>hq
 have:(!(bB s t)||decide (16<d))=true:=by subst hd;simp
 rw[this];exact DX hid hl rfl rfl
theorem aa6{s:Str}{j:Nat}{d:Int}(hd:d<=16)(hL:Dd s (jb s j) d):yz s (jb s (j+1)) d:=by
 intro h id t hj hc hid hx;have hs:s.length<=1000000:=hx.1;have hp:t.pos<=s.length:=hx.2;refine bm (R:=λv h'=>Frz (fresh h' h.nx) false v (.agg (vC (jb s (j+1) t).1))/\Ob h h' id (scC ⟨s,(jb s (j+1) t).2⟩)) hid (dE _) (C96 (aW [e94,e98,eL s (jb s j) d hL,MQ,e92]) (y9 (tl:=[e98,eL s (jb s j) d hL,MQ,e92]) rfl hc hid hx λh2 hl=>?_)) λv' h' hq=>hq
 have hd':¬16<d:=by omega
 cases hm:bB s t
 ·have e1:jb s (j+1) t=(Val.zero,⟨t.pos,t.first,false⟩):=by simp[jb,hm]
  rw[e1];simp only[Bool.not_false,Bool.true_or];exact DX hid hl rfl rfl
 ·obtain⟨c,hcp⟩:=lT hm;have e1:jb s (j+1) t=if c=34 then(.mk 3 0 (jd s t) [],ef s t)else if c=91 then(lZ s (jb s j) t,gR s (jb s j) t)else(i_ s t,gy s t):=by simp[jb,hm,hcp]
  rw[e1];simp only[Bool.not_true,Bool.false_or,hd',decide_false];have hc2:h2.ab id=some [.str s,I t.pos,.bool t.first,.bool t.ok]:=hl.ob.c;have k1:=Ke c;have k2:=adQ c;have hg2:GJ h2:=hj.1.ob hl.ob hj.2;have alp:=hl.ob.lt hid;simp[vr,hc2];have hl9:=hl.bump (k:=h2.nx+9) (by omega);have hg9:GJ ⟨h2.H,h2.nx+9⟩:=hg2.bump (by omega);by_cases q1:c=34
  ·subst q1;simp[AJ,bC hcp];refine XJ (x:=⟨s,t⟩) ⟨hg9,hj.2⟩ hl9.ob.c (hl9.ob.lt hid) hx ?_;have hl3:=hl9.set hid (ef s t);simp only at hl3 ⊢;generalize(AH.mk h2.H (h2.nx+9)).set id (.cells (scC ⟨s,ef s t⟩))=h3 at*;have hr0:h3.ab h.nx=some [I 0,I 0,.str [],.aa]:=hl3.r0;simp[hr0];exact⟨gZ dn,hl3.ob.app hid (by simp) λi hi=>by rw[au,amU (by omega)]⟩
  ·by_cases q2:c=91
   ·subst q2;simp[AJ,bC hcp];refine aia (t:=t) ⟨hg9,hj.2⟩ hl9.ob.c (hl9.ob.lt hid) hx ?_;have hl3:=hl9.set hid (gR s (jb s j) t);generalize(AH.mk h2.H (h2.nx+9)).set id (.cells (scC ⟨s,gR s (jb s j) t⟩))=h3 at*;have hr0:h3.ab h.nx=some [I 0,I 0,.str [],.aa]:=hl3.r0;simp only[lZ,vC];simp[hr0];exact⟨Ph _ _,hl3.ob.app hid (by simp) λi hi=>by rw[au,amU (by omega)]⟩
   ·simp[AJ,bC hcp,k1,k2,q1,q2];refine Un (cl:=true) (x:=⟨s,t⟩) hl9.ob.c (hl9.ob.lt hid) hx ?_;have hl3:=hl9.set hid (vw s true t);have hg3:GJ ((AH.mk h2.H (h2.nx+9)).set id (.cells (scC ⟨s,vw s true t⟩))):=hg9.set hj.2;have hWl:(bZ s true t).length<=1000000:=by have:=vk s true t hp;omega
    simp only at hl3 ⊢;simp only[i_,gy];generalize(AH.mk h2.H (h2.nx+9)).set id (.cells (scC ⟨s,vw s true t⟩))=h3 at*;generalize bZ s true t=W at*;generalize vw s true t=u at*;have hr0:h3.ab h.nx=some [I 0,I 0,.str [],.aa]:=hl3.r0;have wt:d_=[116,114,117,101]:=rfl;have wf:LM=[102,97,108,115,101]:=rfl;by_cases w1:W=[116,114,117,101]
    ·subst w1;simp[hr0,wt];exact⟨gZ dn,hl3.ob.app hid (by simp) λi hi=>by rw[au,amU (by omega)]⟩
    ·by_cases w2:W=[102,97,108,115,101]
     ·subst w2;simp[hr0,wt,wf];exact⟨gZ dn,hl3.ob.app hid (by simp) λi hi=>by rw[au,amU (by omega)]⟩
     ·simp[w1,w2,wt,wf];refine YB (w:=W) hg3 hWl ?_;simp[Rk];have hc4:h3.ab id=some [.str s,I u.pos,.bool u.first,.bool u.ok]:=hl3.ob.c;refine⟨λvs h4=>vs=[.ptr h.nx 0,I (f_ W)]/\VI h h4 id s ⟨u.pos,u.first,u.ok&&fD W⟩,?_,?_⟩
      ·cases hok:u.ok
       ·rw[hok]at hc4;simp[Hc,hc4];exact hl3.set hid ⟨u.pos,u.first,false⟩
       ·rw[hok]at hc4;simp[Hc,hc4];exact hl3.set hid ⟨u.pos,u.first,fD W⟩
      ·rintro vs h4 ⟨rfl,hl4⟩;have hr4:h4.ab h.nx=some [I 0,I 0,.str [],.aa]:=hl4.r0;simp[SZ,hr4];exact⟨gZ dn,hl4.ob.app hid (by simp) λi hi=>by rw[au,amU (by omega)]⟩
theorem Yc(s:Str):∀(k:Nat) (d:Int),d+k=17->0<=d->yz s (jb s k) d
 |0,d,h1,_=>Ze (by omega)
 |k+1,d,h1,h0=>aa6 (by omega) (aat (lA s k) ⟨h0,by omega⟩ (Yc s k (d+1) (by omega) (by omega)))
theorem V8(h:AH)(id:Nat)(x:Sc)(hj:GJ h/\8<=id)(hc:h.ab id=some (scC x))(hid:id<h.nx)(hx:x.Ok):aK prog 96 [.ptr id 0,I 0] h (.agg (vC (oQ x.s x.t))) (h.set id (.cells (scC ⟨x.s,lX x.s x.t⟩))):=
 Yc x.s 17 0 (by omega) (by omega) h id x.t hj hc hid hx
def e96:QE prog:=QE.obj 96 (λh id=>GJ h/\8<=id) scC (fun(_:Unit)=>[I 0]) (fun(x:Sc)(y:Unit)=>match y with|_=>x.Ok) (fun(x:Sc)(y:Unit)=>match y with|_=>.agg (vC (oQ x.s x.t))) (fun(x:Sc)(y:Unit)=>match y with|_=>⟨x.s,lX x.s x.t⟩) (λh id x y hj hc hid hx=>match y,hx with|_,hx=>V8 h id x hj hc hid hx)
theorem afG{tl h}{id:Nat}{x:Sc}{Q:QT}(hj:GJ h/\8<=id)(hc:h.ab id=some (scC x))(hid:id<h.nx)(hx:x.Ok)(hq:Q (.agg (vC (oQ x.s x.t))) (h.set id (.cells (scC (⟨x.s,lX x.s x.t⟩))))):tb (e96::tl) 96 (.ptr id 0::[I 0]) h Q:=bF () hj hc hid hx hq
@[simp ↓] theorem akI:TbT e96 96:=aH e96
