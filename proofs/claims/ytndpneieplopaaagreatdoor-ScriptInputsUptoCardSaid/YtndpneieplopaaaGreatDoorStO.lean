/- The library's variables, and its functions. -/
import Derived.Test.YtndpneieplopaaaGreatDoorEngLB
import Derived.Test.YtndpneieplopaaaGreatDoorTryzShelf
import Derived.Lib.AppendIntMem
import Derived.Lib.EndianBits
import Derived.Lib.Endian
import Derived.Laws.BitsAllLaws
set_option linter.unusedSimpArgs false
set_option linter.unusedVariables false
noncomputable section
namespace Go.Proofs.YtndpneieplopaaaGreatDoor
open Go.Eng Go.St Go.RowKit Tryz
def sj:List Int:=List.replicate 128 240++List.replicate 66 241++List.replicate 30 2++[19]++List.replicate 12 3++[35]++List.replicate 2 3++[52]++List.replicate 3 4++[68]++List.replicate 11 241
def nk:List Int:=[128,191,160,191,128,159,144,191,128,143]++List.replicate 22 0
def ra:List Int:=(List.range 20).map λi=>((10^i:Nat):Int)
def VG:List (Nat×LA):=[(1,sj.map (.int .u8)),(2,nk.map (.int .u8)),(3,[.iface 258 (.ptr 6 0)]),(4,[.iface 258 (.ptr 7 0)]),(5,ra.map (.int .u64))]
def GJ(h:AH):Prop:=Gx VG h/\8<=h.nx
theorem ahl:∀g cs,(g,cs)∈VG->g<8:=by
 intro g cs h;simp only[VG,cE,Prod.mk.injEq,jN,lG]at h;omega
variable {h h1:AH}
theorem GJ.mG(e:GJ h)(f:∀i,i<8->h1.H.get i=h.H.get i)(m:h.nx<=h1.nx):GJ h1:=
 ⟨λg cs hm=>by rw[f g (ahl g cs hm)];exact e.1 g cs hm,bf e.2 m⟩
variable {id:Nat}{cs:LA}
theorem GJ.ob(e:GJ h)(o:Ob h h1 id cs)(hi:8<=id):GJ h1:=
 e.mG (λi f=>o.get i (by omega) (by have:=e.2;omega)) o.nx
variable {o:bg}
theorem GJ.set(e:GJ h)(hi:8<=id):GJ (h.set id o):=
 e.mG (λi f=>by rw[gsn]) (ay _)
theorem GJ.bump(e:GJ h){k:Nat}(f:h.nx<=k):GJ ⟨h.H,k⟩:=e.mG (λ_ _=>rfl) f
theorem GJ.add(e:GJ h)(o:bg):GJ (h.add o):=
 e.mG (λi f=>by have:=e.2;rw[gan]) (by simp)
theorem GJ.at1(e:GJ h):h.H.get 1=some (.dN 1 (sj.map (.int .u8))):=e.1 1 _ (by simp[VG])
theorem GJ.at2(e:GJ h):h.H.get 2=some (.dN 2 (nk.map (.int .u8))):=e.1 2 _ (by simp[VG])
theorem GJ.at3(e:GJ h):h.H.get 3=some (.dN 3 [.iface 258 (.ptr 6 0)]):=e.1 3 _ (by simp[VG])
theorem GJ.at4(e:GJ h):h.H.get 4=some (.dN 4 [.iface 258 (.ptr 7 0)]):=e.1 4 _ (by simp[VG])
theorem GJ.at5(e:GJ h):h.H.get 5=some (.dN 5 (ra.map (.int .u64))):=e.1 5 _ (by simp[VG])
def aK(l:Str):LA:=l.map λc=>.int .u8 c.toNat
theorem KD:∀l:Str,mK (aK l)=some l
 |[]=>rfl
 |c::l=>by
  have:=KD l;unfold aK at this ⊢;simp only[da,mK,this];simp
def BSl(h:AH)(x:AV)(l:Str):Prop:=(x =.D/\l=[])\/∃id,x =.rsl id 0 l.length 1/\l≠[]/\8<=id/\id<h.nx/\h.E id=some (aK l)
def kH(w:Str):AV:=match Lib.atoiAll w with |.ok _=>.bR|_=>.iface 206 .undef
theorem Wy:Fex prog 123:=⟨_,func123,rfl,by decide⟩
theorem afY:Fex prog 99:=⟨_,func99,rfl,by decide⟩
theorem afF:Fex prog 169:=⟨_,func169,rfl,by decide⟩
variable {own:Nat->Prop}{β:Bl}{w:World}{g:Nat}{a:AV}
theorem X1(m:aB own β h.H h.nx w)(q:h.H.get g=some (.dN g [a])):∃v,w.cell? ⟨g,0,none⟩=some v/\VR w.heap (LL own β h.H) β a v:=by
 obtain⟨cur,e,y,h1,h2,r⟩:=m.I0 q;have f:0<cur.size:=by simp at h2;omega
 refine⟨cur[0],?_,r 0 a cur[0] rfl (by simp[f])⟩;rw[Lib.cell_of_heap h1];simp[f]
variable {hp:Array Obj}{L:Nat->Prop}{u v:Value}
theorem vd{b:AV}(m:VR hp L β a u)(q:VR hp L β b v):VR hp L β (.tup [a,b]) (.tuple #[u,v]):=
 .tup _ _ rfl λi c x e f=>by
  match i with
  |0=>simp at e f;subst e;subst f;exact m
  |1=>simp at e f;subst e;subst f;exact q
  |i+2=>simp at e
theorem aeX(h:AH)(w:Str)(G:GJ h)(P:w.length<=1000000000):ab prog 123 [.str w] h (.tup [I (gw w),kH w]) h:=by
 refine ab.lib Wy λown β wd C hs J=>?_
 obtain⟨u,rfl,hu⟩:=rR J;cases hu;have m:(⟨w.toArray⟩:ByteArray).size=w.length:=by simp[ByteArray.size]
 cases f:Lib.atoiAll w with
 |ok n=>
  refine(aiE ⟨w.toArray⟩ (by rw[m];omega) n f wd).mono ?_;rintro e w' ⟨rfl,B⟩;have r:gw w=n:=by unfold gw;rw[f]
  have y:kH w =.bR:=by unfold kH;rw[f]
  rw[r,y];refine⟨_,rfl,vd (.int _ _) .bR,?_⟩;rcases B with rfl|⟨t,rfl⟩
  ·exact Below.refl _ _
  unfold Lib.bytesWorld;exact Lib.below_freeze (Below.alloc (Below.drew (Below.refl _ _)) (ay _) _) (ay _) _
 |range=>
  obtain⟨v,A,q⟩:=X1 hs G.at4;cases q with
  |iface t a x M=>
  refine(aiy ⟨w.toArray⟩ (by rw[m];omega) f _ wd A (.inr ⟨_,_,rfl⟩)).mono ?_;rintro e w' ⟨N,rfl,_,_,hb⟩;have r:gw w=Lib.atoiSat w:=by unfold gw;rw[f]
  have y:kH w =.iface 206 .undef:=by unfold kH;rw[f]
  rw[r,y];exact⟨_,rfl,vd (.int _ _) (.iface _ _ _ (.undef _)),hb⟩
 |_=>
  obtain⟨v,A,q⟩:=X1 hs G.at3;cases q with
  |iface t a x M=>
  refine(aiz ⟨w.toArray⟩ (by rw[m];omega) f _ wd A (.inr ⟨_,_,rfl⟩)).mono ?_;rintro e w' ⟨N,rfl,_,_,hb⟩;have r:gw w=0:=by unfold gw;rw[f]
  have y:kH w =.iface 206 .undef:=by unfold kH;rw[f]
  rw[r,y];exact⟨_,rfl,vd (.int _ _) (.iface _ _ _ (.undef _)),hb⟩
variable {Q:QT}
theorem aeq(w:Str)(e:GJ h)(f:w.length<=1000000000)(m:Q (.tup [I (gw w),kH w]) h):tU prog 123 [.str w] h Q:=sD (aeX h w e f) m
theorem ahv:prog.globalNamed "internal/strconv.uint64pow10" = some 5:=by kernel_rfl
variable {k:IntKind}{zs:List Int}{name:String}
theorem abR(q:aB own β h.H h.nx w)(r:prog.globalNamed name=some g)(y:h.H.get g=some (.dN g (zs.map (.int k)))):Lib.TabIs prog w name k zs:=by
 obtain⟨cur,e,C,h1,h2,A⟩:=q.I0 y;have f:cur=(zs.map λz=>Value.int k z).toArray:=by
  apply Array.ext
  ·simpa using h2.symm
  intro i hi m;have B:i<zs.length:=by simpa using m
  have:=A i (.int k zs[i]) cur[i] (by simp[B]) (by simp[hi]);generalize cur[i]=x at this ⊢;cases this;simp
 unfold Lib.TabIs World.var?;rw[r,<-f];simp[h1]
theorem Hi(n:Int)(q:GJ h)(m : -9223372036854775808<=n/\n<=9223372036854775807):ab prog 99 [I n] h (.str (Lib.itoa n)) h:=by
 refine ab.lib afY λown β wd f hs r=>?_
 obtain⟨u,rfl,hu⟩:=rR r;cases hu;refine(aiI n m.1 m.2 wd (abR hs ahv (by have:=q.at5;simpa[ra,Lib.pow10Tab]using this))).mono ?_;rintro e w' ⟨rfl,k,os,rfl⟩;exact⟨_,rfl,.str _,Lib.below_grow _ _ (ay _) _ _⟩
variable {n:Int}
theorem I!{w:Str}(h:Lib.atoiAll w =.ok n):-9223372036854775808<=n/\n<=9223372036854775807:=by
 unfold Lib.atoiAll at h;cases w with
 |nil=>cases h
 |cons c r=>
  dsimp only at h;cases hm:Lib.parseMag (if c.toNat=43\/c.toNat=45 then r else c::r)with
  |range=>rw[hm]at h;cases h
  |ok u=>
   rw[hm]at h;dsimp only at h;split at h
   ·cases h
   split at h
   ·cases h
   injection h with h
   split at h<;>omega
  |_=>rw[hm]at h;cases h
theorem Xy(w:Str)(y:GJ h)(B:w.length<=1000000000):ab prog 92 [.str w] h (.tup [I (gw w),.bool (fO w)]) h:=by
 refine kY (R:=λv h'=>v =.tup [I (gw w),.bool (fO w)]/\h'=h) (C92 ?_) λJ h' ⟨h1,h2⟩=>⟨?_,by rw[h2];exact ay _,λi _=>by rw[h2]⟩
 ·simp[g92];refine aeq (w:=w) y B ?_;have A:bh=1099511627776:=rfl;cases e:Lib.atoiAll w with
  |ok n=>
   have C:gw w=n:=by unfold gw;rw[e]
   have m:kH w =.bR:=by unfold kH;rw[e]
   obtain⟨r1,G⟩:=I! e;rw[C,m];have f:fO w=(Lib.itoa n==w&&decide (-bh<=n)&&decide (n<=bh)):=by unfold fO;rw[e]
   simp[yy,afI];refine sD (Hi (n:=n) y ⟨r1,G⟩) ?_;by_cases hi:Lib.itoa n=w
   ·subst hi;by_cases h0 : -1099511627776<=n
    ·simp[uI,h0,f,A]
    simp[uI,h0,f,A]
   simp[uI,hi,f]
  |range=>
   have m:kH w =.iface 206 .undef:=by unfold kH;rw[e]
   have f:fO w=false:=by unfold fO;rw[e]
   rw[m,f];simp[yy,XH,uI]
  |_=>
   have m:kH w =.iface 206 .undef:=by unfold kH;rw[e]
   have f:fO w=false:=by unfold fO;rw[e]
   rw[m,f];simp[yy,XH,uI]
 rw[h1];refine .tup _ _ rfl λi c d q r=>?_
 match i with
 |0=>simp at q r;subst q;subst r;exact .int _ _
 |1=>simp at q r;subst q;subst r;exact .bool _
 |i+2=>simp at q
theorem U'(s:Str)(t:PS):(b9 s t).length<=s.length:=by
 unfold b9 bX;have:=ln (aH false) (s.drop (bq s t).pos);rw[bW]at this;omega
variable {x:Sc}
theorem KN(y:GJ h/\8<=id)(A:h.E id=some (scC x))(f:id<h.nx)(B:x.Ok):ab prog 58 [.ptr id 0] h (I (dB x.s x.t)) (h.set id (.cells (scC ⟨x.s,bK x.s x.t⟩))):=by
 refine fD f (jQ _) (C58 ?_);simp[g58];refine sD (HS A f B) ?_;simp[WT];have q:Ob h (h.set id (.cells (scC ⟨x.s,bm x.s x.t⟩))) id (scC ⟨x.s,bm x.s x.t⟩):=(Ob.start A).set _;refine sD (Xy (w:=b9 x.s x.t) (y.1.ob q y.2) (bf (U' _ _) B.1)) ?_;simp[Vl];generalize h.set id (.cells (scC ⟨x.s,bm x.s x.t⟩))=h1 at*;have e:h1.E id=some [.str x.s,I (bm x.s x.t).pos,.bool (bm x.s x.t).first,.bool (bm x.s x.t).ok]:=q.c;refine⟨λC h2=>C=[I (dB x.s x.t)]/\Ob h h2 id (scC ⟨x.s,bK x.s x.t⟩),?_,?_⟩
 ·have G:bK x.s x.t=⟨(bm x.s x.t).pos,(bm x.s x.t).first,(bm x.s x.t).ok&&fO (b9 x.s x.t)⟩:=rfl;rw[G];cases m:(bm x.s x.t).ok
  ·rw[m]at e;simp[Ie,e];exact⟨rfl,q.set _⟩
  rw[m]at e;simp[Ie,e];exact⟨rfl,q.set _⟩
 rintro C h2 ⟨rfl,r⟩;simp[WG];exact r
end Go.Proofs.YtndpneieplopaaaGreatDoor
end
noncomputable section
namespace Go.Eng
open Go.St
variable {α b:LA}{n:Nat}
theorem cS(h:α.length=n):cut (α++b) 0 n=some α:=by
 unfold cut;rw[Z (by simp;omega)];simp[<-h]
@[simp] theorem Cx(h:AH)(z bytes id off e r f m:Nat):fy h z bytes (.rsl id off e z) (.rsl r f m z) =
  match h.E id,h.E r with
  |some cs,some q=>match cut cs off (e*z),cut q f (m*z)with
   |some y,some new=>if aM new=true/\iC (e+m) bytes=true then some (.rsl h.nx 0 (e+m) z,(h.kill id).add (.cells (y++new)))else none
   |_,_=>none
  |_,_=>none:=by
 simp only[fy,vg,cU,cj,bt];cases h1:h.E id with
 |none=>
  cases h2:h.E r with
  |none=>simp
  |some q=>
   simp;cases A:cut q f (m*z)with
   |none=>simp
   |some new=>simp
 |some cs=>
  cases h2:h.E r with
  |none=>simp
  |some q=>
   simp;cases A:cut q f (m*z)with
   |none=>cases B:cut cs off (e*z)<;>simp
   |some new=>
    cases B:cut cs off (e*z)with
    |none=>simp
    |some y=>cases C:aM new<;>cases G:iC (e+m) bytes<;>simp[C,G]
@[simp] theorem p?(h:AH)(z f:Nat)(e:LA)(m:List (Nat×Nat×AV)):o8 h z f e m=match aQ e m with|some cs=>some (.rsl h.nx 0 f z,h.add (.cells cs))|none=>none:=ag rfl rfl
@[simp] theorem KK(n b:Nat)(h:n*b<=140737488355328)(h2:n<=9223372036854775807):iC n b=true:=by simp[iC,h,h2]
@[simp] theorem Dt(h:AH)(z bytes f e m:Nat)(r:m≠0):fy h z bytes .D (.rsl f e m z) =
  match h.E f with
  |some q=>match cut q e (m*z)with
   |some new=>if aM new=true/\iC m bytes=true then some (.rsl h.nx 0 m z,h.add (.cells new))else none
   |none=>none
  |none=>none:=by
 simp only[fy,vg,cU,cj,bt];cases h2:h.E f with
 |none=>simp
 |some q=>
  simp;cases B:cut q e (m*z)with
  |none=>simp
  |some new=>cases y:aM new<;>cases A:iC m bytes<;>simp[y,A,r]
def OL(z:Nat)(h0 h:AH)(lv:AV)(n:Nat)(cs:LA):Prop:=
 (lv =.D/\n=0/\cs=[])\/∃k,lv =.rsl k 0 n z/\n≠0/\h0.nx<=k/\k<h.nx/\h.E k=some cs/\cs.length=n*z
theorem OL.start(z:Nat)(h0 h:AH):OL z h0 h .D 0 []:=.inl ⟨rfl,rfl,rfl⟩
variable {z:Nat}{h0 h h2:AH}{lv:AV}{cs:LA}
theorem OL.aY(o:OL z h0 h lv n cs)(A:h.nx<=h2.nx)(m:∀i,h0.nx<=i->i<h.nx->h2.H.get i=h.H.get i):OL z h0 h2 lv n cs:=by
 rcases o with⟨h1,e,f⟩|⟨k,h1,e,f,q,r,y⟩
 ·exact .inl ⟨h1,e,f⟩
 exact .inr ⟨k,h1,e,f,by omega,by rw[aV (m k f q)];exact r,y⟩
variable {bytes:Nat}{tc:LA}
theorem kt{n:Nat}(o:OL z h0 h lv n cs)(J:h0.nx<=h.nx)(q:tc.length=z)(r:aM tc=true)(P:n<=1000000000)(hb:bytes<=1000):
  ∃y h2,fy (h.add (.cells tc)) z bytes lv (.rsl h.nx 0 1 z)=some (y,h2)/\OL z h0 h2 y (n+1) (cs++tc)/\h2.nx=h.nx+2/\∀i,i<h0.nx->h2.H.get i=h.H.get i:=by
 have f:cut tc 0 (1*z)=some tc:=by
  have:=cS (α:=tc) (b:=[]) (n:=1*z) (by omega);rwa [bO]at this
 have A:iC (n+1) bytes=true:=by
  refine KK _ _ ?_ (by omega);have:(n+1)*bytes<=1000000001*1000:=Nat.mul_le_mul (by omega) hb;omega
 rcases o with⟨rfl,rfl,rfl⟩|⟨k,rfl,M,N,R,G,hlen⟩
 ·refine⟨.rsl (h.nx+1) 0 1 z,(h.add (.cells tc)).add (.cells tc),?_,.inr ⟨h.nx+1,by simp,by omega,by omega,by simp,?_,by simp[q]⟩,by simp,λi hi=>?_⟩
  ·rw[Dt _ _ _ _ _ _ (by omega)];have B:iC 1 bytes=true:=by simpa using A
   have e:cut tc 0 z=some tc:=by simpa using f
   simp[e,r,B]
  ·have:(h.add (.cells tc)).nx=h.nx+1:=by simp
   rw[<-this,cD];exact cas
  rw[gan,gan]
 have C:(h.add (.cells tc)).E k=some cs:=by rw[can];exact G
 have m:cut cs 0 (n*z)=some cs:=by
  have:=cS (α:=cs) (b:=[]) (n:=n*z) hlen;rwa [bO]at this
 refine⟨.rsl (h.nx+1) 0 (n+1) z,((h.add (.cells tc)).kill k).add (.cells (cs++tc)),?_,.inr ⟨h.nx+1,rfl,by omega,by omega,by simp,?_,?_⟩,by simp,λi hi=>?_⟩
 ·rw[Cx];have e:cut tc 0 z=some tc:=by simpa using f
  simp[e,r,A,C,m]
 ·have:((h.add (.cells tc)).kill k).nx=h.nx+1:=by simp
  rw[<-this];exact cas
 ·rw[au,hlen,q,ie,pX]
 rw[gan,my,ifn,gan]
variable {id:Nat}
theorem Ob.app{h1:AH}(o:Ob h h1 id cs)(e:id<h.nx)(q:h1.nx<=h2.nx)(f:∀i,i<h.nx->h2.H.get i=h1.H.get i):Ob h h2 id cs:=
 ⟨(aV (f id e)).trans o.c,bf o.nx q,λi hi m=>by rw[f i m];exact o.get i hi m⟩
theorem OL.set(o:OL z h0 h lv n cs)(f:id<h0.nx)(e:bg):OL z h0 (h.set id e) lv n cs:=
 o.aY (ay _) λi hi _=>by rw[gsn]
theorem OL.bump(o:OL z h0 h lv n cs){k:Nat}(e:h.nx<=k):OL z h0 ⟨h.H,k⟩ lv n cs:=
 o.aY e λ_ _ _=>rfl
theorem qf{q:Nat}{n:Nat}(o:OL z h0 h lv n cs)(J:h0.nx<=h.nx)(G:h.E q=some tc)(f:tc.length=z)(r:aM tc=true)(P:n<=1000000000)(hb:bytes<=1000):
  ∃y h2,fy h z bytes lv (.rsl q 0 1 z)=some (y,h2)/\OL z h0 h2 y (n+1) (cs++tc)/\h2.nx=h.nx+1/\∀i,i<h0.nx->h2.H.get i=h.H.get i:=by
 have e:cut tc 0 z=some tc:=by
  have:=cS (α:=tc) (b:=[]) (n:=z) f;rwa [bO]at this
 have A:iC (n+1) bytes=true:=by
  refine KK _ _ ?_ (by omega);have:(n+1)*bytes<=1000000001*1000:=Nat.mul_le_mul (by omega) hb;omega
 rcases o with⟨rfl,rfl,rfl⟩|⟨k,rfl,M,N,R,C,hlen⟩
 ·refine⟨.rsl h.nx 0 1 z,h.add (.cells tc),?_,.inr ⟨h.nx,by simp,by omega,by omega,by simp,?_,by simp[f]⟩,by simp,λi hi=>?_⟩
  ·rw[Dt _ _ _ _ _ _ (by omega)];have B:iC 1 bytes=true:=by simpa using A
   simp[e,r,B,G]
  ·rw[cD];exact cas
  rw[gan]
 have m:cut cs 0 (n*z)=some cs:=by
  have:=cS (α:=cs) (b:=[]) (n:=n*z) hlen;rwa [bO]at this
 refine⟨.rsl h.nx 0 (n+1) z,(h.kill k).add (.cells (cs++tc)),?_,.inr ⟨h.nx,rfl,by omega,by omega,by simp,?_,?_⟩,by simp,λi hi=>?_⟩
 ·rw[Cx];simp[e,r,A,C,m,G]
 ·have:(h.kill k).nx=h.nx:=by simp
  rw[<-this];exact cas
 ·rw[au,hlen,f,ie,pX]
 rw[gan,my,ifn]
variable {x:Option (AV×AH)}{v:AV}{k:AV->Rec->AH->Prop}
theorem gS{h':AH}(e:x=some (v,h'))(f:h.nx<=h'.nx)(m:k v (.eff h h') h'):wde h x k:=by subst e;exact⟨f,m⟩
end Go.Eng
end
noncomputable section
namespace Go.Proofs.YtndpneieplopaaaGreatDoor
open Go.Eng Go.St Tryz
theorem tv(h:AH)(y x:Int):aG h .or (.int .u64 y) (.int .u64 x)=some (.int .u64 (bits .or .u64 y x),h):=rfl
theorem aga(h:AH)(y x:Int):aG h .and (.int .u64 y) (.int .u64 x)=some (.int .u64 (bits .and .u64 y x),h):=rfl
theorem sA(h:AH)(b:UInt8)(j m:Nat)(A:j<64)(f:2^j=m)(hb:255*m<18446744073709551616):aG h .shl (.int .u64 b.toNat) (.int .u64 j)=some (.int .u64 ((b.toNat:Int)*m),h):=by
 have y:=b.toNat_lt;have e:xz .shl .u64 (b.toNat:Int) (j:Int)=some (.int .u64 (IntKind.u64.wrap ((b.toNat:Int)*2^(min (j:Int).toNat 64)))):=by
  unfold xz;rw[ifn];rfl
 have q:min (j:Int).toNat 64=j:=by omega
 have r:((2:Int)^j)=(m:Int):=by rw[<-f];simp
 have h1:(b.toNat:Int)*m<18446744073709551616:=by
  have:b.toNat*m<=255*m:=kJ m (by omega);have h2:((b.toNat*m:Nat):Int)<=((255*m:Nat):Int):=by omega
  rw[Int.natCast_mul]at h2;omega
 have h0:0<=(b.toNat:Int)*m:=Int.mul_nonneg (by omega) (by omega);rw[q,r,u64_wrap_id _ h0 h1]at e;simp[aG,eG,iq,e]
def wd(l:Str):Nat:=Lib.leNat (l.take 8)
variable {l:Str}
theorem afj(h:8<=l.length):wd l &&& 9259542123273814144=0↔∀b∈l.take 8,b.toNat<128:=by
 have:=Lib.leNat_mask (l.take 8);rwa [show(l.take 8).length=8 by rw[mv];omega,Lib.maskN8]at this
variable {L:Str}{p:Nat}{c:UInt8}
theorem oX(h:L[p]?=some c):(aK L)[p]?=some (.int .u8 c.toNat):=by
 unfold aK;rw[cA,h];rfl
theorem afR(h:AH)(k off n:Nat)(L:Str)(W:h.E k=some (aK L))(hn:8<=n)(hL:off+n<=L.length):ab prog 151 [.rsl k off n 1] h (.int .u64 (wd (L.drop off))) h:=by
 refine kY (R:=λv h'=>v =.int .u64 (wd (L.drop off))/\h.nx<=h'.nx/\h'.H=h.H) (ah7 ?_) λv' h' ⟨h1,h2,h3⟩=>⟨by rw[h1];exact .int _ _,h2,λi _=>by rw[h3]⟩
 have m:∀i,i<8->∃c,(L.drop off)[i]?=some c:=λi hi=>⟨(L.drop off)[i]'(by rw[bW];omega),bF _⟩
 obtain⟨C,G⟩:=m 0 (by omega);obtain⟨b1,J⟩:=m 1 (by omega);obtain⟨b2,M⟩:=m 2 (by omega);obtain⟨q,N⟩:=m 3 (by omega);obtain⟨r,P⟩:=m 4 (by omega);obtain⟨y,S⟩:=m 5 (by omega);obtain⟨A,T⟩:=m 6 (by omega);obtain⟨B,U⟩:=m 7 (by omega);have ht:(L.drop off).take 8=[C,b1,b2,q,r,y,A,B]:=by
  apply zO;intro i;by_cases hi:i<8
  ·rw[gN,Z hi];have:i=0\/i=1\/i=2\/i=3\/i=4\/i=5\/i=6\/i=7:=by omega
   rcases this with rfl|rfl|rfl|rfl|rfl|rfl|rfl|rfl<;>first|rw[G];rfl|rw[J];rfl|rw[M];rfl|rw[N];rfl|rw[P];rfl|rw[S];rfl|rw[T];rfl|rw[U];rfl
  rw[gN,O hi];symm
  rw[jO];simp;omega
 rw[ew]at G J M N P S T U;rw[p6]at G;have c0:=oX G;have c1:=oX J;have c2:=oX M;have c3:=oX N;have c4:=oX P;have c5:=oX S;have c6:=oX T;have c7:=oX U;have l0:=C.toNat_lt;have l1:=b1.toNat_lt;have l2:=b2.toNat_lt;have l3:=q.toNat_lt;have l4:=r.toNat_lt;have l5:=y.toNat_lt;have l6:=A.toNat_lt;have l7:=B.toNat_lt;have e:∀(h:AH) (i:Nat),i<8->aC h 1 (.rsl k off n 1) (I (i:Int))=some (.ptr k (off+i),h):=λh i hi=>by
  have:=gO (h:=h) (z:=1) (id:=k) (off:=off) (len:=n) (i:=(i:Int)) (by omega) (by omega);rwa [pU,Nat.mul_one]at this
 have i0:∀h:AH,aC h 1 (.rsl k off n 1) (I 0)=some (.ptr k off,h):=λh=>e h 0 (by omega)
 have i1:∀h:AH,aC h 1 (.rsl k off n 1) (I 1)=some (.ptr k (off+1),h):=λh=>e h 1 (by omega)
 have i2:∀h:AH,aC h 1 (.rsl k off n 1) (I 2)=some (.ptr k (off+2),h):=λh=>e h 2 (by omega)
 have i3:∀h:AH,aC h 1 (.rsl k off n 1) (I 3)=some (.ptr k (off+3),h):=λh=>e h 3 (by omega)
 have i4:∀h:AH,aC h 1 (.rsl k off n 1) (I 4)=some (.ptr k (off+4),h):=λh=>e h 4 (by omega)
 have i5:∀h:AH,aC h 1 (.rsl k off n 1) (I 5)=some (.ptr k (off+5),h):=λh=>e h 5 (by omega)
 have i6:∀h:AH,aC h 1 (.rsl k off n 1) (I 6)=some (.ptr k (off+6),h):=λh=>e h 6 (by omega)
 have i7:∀h:AH,aC h 1 (.rsl k off n 1) (I 7)=some (.ptr k (off+7),h):=λh=>e h 7 (by omega)
 have w0:IntKind.u64.wrap (C.toNat:Int)=C.toNat:=u64_wrap_id _ (by omega) (by omega);have w1:IntKind.u64.wrap (b1.toNat:Int)=b1.toNat:=u64_wrap_id _ (by omega) (by omega);have w2:IntKind.u64.wrap (b2.toNat:Int)=b2.toNat:=u64_wrap_id _ (by omega) (by omega);have w3:IntKind.u64.wrap (q.toNat:Int)=q.toNat:=u64_wrap_id _ (by omega) (by omega);have w4:IntKind.u64.wrap (r.toNat:Int)=r.toNat:=u64_wrap_id _ (by omega) (by omega);have w5:IntKind.u64.wrap (y.toNat:Int)=y.toNat:=u64_wrap_id _ (by omega) (by omega);have w6:IntKind.u64.wrap (A.toNat:Int)=A.toNat:=u64_wrap_id _ (by omega) (by omega);have w7:IntKind.u64.wrap (B.toNat:Int)=B.toNat:=u64_wrap_id _ (by omega) (by omega);have s1:∀h:AH,aG h .shl (.int .u64 b1.toNat) (.int .u64 8)=some (.int .u64 ((b1.toNat:Int)*(256:Nat)),h):=λh=>sA h b1 8 256 (by omega) (by decide) (by decide)
 have s2:∀h:AH,aG h .shl (.int .u64 b2.toNat) (.int .u64 16)=some (.int .u64 ((b2.toNat:Int)*(65536:Nat)),h):=λh=>sA h b2 16 65536 (by omega) (by decide) (by decide)
 have s3:∀h:AH,aG h .shl (.int .u64 q.toNat) (.int .u64 24)=some (.int .u64 ((q.toNat:Int)*(16777216:Nat)),h):=λh=>sA h q 24 16777216 (by omega) (by decide) (by decide)
 have s4:∀h:AH,aG h .shl (.int .u64 r.toNat) (.int .u64 32)=some (.int .u64 ((r.toNat:Int)*(4294967296:Nat)),h):=λh=>sA h r 32 4294967296 (by omega) (by decide) (by decide)
 have s5:∀h:AH,aG h .shl (.int .u64 y.toNat) (.int .u64 40)=some (.int .u64 ((y.toNat:Int)*(1099511627776:Nat)),h):=λh=>sA h y 40 1099511627776 (by omega) (by decide) (by decide)
 have s6:∀h:AH,aG h .shl (.int .u64 A.toNat) (.int .u64 48)=some (.int .u64 ((A.toNat:Int)*(281474976710656:Nat)),h):=λh=>sA h A 48 281474976710656 (by omega) (by decide) (by decide)
 have s7:∀h:AH,aG h .shl (.int .u64 B.toNat) (.int .u64 56)=some (.int .u64 ((B.toNat:Int)*(72057594037927936:Nat)),h):=λh=>sA h B 56 72057594037927936 (by omega) (by decide) (by decide)
 have hv:((wd (L.drop off):Nat):Int)=(C.toNat:Int)+(b1.toNat:Int)*256+(b2.toNat:Int)*65536+(q.toNat:Int)*16777216+(r.toNat:Int)*4294967296+(y.toNat:Int)*1099511627776+(A.toNat:Int)*281474976710656+(B.toNat:Int)*72057594037927936:=by
  unfold wd;rw[ht];simp only[Lib.leNat];omega
 rw[hv];have f:∀x:Nat,(AH.mk h.H x).E k=some (aK L):=λ_=>W
 simp[Y1,i0,i1,f,c0,c1,w0,w1,P2,s1,i2,f,c2,w2,s2,tv,Ov,i3,i4,f,c3,w3,s3,tv,QA,i5,f,c4,c5,w4,w5,s4,tv,Qe,i6,f,c6,w6,s5,s6,tv,O8,i7,f,c7,w7,s7,tv];simp(disch:=omega) only[u64_or8,u64_or16,u64_or24,u64_or32,u64_or40,u64_or48,u64_or56]
variable {h:AH}{k off n:Nat}{Q:QT}
theorem sf(e:h.E k=some (aK L)/\8<=n/\off+n<=L.length)(f:Q (.int .u64 (wd (L.drop off))) h):tU prog 151 [.rsl k off n 1] h Q:=
 sD (afR h k off n L e.1 e.2.1 e.2.2) f
theorem pE(l:Str):wd l<18446744073709551616:=by
 have key:∀(n:Nat) (l:Str),l.length<=n->Lib.leNat l<256^n:=by
  intro n;induction n with
  |zero=>intro l f;have:l=[]:=fQ (by omega);subst this;simp[Lib.leNat]
  |succ n m=>
   intro l f;cases l with
   |nil=>simp only[Lib.leNat];exact Nat.pow_pos (by omega)
   |cons b l=>
    have:=m l (by simpa using f);have hb:=b.toNat_lt;simp only[Lib.leNat];have e:256^(n+1)=256^n*256:=tP 256 n;omega
 have:=key 8 (l.take 8) (by rw[mv];omega);unfold wd;exact this
structure VS(h:AH)(k:Nat)(L:Str)(ANS:Bool)(h':AH)(off:Nat):Prop where
 c:h'.E k=some (aK L)
 le:off<=L.length
 v:Lib.validD (L.drop off)=ANS
 nx:h.nx<=h'.nx
 get:∀i,i<h.nx->h'.H.get i=h.H.get i
variable {ANS:Bool}{h':AH}
theorem VS.skip(s:VS h k L ANS h' off)(n:Nat)(e:off+n<=L.length)(f:∀b∈(L.drop off).take n,b.toNat<128):VS h k L ANS h' (off+n):=
 ⟨s.c,e,by rw[<-lB,<-Lib.validD_ascii n _ f];exact s.v,s.nx,s.get⟩
theorem nP(h:AH)(k off n a:Nat)(e:a<=n):kSl h 1 (.rsl k off n 1) (some (I a)) none none=some (.rsl k (off+a) (n-a) 1,h):=by
 have q2:(a:Int)<=n:=by omega
 simp[kSl,mH,asl,cj,abd,hJ,q2]
inductive VM(h:AH)(k:Nat)(L:Str)(ANS:Bool)(lo:Nat):List AV->AH->Prop
 |mk {h':AH} (off:Nat) (hlo:lo<=off) (s:VS h k L ANS h' off):VM h k L ANS lo [.rsl k off (L.length-off) 1] h'
theorem GH(h:AH)(a:Nat)(e:a<18446744073709551616):aG h .and (.int .u64 a) (.int .u64 9259542123273814144)=some (.int .u64 ((a &&& 9259542123273814144:Nat):Int),h):=by
 rw[aga];have:=u64_and_nat a 9259542123273814144 e (by omega);exact congrArg (λz=>some (AV.int .u64 z,h)) this
theorem zu(h:AH)(a b:Nat)(e:a<18446744073709551616)(hb:b<18446744073709551616):aG h .or (.int .u64 a) (.int .u64 b)=some (.int .u64 ((a ||| b:Nat):Int),h):=by
 rw[tv];exact congrArg (λz=>some (AV.int .u64 z,h)) (u64_or_nat a b e hb)
variable {g:Nat}{cs:LA}
theorem Lk(e:h.H.get g=some (.dN g cs)):h.n_ g=some cs:=by
 unfold AH.n_;rw[e];simp
theorem LO:∀c,c<256->sj[c]?=some ((Lib.firstT c:Nat):Int):=by decide +kernel
theorem P1:∀i,i<16->nk[2*i]?=some ((Lib.accLo i:Nat):Int)/\nk[2*i+1]?=some ((Lib.accHi i:Nat):Int):=by decide +kernel
theorem acs(e:GJ h)(c:Nat)(f:c<256):jw h (.c_ 1 c)=some (.int .u8 ((Lib.firstT c:Nat):Int),h):=by
 have h1:=Lk e.at1;unfold jw lh;simp only[h1];rw[cA,LO c f];rfl
theorem abb(m:GJ h)(i:Nat)(hi:i<16):gh h 2 (.c_ 2 (2*i))=some (.agg [.int .u8 ((Lib.accLo i:Nat):Int),.int .u8 ((Lib.accHi i:Nat):Int)],h):=by
 have h1:=Lk m.at2;obtain⟨q,a2⟩:=P1 i hi;have e:cut (nk.map (.int .u8)) (2*i) 2=some [.int .u8 ((Lib.accLo i:Nat):Int),.int .u8 ((Lib.accHi i:Nat):Int)]:=by
  have r:(nk.map (AV.int .u8)).length=32:=rfl;unfold cut;rw[Z (by rw[r];omega)];congr 1
  apply zO;intro j;rw[gN];by_cases f:j<2
  ·rw[Z f,ew,cA];have:j=0\/j=1:=by omega
   rcases this with rfl|rfl
   ·rw[p6,q];rfl
   rw[a2];rfl
  rw[O f];symm
  rw[jO];simp;omega
 unfold gh iP;simp only[h1,e]
theorem VS.gj(s:VS h k L ANS h' off)(e:GJ h):GJ h':=
 have f:=e.2;e.mG (λi hi=>s.get i (by omega)) s.nx
theorem VS.bump(s:VS h k L ANS h' off)(e:h'.nx<=n):VS h k L ANS ⟨h'.H,n⟩ off:=⟨s.c,s.le,s.v,bf s.nx e,s.get⟩
theorem wd8(h:off+8<=L.length):wd (L.drop off) &&& 9259542123273814144=0↔∀b∈(L.drop off).take 8,b.toNat<128:=afj (by rw[bW];omega)
theorem AW{a b:Nat}(h1:∀c∈(L.drop off).take a,c.toNat<128)(h2:∀c∈(L.drop (off+a)).take b,c.toNat<128):∀c∈(L.drop off).take (a+b),c.toNat<128:=by
 intro c e;rw[List.take_add,nC]at e;rcases e with e|e
 ·exact h1 c e
 rw[lB]at e;exact h2 c e
inductive M8(h:AH)(k:Nat)(L:Str)(ANS:Bool)(off:Nat)(n:Nat)(h0:AH):List AV->AH->Prop
 |mk (b:Bool) (x:Nat) (hb:b=true->off+n<=L.length/\∀c∈(L.drop off).take n,c.toNat<128) (hx:h0.nx<=x):M8 h k L ANS off n h0 [.rsl k off (L.length-off) 1,.bool b] ⟨h0.H,x⟩
theorem aea{k off:Nat}{L:Str}(s:VS h k L ANS h' off):BG (.rsl k off (L.length-off) 1) h' (M8 h k L ANS off 8 h'):=by
 have hle:=s.le;by_cases r:8<L.length-off
 ·have f:(8:Int)<((L.length-off:Nat):Int):=by omega
  simp[BG,f];refine sf ⟨s.c,by omega,by omega⟩ ?_;have hm:=GH h' (wd (L.drop off)) (pE _);have hw:=(wd8 (L:=L) (off:=off) (by omega)).1;rw[hm];generalize wd (L.drop off) &&& 9259542123273814144=y at*;by_cases q:y=0
  ·subst q;simp[];exact .mk true h'.nx (λ_=>⟨by omega,hw rfl⟩) (ay _)
  have m:((y:Int)==0)=false:=by simp;omega
  simp[m];exact .mk false h'.nx (λe=>by cases e) (ay _)
 have f:¬(8:Int)<((L.length-off:Nat):Int):=by omega
 simp[BG,f];exact .mk false h'.nx (λe=>by cases e) (ay _)
theorem aco{k off:Nat}{L:Str}(s:VS h k L ANS h' off):Bk (.rsl k off (L.length-off) 1) h' (M8 h k L ANS off 16 h'):=by
 have hle:=s.le;by_cases G:16<L.length-off
 ·have f:(16:Int)<((L.length-off:Nat):Int):=by omega
  have q:∀h:AH,kSl h 1 (.rsl k off (L.length-off) 1) (some (I 8)) none none=some (.rsl k (off+8) (L.length-off-8) 1,h):=λh=>nP h k off _ 8 (by omega)
  simp[Bk,f];refine sf ⟨s.c,by omega,by omega⟩ ?_;simp[];rw[q];simp[CE];refine sf ⟨s.c,by omega,by omega⟩ ?_;have B:=λh=>zu h (wd (L.drop off)) (wd (L.drop (off+8))) (pE _) (pE _)
  have hm:=λh=>GH h (wd (L.drop off) ||| wd (L.drop (off+8))) (zP (n:=64) (pE _) (pE _))
  have r:=(wd8 (L:=L) (off:=off) (by omega)).1;have y:=(wd8 (L:=L) (off:=off+8) (by omega)).1;have m:=(Lib.or_mask (wd (L.drop off)) (wd (L.drop (off+8))) 9259542123273814144).1;simp[];rw[B];simp[];rw[hm];generalize(wd (L.drop off) ||| wd (L.drop (off+8))) &&& 9259542123273814144=J at*;by_cases C:J=0
  ·subst C;simp[];exact .mk true _ (λ_=>⟨by omega,AW (r (m rfl).1) (y (m rfl).2)⟩) (by omega)
  have A:((J:Int)==0)=false:=by simp;omega
  simp[A];exact .mk false _ (λe=>by cases e) (by omega)
 have f:¬(16:Int)<((L.length-off:Nat):Int):=by omega
 simp[Bk,f,CE];exact .mk false _ (λe=>by cases e) (by omega)
theorem adG{k off:Nat}{L:Str}(s:VS h k L ANS h' off):Ba (.rsl k off (L.length-off) 1) h' (M8 h k L ANS off 32 h'):=by
 have hle:=s.le;by_cases h8:32<L.length-off
 ·have f:(32:Int)<((L.length-off:Nat):Int):=by omega
  have J:∀h:AH,kSl h 1 (.rsl k off (L.length-off) 1) (some (I 8)) none none=some (.rsl k (off+8) (L.length-off-8) 1,h):=λh=>nP h k off _ 8 (by omega)
  have M:∀h:AH,kSl h 1 (.rsl k off (L.length-off) 1) (some (I 16)) none none=some (.rsl k (off+16) (L.length-off-16) 1,h):=λh=>nP h k off _ 16 (by omega)
  have N:∀h:AH,kSl h 1 (.rsl k off (L.length-off) 1) (some (I 24)) none none=some (.rsl k (off+24) (L.length-off-24) 1,h):=λh=>nP h k off _ 24 (by omega)
  have S:=pE (L.drop off);have T:=pE (L.drop (off+8));have U:=pE (L.drop (off+16));have l3:=pE (L.drop (off+24));have W:=(wd8 (L:=L) (off:=off) (by omega)).1;have w1:=(wd8 (L:=L) (off:=off+8) (by omega)).1;have w2:=(wd8 (L:=L) (off:=off+16) (by omega)).1;have w3:=(wd8 (L:=L) (off:=off+24) (by omega)).1;simp[Ba,f];refine sf ⟨s.c,by omega,by omega⟩ ?_;simp[];rw[J];simp[Dx];refine sf ⟨s.c,by omega,by omega⟩ ?_;simp[];generalize wd (L.drop off)=A at*;generalize wd (L.drop (off+8))=B at*;rw[zu _ A B S T];simp[];rw[M];simp[];refine sf ⟨s.c,by omega,by omega⟩ ?_;simp[];rw[N];simp[];refine sf ⟨s.c,by omega,by omega⟩ ?_;generalize wd (L.drop (off+16))=C at*;generalize wd (L.drop (off+24))=ad at*;have m:A ||| B<18446744073709551616:=zP (n:=64) S T;have r:C ||| ad<18446744073709551616:=zP (n:=64) U l3;have l4:(A ||| B) ||| (C ||| ad)<18446744073709551616:=zP (n:=64) m r;have P:=(Lib.or_mask (A ||| B) (C ||| ad) 9259542123273814144).1;have y:=(Lib.or_mask A B 9259542123273814144).1;have G:=(Lib.or_mask C ad 9259542123273814144).1;have o1:=λh=>zu h C ad U l3
  have o2:=λh=>zu h (A ||| B) (C ||| ad) m r
  have o3:=λh=>GH h ((A ||| B) ||| (C ||| ad)) l4
  simp[Di];rw[o1];simp[];rw[o2];simp[];rw[o3];generalize((A ||| B) ||| (C ||| ad)) &&& 9259542123273814144=af at*;by_cases hz:af=0
  ·subst hz;simp[];refine .mk true _ (λ_=>⟨by omega,?_⟩) (by omega);have q:=P rfl;have a1:=AW (W (y q.1).1) (w1 (y q.1).2);have a2:=AW (off:=off) (a:=16) (b:=8) a1 (w2 (G q.2).1);exact AW (off:=off) (a:=24) (b:=8) a2 (w3 (G q.2).2)
  have R:((af:Int)==0)=false:=by simp;omega
  simp[R];exact .mk false _ (λe=>by cases e) (by omega)
 have f:¬(32:Int)<((L.length-off:Nat):Int):=by omega
 simp[Ba,f,Dx,Di];exact .mk false _ (λe=>by cases e) (by omega)
inductive VL2(h:AH)(k:Nat)(L:Str)(ANS:Bool)(lo:Nat):Nat->List AV->AH->Prop
 |mk {h':AH} (off:Nat) (hlo:lo<=off) (s:VS h k L ANS h' off):VL2 h k L ANS lo (L.length-off) [.rsl k off (L.length-off) 1] h'
variable {lo:Nat}
theorem af5(s:VS h k L ANS h' off)(e:lo<=off)(b:Bool)(hb:b=true->off+8<=L.length/\∀c∈(L.drop off).take 8,c.toNat<128):
  Bj (.rsl k off (L.length-off) 1) (.bool b) h' (VM h k L ANS lo):=by
 cases b
 ·simp[Bj];exact .mk off e s
 obtain⟨q1,q2⟩:=hb rfl;have q:=s.skip 8 q1 q2;have y:∀h:AH,kSl h 1 (.rsl k off (L.length-off) 1) (some (I 8)) none none=some (.rsl k (off+8) (L.length-(off+8)) 1,h):=λh=>by
  have:=nP h k off (L.length-off) 8 (by omega);rwa [show L.length-off-8=L.length-(off+8)by omega]at this
 simp[Bj];rw[y];simp[];refine⟨M8 h k L ANS (off+8) 16 h',aco q,?_⟩;intro G h2 r;cases r with
 |mk b x hb f=>
 cases b
 ·simp[Dk];exact .mk (off+8) (by omega) (q.bump f)
 obtain⟨q3,J⟩:=hb rfl;have A:=(q.bump f).skip 16 q3 J;have B:∀h:AH,kSl h 1 (.rsl k (off+8) (L.length-(off+8)) 1) (some (I 16)) none none=some (.rsl k (off+8+16) (L.length-(off+8+16)) 1,h):=λh=>by
  have:=nP h k (off+8) (L.length-(off+8)) 16 (by omega);rwa [show L.length-(off+8)-16=L.length-(off+8+16)by omega]at this
 simp[Dk];rw[B];simp[];refine⟨VL2 h k L ANS lo,_,.mk (off+8+16) (by omega) A,?_⟩;intro m G M N;cases N with
 |mk off e s=>
 simp[QY];refine⟨M8 h k L ANS off 32 M,adG s,?_⟩;intro G S r;cases r with
 |mk b x hb f=>
 cases b
 ·simp[Cm,Sy,B8];exact .mk off e (s.bump f)
 obtain⟨P,R⟩:=hb rfl;have s32:=(s.bump f).skip 32 P R;have C:∀h:AH,kSl h 1 (.rsl k off (L.length-off) 1) (some (I 32)) none none=some (.rsl k (off+32) (L.length-(off+32)) 1,h):=λh=>by
  have:=nP h k off (L.length-off) 32 (by omega);rwa [show L.length-off-32=L.length-(off+32)by omega]at this
 simp[Cm];rw[C];simp[];exact⟨L.length-(off+32),by omega,.mk (off+32) (by omega) s32⟩
inductive MB(k off:Nat)(L:Str)(cond:Bool)(h0:AH):List AV->AH->Prop
 |mk (x:Nat) (hx:h0.nx<=x):MB k off L cond h0 [.rsl k off (L.length-off) 1,.bool cond] ⟨h0.H,x⟩
theorem x7(h:AH)(c:Nat):aG h .and (.int .u8 ((Lib.firstT c:Nat):Int)) (.int .u8 7)=some (.int .u8 ((Lib.firstT c%8:Nat):Int),h):=by
 rcases Lib.firstT_cases c with e|e|e|e|e|e|e|e|e<;>rw[e]<;>rfl
theorem x16(h:AH)(c:Nat):aG h .shr (.int .u8 ((Lib.firstT c:Nat):Int)) (.int .u64 4)=some (.int .u8 ((Lib.firstT c/16:Nat):Int),h):=by
 rcases Lib.firstT_cases c with e|e|e|e|e|e|e|e|e<;>rw[e]<;>rfl
theorem aey(c:Nat):Lib.firstT c/16<16:=by
 rcases Lib.firstT_cases c with e|e|e|e|e|e|e|e|e<;>rw[e]<;>decide
theorem sB{off i k n:Nat}{h:AH}(hi:off+i<L.length)(e:n=L.length-off):aC h 1 (.rsl k off n 1) (I (i:Int))=some (.ptr k (off+i),h):=by
 have:=gO (h:=h) (z:=1) (id:=k) (off:=off) (len:=n) (i:=(i:Int)) (by omega) (by omega);rwa [pU,Nat.mul_one]at this
variable {i:Nat}
theorem su(hi:off+i<L.length):(aK L)[off+i]?=some (.int .u8 ((L.drop off).getD i 0).toNat):=by
 have e:L[off+i]?=some ((L.drop off).getD i 0):=by
  rw[gF,ew,bF hi];rfl
 exact oX e
variable {hi:Nat}
theorem ag7{k off r:Nat}{L:Str}(q:h'.E k=some (aK L))(y:h'.E r=some [.int .u8 lo,.int .u8 hi])(B:off<=L.length):
  AP (.rsl k off (L.length-off) 1) (.ptr r 0) h' (MB k off L (decide (L.length-off<2\/((L.drop off).getD 1 0).toNat<lo\/hi<((L.drop off).getD 1 0).toNat)) h'):=by
 by_cases A:L.length-off<2
 ·have e:((L.length-off:Nat):Int)<2:=by omega
  simp[AP,e,A,AZ,xh];exact .mk _ (by omega)
 have e:¬((L.length-off:Nat):Int)<2:=by omega
 have i1:∀h:AH,aC h 1 (.rsl k off (L.length-off) 1) (I 1)=some (.ptr k (off+1),h):=λh=>sB (i:=1) (L:=L) (by omega) rfl
 have c1:=su (L:=L) (off:=off) (i:=1) (by omega);generalize((L.drop off).getD 1 0).toNat=b1 at*;simp[AP,e,A,i1,q,c1];by_cases q1:b1<lo
 ·have f:(b1:Int)<lo:=by omega
  simp[AZ,y,q1,f,xh];exact .mk _ (by omega)
 have f:¬(b1:Int)<lo:=by omega
 simp[AZ,y,q1,f,i1];by_cases q2:hi<b1
 ·have m:(hi:Int)<b1:=by omega
  simp[xh,q,c1,q2,m];exact .mk _ (by omega)
 have m:¬(hi:Int)<b1:=by omega
 simp[xh,q,c1,q2,m];exact .mk _ (by omega)
theorem adA{k off A:Nat}{L:Str}(m:h'.E k=some (aK L))(B:h'.E A=some [.int .u8 lo,.int .u8 hi])(J:off<=L.length):
  Au (.rsl k off (L.length-off) 1) (.ptr A 0) h' (MB k off L (decide (L.length-off<3\/((L.drop off).getD 1 0).toNat<lo\/hi<((L.drop off).getD 1 0).toNat\/((L.drop off).getD 2 0).toNat<128\/191<((L.drop off).getD 2 0).toNat)) h'):=by
 by_cases C:L.length-off<3
 ·have q:((L.length-off:Nat):Int)<3:=by omega
  simp[Au,q,C,Bv,rQ,rX];exact .mk _ (by omega)
 have q:¬((L.length-off:Nat):Int)<3:=by omega
 have i1:∀h:AH,aC h 1 (.rsl k off (L.length-off) 1) (I 1)=some (.ptr k (off+1),h):=λh=>sB (i:=1) (L:=L) (by omega) rfl
 have i2:∀h:AH,aC h 1 (.rsl k off (L.length-off) 1) (I 2)=some (.ptr k (off+2),h):=λh=>sB (i:=2) (L:=L) (by omega) rfl
 have c1:=su (L:=L) (off:=off) (i:=1) (by omega);have c2:=su (L:=L) (off:=off) (i:=2) (by omega);generalize((L.drop off).getD 1 0).toNat=b1 at*;generalize((L.drop off).getD 2 0).toNat=b2 at*;simp[Au,q,C,i1,m,c1];by_cases q1:b1<lo
 ·have r:(b1:Int)<lo:=by omega
  simp[Bv,B,q1,r,rQ,rX];exact .mk _ (by omega)
 have r:¬(b1:Int)<lo:=by omega
 simp[Bv,B,q1,r,i1];by_cases q2:hi<b1
 ·have e:(hi:Int)<b1:=by omega
  simp[rQ,m,c1,q2,e,rX];exact .mk _ (by omega)
 have e:¬(hi:Int)<b1:=by omega
 by_cases q3:b2<128
 ·have f:(b2:Int)<128:=by omega
  simp[rQ,m,c1,q2,e,i2,c2,q3,f,rX];exact .mk _ (by omega)
 have f:¬(b2:Int)<128:=by omega
 by_cases G:191<b2
 ·have y:(191:Int)<b2:=by omega
  simp[rQ,m,c1,q2,e,i2,c2,q3,f,rX,i2,m,c2,G,y];exact .mk _ (by omega)
 have y:¬(191:Int)<b2:=by omega
 simp[rQ,m,c1,q2,e,i2,c2,q3,f,rX,i2,m,c2,G,y];exact .mk _ (by omega)
theorem afb{k off J:Nat}{L:Str}(e:h'.E k=some (aK L))(M:h'.E J=some [.int .u8 lo,.int .u8 hi])(S:off<=L.length):
  Ax (.rsl k off (L.length-off) 1) (.ptr J 0) h' (MB k off L (decide (L.length-off<4\/((L.drop off).getD 1 0).toNat<lo\/hi<((L.drop off).getD 1 0).toNat\/((L.drop off).getD 2 0).toNat<128\/191<((L.drop off).getD 2 0).toNat\/((L.drop off).getD 3 0).toNat<128\/191<((L.drop off).getD 3 0).toNat)) h'):=by
 by_cases N:L.length-off<4
 ·have q:((L.length-off:Nat):Int)<4:=by omega
  simp[Ax,q,N,AJ,ur,rO,oZ,pj];exact .mk _ (by omega)
 have q:¬((L.length-off:Nat):Int)<4:=by omega
 have i1:∀h:AH,aC h 1 (.rsl k off (L.length-off) 1) (I 1)=some (.ptr k (off+1),h):=λh=>sB (i:=1) (L:=L) (by omega) rfl
 have i2:∀h:AH,aC h 1 (.rsl k off (L.length-off) 1) (I 2)=some (.ptr k (off+2),h):=λh=>sB (i:=2) (L:=L) (by omega) rfl
 have i3:∀h:AH,aC h 1 (.rsl k off (L.length-off) 1) (I 3)=some (.ptr k (off+3),h):=λh=>sB (i:=3) (L:=L) (by omega) rfl
 have c1:=su (L:=L) (off:=off) (i:=1) (by omega);have c2:=su (L:=L) (off:=off) (i:=2) (by omega);have c3:=su (L:=L) (off:=off) (i:=3) (by omega);generalize((L.drop off).getD 1 0).toNat=b1 at*;generalize((L.drop off).getD 2 0).toNat=b2 at*;generalize((L.drop off).getD 3 0).toNat=C at*;simp[Ax,q,N,i1,e,c1];by_cases q1:b1<lo
 ·have r:(b1:Int)<lo:=by omega
  simp[AJ,M,q1,r,ur,rO,oZ,pj];exact .mk _ (by omega)
 have r:¬(b1:Int)<lo:=by omega
 simp[AJ,M,q1,r,i1];by_cases q2:hi<b1
 ·have f:(hi:Int)<b1:=by omega
  simp[ur,e,c1,q2,f,rO,oZ,pj];exact .mk _ (by omega)
 have f:¬(hi:Int)<b1:=by omega
 by_cases q3:b2<128
 ·have y:(b2:Int)<128:=by omega
  simp[ur,e,c1,q2,f,i2,c2,q3,y,rO,oZ,pj];exact .mk _ (by omega)
 have y:¬(b2:Int)<128:=by omega
 simp[ur,e,c1,q2,f,i2,c2,q3,y];by_cases P:191<b2
 ·have A:(191:Int)<b2:=by omega
  simp[rO,i2,e,c2,P,A,oZ,pj];exact .mk _ (by omega)
 have A:¬(191:Int)<b2:=by omega
 simp[rO,i2,e,c2,P,A];by_cases G:C<128
 ·have m:(C:Int)<128:=by omega
  simp[oZ,i3,e,c3,G,m,pj];exact .mk _ (by omega)
 have m:¬(C:Int)<128:=by omega
 by_cases R:191<C
 ·have B:(191:Int)<C:=by omega
  simp[oZ,i3,e,c3,G,m,pj,e,c3,R,B];exact .mk _ (by omega)
 have B:¬(191:Int)<C:=by omega
 simp[oZ,i3,e,c3,G,m,pj,e,c3,R,B];exact .mk _ (by omega)
inductive VLx(h:AH)(k:Nat)(L:Str)(ANS:Bool):Nat->List AV->AH->Prop
 |mk {h':AH} (off:Nat) (s:VS h k L ANS h' off):VLx h k L ANS (L.length-off) [.rsl k off (L.length-off) 1] h'
theorem VS.new{h2:AH}(s:VS h k L ANS h' off)(f:k<h'.nx)(m:h'.nx<=h2.nx)(e:∀i,i<h'.nx->h2.H.get i=h'.H.get i):VS h k L ANS h2 off:=
 have:=s.nx
 ⟨by rw[aV (e k f)];exact s.c,s.le,s.v,bf s.nx m,λi hi=>by rw[e i (by omega)];exact s.get i hi⟩
variable {K:AX->List AV->NT}
theorem afy{c:Nat}(s:VS h k L ANS h' off)(hk:k<h'.nx)(hg:GJ h)(aj:off<L.length)(hc:((L.drop off).getD 0 0).toNat=c)(J:128<=c)
  (y:∀x:AH,(h.nx<=x.nx/\∀i,i<h.nx->x.H.get i=h.H.get i)->ANS=false->K .ret [.rsl k off (L.length-off) 1] [.bool false] x)
  (A:∀(n:Nat) (x:AH),1<=n->off+n<=L.length->VS h k L ANS x (off+n)->K .nrm [.rsl k (off+n) (L.length-(off+n)) 1] [.undef] x):
  Kx (.rsl k off (L.length-off) 1) (.int .u8 ((Lib.firstT c:Nat):Int)) (.int .u8 ((Lib.firstT c%8:Nat):Int)) h' K:=by
 have hle:=s.le;have M:=x16 h' c;have R:=aey c;have S:=s.gj hg;have T:=abb S (Lib.firstT c/16) R;have f:=Lib.validD_lead (L.drop off) (by intro e;have:=congrArg List.length e;rw[bW,bz]at this;omega) (by rw[hc];exact J);rw[hc,s.v,bW]at f;have af:Lib.firstT c%8<8:=Nat.mod_lt _ (by omega);have U:gv h' 16 2 (.c_ 2 0) (.int .u8 ((Lib.firstT c/16:Nat):Int))=some (.c_ 2 (2*(Lib.firstT c/16)),h'):=by
  generalize Lib.firstT c/16=q at*;have h0:(0:Int)<=(q:Int)/\(q:Int)<16:=by omega
  simp[gv,aix,hJ,kC,h0,Nat.mul_comm]
 have W:IntKind.i64.wrap ((Lib.firstT c%8:Nat):Int)=(Lib.firstT c%8:Nat):=lW (by omega) (by omega);generalize Lib.firstT c/16=q at*;generalize Lib.firstT c%8=sz at*;generalize Lib.firstT c=X at*;generalize Lib.accLo q=lo at*;generalize Lib.accHi q=hi at*;simp[Kx,W];rw[M];simp[];rw[U];simp[];rw[T];simp[];have m:=s.new (h2:=(h'.add (.cells [.int .u8 0,.int .u8 0])).set h'.nx (.cells [.int .u8 lo,.int .u8 hi])) hk (by simp) λi hi=>by rw[gsn,gan]
 have P:((h'.add (.cells [.int .u8 0,.int .u8 0])).set h'.nx (.cells [.int .u8 lo,.int .u8 hi])).E h'.nx=some [.int .u8 lo,.int .u8 hi]:=cse;generalize(h'.add (.cells [.int .u8 0,.int .u8 0])).set h'.nx (.cells [.int .u8 lo,.int .u8 hi])=h2 at*;generalize h'.nx=k6 at*;have C:∀(n:Nat) (h:AH),off+n<=L.length->kSl h 1 (.rsl k off (L.length-off) 1) (some (I (n:Int))) none none=some (.rsl k (off+n) (L.length-(off+n)) 1,h):=λn h hn=>by
  have:=nP h k off (L.length-off) n (by omega);rwa [show L.length-off-n=L.length-(off+n)by omega]at this
 have go:∀(n x:Nat),1<=n->off+n<=L.length->h2.nx<=x->ANS=Lib.validD ((L.drop off).drop n)->VS h k L ANS ⟨h2.H,x⟩ (off+n):=λn x h1 N h4 h5=>
  ⟨m.c,N,by rw[h5,lB],bf m.nx h4,m.get⟩
 by_cases s2:sz=2
 ·subst s2;simp[];refine⟨_,ag7 m.c P hle,?_⟩;intro vs N G;cases G with
  |mk x B=>
  simp only[Lib.checkN,bt]at f;by_cases hb:L.length-off<2\/((L.drop off).getD 1 0).toNat<lo\/hi<((L.drop off).getD 1 0).toNat
  ·rw[Z hb]at f;rw[eD hb];simp[Ks];exact y _ ⟨bf m.nx B,m.get⟩ f
  rw[O hb]at f;rw[dx hb];have r:∀h:AH,kSl h 1 (.rsl k off (L.length-off) 1) (some (I 2)) none none=some (.rsl k (off+2) (L.length-(off+2)) 1,h):=λh=>C 2 h (by omega)
  simp[Ks];rw[r];simp[];exact A 2 _ (by omega) (by omega) (go 2 x (by omega) (by omega) B f)
 by_cases s3:sz=3
 ·subst s3;simp[AL];refine⟨_,adA m.c P hle,?_⟩;intro vs N G;cases G with
  |mk x B=>
  simp only[Lib.checkN,Nat.reduceEqDiff,bt,bH]at f;by_cases hb:L.length-off<3\/((L.drop off).getD 1 0).toNat<lo\/hi<((L.drop off).getD 1 0).toNat\/((L.drop off).getD 2 0).toNat<128\/191<((L.drop off).getD 2 0).toNat
  ·rw[Z hb]at f;rw[eD hb];simp[KM];exact y _ ⟨bf m.nx B,m.get⟩ f
  rw[O hb]at f;rw[dx hb];have r:∀h:AH,kSl h 1 (.rsl k off (L.length-off) 1) (some (I 3)) none none=some (.rsl k (off+3) (L.length-(off+3)) 1,h):=λh=>C 3 h (by omega)
  simp[KM];rw[r];simp[];exact A 3 _ (by omega) (by omega) (go 3 x (by omega) (by omega) B f)
 have z2:¬(sz:Int)=2:=by omega
 have z3:¬(sz:Int)=3:=by omega
 have ad:((sz:Int)==3)=false:=by simp;omega
 by_cases s4:sz=4
 ·subst s4;simp[AL];refine⟨_,afb m.c P hle,?_⟩;intro vs N G;cases G with
  |mk x B=>
  simp only[Lib.checkN,Nat.reduceEqDiff,bt,bH]at f;by_cases hb:L.length-off<4\/((L.drop off).getD 1 0).toNat<lo\/hi<((L.drop off).getD 1 0).toNat\/((L.drop off).getD 2 0).toNat<128\/191<((L.drop off).getD 2 0).toNat\/((L.drop off).getD 3 0).toNat<128\/191<((L.drop off).getD 3 0).toNat
  ·rw[Z hb]at f;rw[eD hb];simp[K9];exact y _ ⟨bf m.nx B,m.get⟩ f
  rw[O hb]at f;rw[dx hb];have r:∀h:AH,kSl h 1 (.rsl k off (L.length-off) 1) (some (I 4)) none none=some (.rsl k (off+4) (L.length-(off+4)) 1,h):=λh=>C 4 h (by omega)
  simp[K9];rw[r];simp[];exact A 4 _ (by omega) (by omega) (go 4 x (by omega) (by omega) B f)
 have z4:¬(sz:Int)=4:=by omega
 simp only[Lib.checkN,s2,s3,s4,bH]at f;simp[z2,ad,AL,z4];exact y _ ⟨m.nx,m.get⟩ f
theorem ac9(x:AV)(l:Str)(hg:GJ h)(f:BSl h x l/\l.length<=1000000000):ab prog 130 [x] h (.bool (Lib.validD l)) h:=by
 refine nM (ahA ?_);obtain⟨f,hl⟩:=f;rcases f with⟨rfl,rfl⟩|⟨k,rfl,S,h8,hk,hc⟩
 ·have C:∀h:AH,kSl h 1 .D none (some (I 0)) (some (I 0))=some (.D,h):=λh=>by simp[kSl,mH,asl,cj,abd,hJ]
  simp[I5];refine⟨λm B h'=>B=[.D]/\h'=h,0,⟨rfl,rfl⟩,?_⟩;rintro m B h' ⟨rfl,rfl⟩;simp[wB,AG,AI];exact Lib.validD_nil
 generalize hA:Lib.validD l=ANS;have av:=j5.2 S;have C:∀h:AH,kSl h 1 (.rsl k 0 l.length 1) none (some (I l.length)) (some (I l.length))=some (.rsl k 0 l.length 1,h):=λh=>by
  have:¬l.length=0:=by omega
  simp[kSl,mH,asl,cj,abd,hJ,this]
 simp[I5];rw[C];simp[];refine⟨VLx h k l ANS,l.length,?_,?_⟩
 ·exact .mk 0 ⟨hc,by omega,by simpa using hA,ay _,λ_ _=>rfl⟩
 intro m B h' hI;cases hI with
 |mk off s=>
 have hle:=s.le;have T:k<h'.nx:=by have:=s.nx;omega
 by_cases y:off<l.length
 ·have N:(0:Int)<((l.length-off:Nat):Int):=by omega
  have q:0<l.length-off:=by omega
  have i0:∀h:AH,aC h 1 (.rsl k off (l.length-off) 1) (I 0)=some (.ptr k (off+0),h):=λh=>sB (i:=0) (L:=l) (by omega) rfl
  have c0:=su (L:=l) (off:=off) (i:=0) (by omega);have hb:=((l.drop off).getD 0 0).toNat_lt;generalize G:((l.drop off).getD 0 0).toNat=c at*;rw[p6]at i0 c0;have J:=s.c;by_cases P:c<128
  ·have e:(c:Int)<128:=by omega
   have U:∀b∈(l.drop off).take 1,b.toNat<128:=by
    intro b A;rw[ig y]at A;simp only[List.take_succ_cons,vH,j6]at A;have W:b=l[off]:=A;rw[W];have:(l.drop off).getD 0 0=l[off]:=by
     rw[gF,ew,p6,bF y];rfl
    rw[<-this,G];exact P
   have s1:=s.skip 1 (by omega) U;have ad:∀h:AH,kSl h 1 (.rsl k off (l.length-off) 1) (some (I 1)) none none=some (.rsl k (off+1) (l.length-(off+1)) 1,h):=λh=>by
    have:=nP h k off (l.length-off) 1 (by omega);rwa [show l.length-off-1=l.length-(off+1)by omega]at this
   simp[wB,q,i0,J,c0,e];rw[ad];simp[];refine⟨M8 h k l ANS (off+1) 8 h',aea s1,?_⟩;intro B h2 R;cases R with
   |mk b x hb f=>
   simp[N3];refine⟨VM h k l ANS (off+1),af5 (s1.bump f) (ay _) b hb,?_⟩;intro B h3 R;cases R with
   |mk r aw s2=>
   simp[Oh];have:=s2.le;exact⟨l.length-r,by omega,.mk r s2⟩
  have e:¬(c:Int)<128:=by omega
  have af:=s.gj hg;have aj:=acs af c (by omega);have al:gv h' 256 1 (.c_ 1 0) (.int .u8 (c:Int))=some (.c_ 1 c,h'):=by
   have h0:(0:Int)<=(c:Int)/\(c:Int)<256:=by omega
   have h1:c<256:=by omega
   simp[gv,aix,hJ,kC,h0]
  have M:=x7 h' c;obtain⟨F,hF⟩:∃F,F=Lib.firstT c%8:=⟨_,rfl⟩;rw[<-hF]at M;simp[wB,q,i0,J,c0,e];rw[al];simp[];rw[aj];simp[];rw[M];simp[];rw[hF];refine afy s T hg y G (by omega) (λx f an=>?_) λn x aS aT ao=>?_
  ·simp[AG];exact⟨an,f.1,f.2⟩
  exact Exists.intro (l.length-(off+n)) ⟨by omega,.mk (off+n) ao⟩
 have N:¬(0:Int)<((l.length-off:Nat):Int):=by omega
 have he:l.drop off=[]:=gp (by omega);have hv:=s.v;rw[he]at hv;have ar:ANS=true:=hv.symm;simp(disch:=first|go_size|fail)[wB,AG,AI];exact⟨ar,s.nx,s.get⟩
variable {h0:AH}{lv:AV}
theorem Hr(o:OL 1 h0 h lv l.length (aK l)):kX h .b2s [lv]=some (.str l,h):=by
 have hb:=KD l;rcases o with⟨rfl,h2,y⟩|⟨k,rfl,q,r,A,e,hlen⟩
 ·have:l=[]:=fQ h2;subst this;simp[kX,cU,cj,mK]
 have m:cut (aK l) 0 (l.length*1)=some (aK l):=by
  have:=cS (α:=aK l) (b:=[]) (n:=l.length*1) hlen;rwa [bO]at this
 have f:cut (aK l) 0 l.length=some (aK l):=by simpa using m
 simp[kX,cU,cj,e,f,hb]
theorem aee(o:OL 1 h0 h lv l.length (aK l))(y:8<=h0.nx):BSl h lv l:=by
 rcases o with⟨rfl,h2,A⟩|⟨k,rfl,f,r,q,m,hlen⟩
 ·exact .inl ⟨rfl,fQ h2⟩
 exact .inr ⟨k,rfl,λe=>f (by rw[e];rfl),by omega,q,m⟩
theorem agV(s:Str)(c:UInt8)(t:PS)(e:s[t.pos]?=some c):(pQ1 s c t).2.pos<=s.length/\t.pos+1<=(pQ1 s c t).2.pos:=by
 have f:=(aL.1 e).1;unfold pQ1;split
 ·refine⟨adu s _ (by simp only;omega),?_⟩;unfold fb;split
  ·split<;>simp
  simp
 exact⟨by simp only;omega,by simp⟩
variable {id:Nat}
theorem TS{x:Sc}(hj:GJ h/\8<=id)(hc:h.E id=some (scC x))(f:id<h.nx)(hx:x.Ok):ab prog 98 [.ptr id 0] h (.str (ku x.s x.t)) (h.set id (.cells (scC ⟨x.s,fk x.s x.t⟩))):=by
 obtain⟨s,t0⟩:=x;have hs:s.length<=1000000000:=hx.1;have aj:=Od s 34 t0 hx.2;refine fD f (jQ _) (C98 ?_);simp[g98];refine sD (uO (b:=34) hc f hx) ?_;have al:Ob h (h.set id (.cells (scC ⟨s,aD s 34 t0⟩))) id (scC ⟨s,aD s 34 t0⟩):=(Ob.start hc).set _;have hR:pQL s s.length [] (aD s 34 t0)=je s t0:=rfl;generalize h.set id (.cells (scC ⟨s,aD s 34 t0⟩))=h1 at*;generalize aD s 34 t0=t1 at*;refine⟨λm B h'=>∃out t lv,B=[.ptr id 0,lv]/\Ob h h' id (scC ⟨s,t⟩)/\OL 1 h h' lv out.length (aK out)/\t.pos<=s.length/\s.length-t.pos<=m/\pQL s m out t=je s t0/\out.length<=t.pos,s.length,?_,?_⟩
 ·exact⟨[],t1,.D,rfl,al,OL.start _ _ _,aj,by omega,hR,by simp⟩
 rintro m B h' ⟨out,t,lv,rfl,T,hl,hp,hm,hq,hlen⟩;simp[Tc];refine⟨λB h2=>B=[.ptr id 0,lv,.bool (aO s t && !(s[t.pos]?== some 34))]/\Ob h h2 id (scC ⟨s,t⟩)/\OL 1 h h2 lv out.length (aK out),?_,?_⟩
 ·simp[Tj];refine sD (sq (x:=⟨s,t⟩) T.c (by have:=T.lt f;simp;omega) ⟨hs,hp⟩) ?_;refine⟨by simp,?_⟩;have U:h'.E id=some [.str s,I t.pos,.bool t.first,.bool t.ok]:=T.c;cases hm:aO s t
  ·simp[Hc];exact⟨T.bump _ (by simp),hl.bump (by simp)⟩
  obtain⟨c,e⟩:=rK hm;have k1:=xN c;simp[U,Hc,U,dA e,k1];rw[e];exact⟨rfl,T.bump _ (by simp),hl.bump (by simp)⟩
 rintro B h2 ⟨rfl,C,W⟩;have R:h2.E id=some [.str s,I t.pos,.bool t.first,.bool t.ok]:=C.c;cases q:(aO s t && !(s[t.pos]?== some 34))
 ·have J:pQL s m out t=(out,t):=by
   cases m with
   |zero=>rfl
   |succ m=>
    unfold pQL;cases G:aO s t
    ·simp
    obtain⟨c,e⟩:=rK G;rw[G,e]at q;simp at q;rw[e];simp[q]
  simp[HE,Xd];rw[hq]at J;have eV:ku s t0=out:=by unfold ku;rw[J]
  have eT:fk s t0=⟨(aD s 34 t).pos,(aD s 34 t).first,(aD s 34 t).ok&&Lib.validD out⟩:=by unfold fk;rw[J]
  rw[eV,eT];simp[Ij];refine sD (uO (x:=⟨s,t⟩) (b:=34) C.c (C.lt f) ⟨hs,hp⟩) ?_;have r:Ob h (h2.set id (.cells (scC ⟨s,aD s 34 t⟩))) id (scC ⟨s,aD s 34 t⟩):=C.set _;have y:OL 1 h (h2.set id (.cells (scC ⟨s,aD s 34 t⟩))) lv out.length (aK out):=W.set f _;simp only at*;generalize h2.set id (.cells (scC ⟨s,aD s 34 t⟩))=h3 at*;generalize aD s 34 t=t3 at*;have A:h3.E id=some [.str s,I t3.pos,.bool t3.first,.bool t3.ok]:=r.c;refine⟨λB P=>B=[lv]/\Ob h P id (scC ⟨s,⟨t3.pos,t3.first,t3.ok&&Lib.validD out⟩⟩)/\OL 1 h P lv out.length (aK out),?_,?_⟩
  ·cases ad:t3.ok
   ·rw[ad]at A;simp[Hx,A,FY,A];exact⟨r.set _,y.set f _⟩
   rw[ad]at A;simp[Hx,A];refine sD (ac9 (x:=lv) (l:=out) (hj.1.ob r hj.2) ⟨aee y hj.1.2,by omega⟩) ?_;simp[FY,A];exact⟨r.set _,y.set f _⟩
  rintro B P ⟨rfl,M,S⟩;simp[US,Hr S];exact M
 simp only[aI,j7]at q;obtain⟨G,N⟩:=q;obtain⟨c,e⟩:=rK G;have an:c≠34:=by rintro rfl;rw[e]at N;simp at N
 obtain⟨m,rfl⟩:∃k,m=k+1:=⟨m-1,by have:=(aL.1 e).1;omega⟩;have ao:pQL s m (out++[(pQ1 s c t).1]) (pQ1 s c t).2=je s t0:=by
  rw[<-hq];conv=>rhs;unfold pQL
  rw[Z G,e];simp[an]
 simp(disch:=first|go_size|fail)[HE,R,Xj,R,dA e,UI,R];have af:(AH.mk h2.H (h2.nx+10)).set id (.cells [.str s,I ((t.pos:Int)+1),.bool t.first,.bool t.ok])=(AH.mk h2.H (h2.nx+10)).set id (.cells (scC ⟨s,⟨t.pos+1,t.first,t.ok⟩⟩)):=rfl;try rw[af]
 have r:Ob h ((AH.mk h2.H (h2.nx+10)).set id (.cells (scC ⟨s,⟨t.pos+1,t.first,t.ok⟩⟩))) id (scC ⟨s,⟨t.pos+1,t.first,t.ok⟩⟩):=(C.bump _ (by simp)).set _;have y:OL 1 h ((AH.mk h2.H (h2.nx+10)).set id (.cells (scC ⟨s,⟨t.pos+1,t.first,t.ok⟩⟩))) lv out.length (aK out):=(W.bump (by simp)).set f _;generalize(AH.mk h2.H (h2.nx+10)).set id (.cells (scC ⟨s,⟨t.pos+1,t.first,t.ok⟩⟩))=h3 at*;have ar:=agV s c t e;have aS:=(aL.1 e).1;refine⟨λB P=>B=[.ptr id 0,lv,.int .u8 (pQ1 s c t).1.toNat]/\Ob h P id (scC ⟨s,(pQ1 s c t).2⟩)/\OL 1 h P lv out.length (aK out),?_,?_⟩
 ·have k1:=zb c;by_cases hb:c=92
  ·have e1:pQ1 s c t=(lj s ⟨t.pos+1,t.first,t.ok⟩,fb s ⟨t.pos+1,t.first,t.ok⟩):=by unfold pQ1;rw[Z hb]
   rw[e1];simp(disch:=first|go_size|fail)[Ha,hb];refine sD (ago (x:=⟨s,⟨t.pos+1,t.first,t.ok⟩⟩) r.c (r.lt f) ⟨hs,by simp only;omega⟩) ?_;exact⟨rfl,r.set _,y.set f _⟩
  have e1:pQ1 s c t=(c,⟨t.pos+1,t.first,t.ok⟩):=by unfold pQ1;rw[O hb]
  rw[e1];simp[Ha,k1,hb];exact⟨r,y⟩
 rintro B P ⟨rfl,M,S⟩;obtain⟨aT,h5,hk,av,a1,aw⟩:=kt (bytes:=1) (tc:=[.int .u8 (pQ1 s c t).1.toNat]) S M.nx rfl rfl (by omega) (by omega);simp[Wf,hk];refine⟨m,by omega,out++[(pQ1 s c t).1],(pQ1 s c t).2,M.app f (by omega) aw,?_,ar.1,by omega,ao,?_⟩
 ·have:aK (out++[(pQ1 s c t).1])=aK out++[.int .u8 (pQ1 s c t).1.toNat]:=by simp[aK]
  rw[this,au];exact av
 rw[au];simp only[dP];omega
theorem Ht{x:Sc}(f:GJ h/\8<=id)(q:h.E id=some (scC x))(e:id<h.nx)(m:x.Ok):ab prog 62 [.ptr id 0] h (.str (iv x.s x.t)) (h.set id (.cells (scC ⟨x.s,fY x.s x.t⟩))):=by
 refine fD e (jQ _) (C62 ?_);simp[g62];refine sD (DF q e m) ?_;refine sD (TS (x:=⟨x.s,bq x.s x.t⟩) ⟨f.1.set f.2,f.2⟩ cse e ⟨m.1,J9 _ _ m.2⟩) ?_;exact⟨rfl,((Ob.start q).set _).set _⟩
end Go.Proofs.YtndpneieplopaaaGreatDoor
end
noncomputable section
namespace Go.St
open Go.Eng
open Go.Lib
def f_(s:Str)(V:PS->Val×PS):Nat->List Val->PS->List Val×PS
 |0,acc,t=>(acc,t)
 |n+1,acc,t=>if aO s t=true/\s[t.pos]?≠some 93 then f_ s V n (acc++[(V (if acc=[]then t else aD s 32 t)).1]) (V (if acc=[]then t else aD s 32 t)).2 else(acc,t)
def n5(s:Str)(V:PS->Val×PS)(t:PS):List Val×PS:=f_ s V (s.length+2) [] (aD s 91 t)
def mE(s:Str)(V:PS->Val×PS)(t:PS):Val:=.mk 4 0 [] (n5 s V t).1
def iO(s:Str)(V:PS->Val×PS)(t:PS):PS:=aD s 93 (n5 s V t).2
def lP(s:Str)(t:PS):Val:=if bX s true t=eI then .mk 2 1 [] []else if bX s true t=ed then .mk 2 0 [] []else .mk 1 (gw (bX s true t)) [] []
def jD(s:Str)(t:PS):PS:=if bX s true t=eI then dn s true t else if bX s true t=ed then dn s true t else⟨(dn s true t).pos,(dn s true t).first,(dn s true t).ok&&fO (bX s true t)⟩
def fe(s:Str):Nat->PS->Val×PS
 |0,t=>(Val.zero,⟨t.pos,t.first,false⟩)
 |k+1,t=>if aO s t=true then
   (if s[t.pos]?=some 34 then(.mk 3 0 (ku s t) [],fk s t)
    else if s[t.pos]?=some 91 then(mE s (fe s k) t,iO s (fe s k) t)
    else(lP s t,jD s t))
  else(Val.zero,⟨t.pos,t.first,false⟩)
structure bV(s:Str)(t u:PS):Prop where
 le:t.pos<=u.pos
 lt:u.pos<=s.length
 ok:u.ok=true->t.ok=true
variable {s:Str}{t:PS}
theorem bV.trans{u v:PS}(a:bV s t u)(b:bV s u v):bV s t v:=⟨bf a.le b.le,b.lt,λh=>a.ok (b.ok h)⟩
theorem bV.refl(h:t.pos<=s.length):bV s t t:=⟨ay _,h,id⟩
theorem nH(s:Str)(b:UInt8)(t:PS)(e:t.pos<=s.length):bV s t (aD s b t)/\((aD s b t).ok=true->t.pos<(aD s b t).pos):=by
 unfold aD;split
 ·rename_i h;have:=(aL.1 h.2).1;exact⟨⟨by simp,by simp only;omega,λh=>h⟩,λ_=>by simp⟩
 exact⟨⟨ay _,e,λh=>by cases h⟩,λh=>by cases h⟩
theorem mw(s:Str)(t:PS)(e:t.pos<=s.length):bV s t (bq s t):=by
 unfold bq;split
 ·exact⟨ay _,e,λh=>h⟩
 exact(nH s 32 t e).1
theorem JW(s:Str)(f:Bool)(t:PS)(m:t.pos<=s.length):bV s t (dn s f t)/\((dn s f t).ok=true->t.pos<(dn s f t).pos):=by
 have h1:(bX s f t).length<=s.length-t.pos:=by
  have:=(List.takeWhile_sublist (aH f) (l:=s.drop t.pos)).length_le;rw[bW]at this;exact this
 unfold dn;refine⟨⟨by simp,by simp only;omega,λh=>?_⟩,λh=>?_⟩
 ·simp only[aI]at h;exact h.1
 simp only[aI,j7]at h;have:bX s f t≠[]:=by intro e;rw[e]at h;simp at h
 have:=j5.2 this;simp only;omega
theorem oS(s:Str)(t:PS)(e:t.pos<=s.length):bV s t (bm s t):=(mw s t e).trans (JW s false _ (mw s t e).lt).1
theorem Q'(s:Str)(t:PS)(e:t.pos<=s.length):bV s t (fb s t):=by
 unfold fb;split
 ·rename_i h;unfold aO at h;simp only[aI,ck]at h;split
  ·exact⟨by simp,h.2,λ_=>h.1⟩
  exact⟨ay _,e,λh=>by cases h⟩
 exact⟨ay _,e,λh=>by cases h⟩
theorem AN(s:Str)(c:UInt8)(t:PS)(e:s[t.pos]?=some c):bV s t (pQ1 s c t).2:=by
 have f:=(aL.1 e).1;have h1:bV s t ⟨t.pos+1,t.first,t.ok⟩:=⟨by simp,by simp only;omega,λh=>h⟩;unfold pQ1;split
 ·exact h1.trans (Q' s _ (by simp only;omega))
 exact h1
theorem AM(s:Str):∀(n:Nat) (out:Str) (t:PS),t.pos<=s.length->bV s t (pQL s n out t).2
 |0,out,t,e=>bV.refl e
 |n+1,out,t,e=>by
  unfold pQL;split
  ·split
   ·rename_i c f;split
    ·exact bV.refl e
    exact(AN s c t f).trans (AM s n _ _ (AN s c t f).lt)
   exact bV.refl e
  exact bV.refl e
theorem JU(s:Str)(t:PS)(m:t.pos<=s.length):bV s t (fk s t)/\((fk s t).ok=true->t.pos<(fk s t).pos):=by
 have h1:=nH s 34 t m;have h2:bV s (aD s 34 t) (je s t).2:=AM s s.length [] _ h1.1.lt;have e:=nH s 34 _ h2.lt;have f:bV s (aD s 34 (je s t).2) (fk s t):=by
  refine⟨ay _,e.1.lt,λh=>?_⟩;unfold fk at h;simp only[aI]at h;exact h.1
 exact⟨((h1.1.trans h2).trans e.1).trans f,λh=>gq (h1.2 (h2.ok (e.1.ok (f.ok h)))) ((h2.trans e.1).trans f).le⟩
def left(s:Str)(t:PS):Nat:=if t.ok=true then s.length-t.pos+1 else 0
def xq(s:Str)(V:PS->Val×PS):Prop:=∀t,t.pos<=s.length->bV s t (V t).2/\((V t).2.ok=true->t.pos<(V t).2.pos)
variable {V:PS->Val×PS}
theorem zY(hV:xq s V):∀(n:Nat) (acc:List Val) (t:PS),t.pos<=s.length->bV s t (f_ s V n acc t).2
 |0,acc,t,e=>bV.refl e
 |n+1,acc,t,e=>by
  unfold f_;split
  ·have h1:bV s t (if acc=[]then t else aD s 32 t):=by
    split
    ·exact bV.refl e
    exact(nH s 32 t e).1
   have h2:=(hV _ h1.lt).1;exact(h1.trans h2).trans (zY hV n _ _ h2.lt)
  exact bV.refl e
theorem K'(hV:xq s V)(t:PS)(f:t.pos<=s.length):bV s t (iO s V t)/\((iO s V t).ok=true->t.pos<(iO s V t).pos):=by
 have h1:=nH s 91 t f;have h2:bV s (aD s 91 t) (n5 s V t).2:=zY hV _ _ _ h1.1.lt;have e:=nH s 93 _ h2.lt;exact⟨(h1.1.trans h2).trans e.1,λh=>gq (h1.2 (h2.ok (e.1.ok h))) (h2.trans e.1).le⟩
theorem ui(s:Str):∀k,xq s (fe s k)
 |0=>λt e=>⟨⟨ay _,e,λh=>by cases h⟩,λh=>by cases h⟩
 |k+1=>λt e=>by
  unfold fe;split
  ·split
   ·exact JU s t e
   split
   ·exact K' (ui s k) t e
   have hb:=JW s true t e;simp only[jD];split
   ·exact hb
   split
   ·exact hb
   refine⟨⟨hb.1.le,hb.1.lt,λh=>?_⟩,λh=>?_⟩
   ·simp only[aI]at h;exact hb.1.ok h.1
   simp only[aI]at h;exact hb.2 h.1
  exact⟨⟨ay _,e,λh=>by cases h⟩,λh=>by cases h⟩
end Go.St
end
noncomputable section
namespace Go.Proofs.YtndpneieplopaaaGreatDoor
open Go.Eng Go.St Tryz
mutual
def vC:Val->List AV
 |.mk k n s l=>[I k,I n,.str s,.psl (vCs l)]
def vCs:List Val->List (LA)
 |[]=>[]
 |v::l=>vC v::vCs l
end
theorem qH:∀l:List Val,vCs l=l.map vC
 |[]=>by simp[vCs]
 |v::l=>by simp[vCs,qH l]
theorem ch(v:Val):(vC v).length=4:=by cases v;simp[vC]
theorem jd(v:Val):aM (vC v)=true:=by cases v;simp[vC,aM,AV.one]
mutual
theorem aeH:∀(v:Val) (H:AH),bU H false (vC v) (vC v)
 |.mk k n s l,H=>by
  have h4:Frz H false (.psl (vCs l)) (.psl (vCs l)):=by
   refine .psl rfl _ _ rfl (λi x y hx hy=>by rw[hx]at hy;cases hy;rfl) λi x y j c d hx hy hc hd=>?_
   rw[hx]at hy;cases hy;rw[hc]at hd;cases hd;exact wP l H i x hx j c hc
  rw[dW];refine⟨rfl,λi a b ha hb=>?_⟩;rw[ha]at hb;cases hb;match i with
  |0=>simp[vC]at ha;subst ha;exact .int _ _
  |1=>simp[vC]at ha;subst ha;exact .int _ _
  |2=>simp[vC]at ha;subst ha;exact .str _
  |3=>simp[vC]at ha;subst ha;exact h4
  |i+4=>simp[vC]at ha
theorem wP:∀(l:List Val) (H:AH) (i:Nat) (x:LA),(vCs l)[i]?=some x->∀(j:Nat) (c:AV),x[j]?=some c->Frz H false c c
 |[],H,i,x,hx,j,c,hc=>by simp[vCs]at hx
 |v::l,H,0,x,hx,j,c,hc=>by
  simp[vCs]at hx;subst hx;exact((dW _ _ _ _).1 (aeH v H)).2 j c c hc hc
 |v::l,H,i+1,x,hx,j,c,hc=>by
  simp[vCs]at hx;exact wP l H i x hx j c hc
end
variable {H:AH}{s:Str}{l:List Val}{x:AV}
theorem qn{k n:Int}(m:Frz H false x (.psl (vCs l))):Frz H false (.agg [I k,I n,.str s,x]) (.agg (vC (.mk k n s l))):=by
 refine .agg _ _ (by simp[vC]) λi c d e f=>?_
 match i with
 |0=>simp[vC]at e f;subst e;subst f;exact .int _ _
 |1=>simp[vC]at e f;subst e;subst f;exact .int _ _
 |2=>simp[vC]at e f;subst e;subst f;exact .str _
 |3=>simp[vC]at e f;subst e;subst f;exact m
 |i+4=>simp[]at e
theorem il:Frz H false .D (.psl (vCs [])):=by simp only[vCs];exact .D
def u4(s:Str)(V:PS->Val×PS)(d:Int):Prop:=∀(h:AH) (id:Nat) (t:PS),GJ h/\8<=id->h.E id=some (scC ⟨s,t⟩)->id<h.nx->(Sc.mk s t).Ok->ab prog 96 [.ptr id 0,I d] h (.agg (vC (V t).1)) (h.set id (.cells (scC ⟨s,(V t).2⟩)))
def IL(s:Str)(V:PS->Val×PS)(d:Int):Prop:=∀(h:AH) (id:Nat) (t:PS),GJ h/\8<=id->h.E id=some (scC ⟨s,t⟩)->id<h.nx->(Sc.mk s t).Ok->ab prog 127 [.ptr id 0,I d] h (.agg (vC (mE s V t))) (h.set id (.cells (scC ⟨s,iO s V t⟩)))
variable {V:PS->Val×PS}{d:Int}{h:AH}{id:Nat}{t:PS}{Q:QT}
theorem ahD(f:u4 s V d)(m:GJ h/\8<=id)(q:h.E id=some (scC ⟨s,t⟩))(e:id<h.nx)(r:(Sc.mk s t).Ok)
  (y:Q (.agg (vC (V t).1)) (h.set id (.cells (scC ⟨s,(V t).2⟩)))):tU prog 96 [.ptr id 0,I d] h Q:=sD (f h id t m q e r) y
theorem ahr(f:IL s V d)(m:GJ h/\8<=id)(q:h.E id=some (scC ⟨s,t⟩))(e:id<h.nx)(r:(Sc.mk s t).Ok)
  (y:Q (.agg (vC (mE s V t))) (h.set id (.cells (scC ⟨s,iO s V t⟩)))):tU prog 127 [.ptr id 0,I d] h Q:=sD (f h id t m q e r) y
theorem kM(h:AH)(x id:Nat)(o:bg)(e:x≠id):bT (.read x) (.eff h (h.set id o))=true:=by
 show pP (h.H.get x) ((h.set id o).H.get x)=true
 rw[dQ,O e];exact Ak _
def cw(l:List Val):LA:=(vCs l).flatten
theorem rD(l:List Val)(v:Val):cw (l++[v])=cw l++vC v:=by simp[cw,qH]
def z4:LA:=[I 0,I 0,.str [],.D]
structure LI(h hb h':AH)(id:Nat)(s:Str)(t:PS)(lv:AV)(acc:List Val):Prop where
 ob:Ob h h' id (scC ⟨s,t⟩)
 r0:h'.E h.nx=some z4
 r1:h'.E (h.nx+1)=some [I 4,I 0,.str [],lv]
 nx:h.nx+2<=h'.nx
 ol:OL 4 hb h' lv acc.length (cw acc)
variable {hb h':AH}{lv:AV}{acc:List Val}
theorem LI.set(l:LI h hb h' id s t lv acc)(e:id<h.nx)(f:hb.nx=h.nx+2)(u:PS):LI h hb (h'.set id (.cells (scC ⟨s,u⟩))) id s u lv acc:=
 ⟨l.ob.set _,by rw[csn];exact l.r0,by rw[csn];exact l.r1,l.nx,l.ol.set (by omega) _⟩
variable {k:Nat}
theorem LI.bump(l:LI h hb h' id s t lv acc)(e:h'.nx<=k):LI h hb ⟨h'.H,k⟩ id s t lv acc:=
 ⟨l.ob.bump _ e,l.r0,l.r1,bf l.nx e,l.ol.bump e⟩
variable {z n:Nat}{h0:AH}{cs:LA}
theorem D0{e:AH}(o:OL z h0 h lv n cs):bn e lv=some (I n,e):=by
 rcases o with⟨rfl,rfl,rfl⟩|⟨k,rfl,_⟩<;>simp[bn,cj]
variable {α:Type}
theorem KH:∀(ys:List (List α)),(∀y∈ys,y.length=z)->∀(i j:Nat) (y:List α),ys[i]?=some y->j<z->ys.flatten[i*z+j]?=y[j]?
 |[],_,i,j,y,h,_=>by simp at h
 |x::ys,e,0,j,y,h,f=>by
  simp at h;subst h;have m:=e x (by simp);rw[oL,lF (by omega)];simp
 |x::ys,e,i+1,j,y,h,f=>by
  simp at h;have m:=e x (by simp);rw[oL,iZ (by rw[ie];omega)];rw[show(i+1)*z+j-x.length=i*z+j by rw[ie];omega];exact KH ys (λy q=>e y (by simp[q])) i j y h f
theorem La(l:List Val):∀y∈vCs l,y.length=4:=by
 intro y e;rw[qH]at e;obtain⟨v,_,rfl⟩:=eK.1 e;exact ch v
theorem gP(l:List Val):(vCs l).length=l.length:=by rw[qH,kK]
theorem sn{n:Nat}(o:OL 4 hb h' lv acc.length (cw acc))(G:n<=hb.nx):Frz (fresh h' n) false lv (.psl (vCs acc)):=by
 rcases o with⟨rfl,h2,J⟩|⟨k,rfl,B,C,M,q,hlen⟩
 ·have:acc=[]:=fQ h2;subst this;exact il
 have r:(fresh h' n).E k=some (cw acc):=by rw[tX (by omega)];exact q
 have:=Frz.rsl (h:=fresh h' n) (n:=false) k 0 4 (cw acc) (vCs acc) r (by rw[gP,hlen];omega) (λi y e=>La acc y (cQ e)) (λi y j c N e m f=>by
  have A:j<4:=by
   have:=(aL.1 m).1;rw[La acc y (cQ e)]at this;exact this
  have h1:=KH (vCs acc) (La acc) i j y e A;rw[show 0+i*4+j=i*4+j by omega]at f;unfold cw at f;rw[h1,m]at f;cases f;exact wP acc _ i y e j _ m)
 rwa [gP]at this
theorem kx(o:OL z h0 h lv n cs):lv.one=true:=by
 rcases o with⟨rfl,_⟩|⟨k,rfl,_⟩<;>rfl
theorem aeB(hK:xq s V)(hd:0<=d/\d<=1000)(hv:u4 s V (d+1)):IL s V d:=by
 intro h id t0 hj hc hid hx;have hs:s.length<=1000000000:=hx.1;have bk:=(nH s 91 t0 hx.2).1.lt;refine rL (R:=λv h'=>∃x,v =.agg [I 4,I 0,.str [],x]/\Frz (fresh h' h.nx) false x (.psl (vCs (n5 s V t0).1))/\Ob h h' id (scC ⟨s,iO s V t0⟩)) hid (jQ _) (ahp ?_) λv' h' ⟨x,h1,h2,h3⟩=>⟨by rw[h1];exact qn h2,h3⟩
 simp[YZ];obtain⟨hb,bp⟩:∃hb:AH,hb=(h.add (.cells z4)).add (.cells z4):=⟨_,rfl⟩;have hbn:hb.nx=h.nx+2:=by rw[bp];simp
 have af:LI h hb (((h.add (.cells z4)).add (.cells z4)).set (h.nx+1) (.cells [I 4,I 0,.str [],.D])) id s t0 .D []:=by
  refine⟨?_,?_,cse,by simp,OL.start _ _ _⟩
  ·refine(Ob.start hc).new hid (by simp;omega) λi hi=>?_
   rw[gsn,gan,gan]
  rw[csn,can];exact cas
 have aw:(((h.add (.cells [I 0,I 0,.str [],.D])).add (.cells [I 0,I 0,.str [],.D])).set (h.nx+1) (.cells [I 4,I 0,.str [],.D]))=(((h.add (.cells z4)).add (.cells z4)).set (h.nx+1) (.cells [I 4,I 0,.str [],.D])):=rfl;rw[aw];generalize(((h.add (.cells z4)).add (.cells z4)).set (h.nx+1) (.cells [I 4,I 0,.str [],.D]))=h1 at*;refine sD (uO (x:=⟨s,t0⟩) (b:=91) af.ob.c (af.ob.lt hid) hx) ?_;have aT:=af.set hid hbn (aD s 91 t0);simp only at aT ⊢;generalize h1.set id (.cells (scC ⟨s,aD s 91 t0⟩))=h2 at*;have aS:f_ s V (s.length+2) [] (aD s 91 t0)=n5 s V t0:=rfl;have hT:iO s V t0=aD s 93 (n5 s V t0).2:=rfl;generalize aD s 91 t0=t1 at*;generalize hR:n5 s V t0=R at*;refine⟨λm U h'=>∃acc t lv,U=[.ptr id 0,I d,.ptr h.nx 0,.ptr (h.nx+1) 0]/\LI h hb h' id s t lv acc/\t.pos<=s.length/\left s t<=m/\f_ s V m acc t=R/\(t.ok=true->acc.length<=t.pos)/\acc.length<=s.length+1,s.length+2,?_,?_⟩
 ·exact⟨[],t1,.D,rfl,aT,bk,by unfold left;split<;>omega,aS,by simp,by simp⟩
 rintro m U h' ⟨acc,t,lv,rfl,hl,hp,hm,hq,hlen,cd⟩;simp[Rf];refine⟨λU h3=>U=[.ptr id 0,I d,.ptr h.nx 0,.ptr (h.nx+1) 0,.bool (aO s t && !(s[t.pos]?== some 93))]/\LI h hb h3 id s t lv acc,?_,?_⟩
 ·simp[Q_];refine sD (sq (x:=⟨s,t⟩) hl.ob.c (by have:=hl.ob.lt hid;simp;omega) ⟨hs,hp⟩) ?_;refine⟨by simp,?_⟩;have a1:h'.E id=some [.str s,I t.pos,.bool t.first,.bool t.ok]:=hl.ob.c;cases hm:aO s t
  ·simp[DT];exact hl.bump (by simp)
  obtain⟨c,a6⟩:=rK hm;have k1:=WZ c;simp[a1,DT,a1,dA a6,k1];rw[a6];exact⟨rfl,hl.bump (by simp)⟩
 rintro U h3 ⟨rfl,y⟩;cases r:(aO s t && !(s[t.pos]?== some 93))
 ·have W:f_ s V m acc t=(acc,t):=by
   cases m with
   |zero=>rfl
   |succ m=>
    unfold f_;rw[O];rintro⟨q1,q2⟩;rw[q1]at r;simp at r;exact q2 r
  simp[BT,Ru,Dz];refine sD (uO (x:=⟨s,t⟩) (b:=93) y.ob.c (y.ob.lt hid) ⟨hs,hp⟩) ?_;have f:=y.set hid hbn (aD s 93 t);simp only at f ⊢;generalize h3.set id (.cells (scC ⟨s,aD s 93 t⟩))=q at*;have aj:=f.r1;have bs:q.E h.nx=some [I 0,I 0,.str [],.D]:=f.r0;rw[hq]at W;subst W;simp[aj,bs,kx f.ol];have bx:=f.nx;have bY:OL 4 hb (q.set h.nx (.cells [I 4,I 0,.str [],lv])) lv acc.length (cw acc):=f.ol.aY (ay _) λi hi _=>by rw[gsn]
  refine⟨sn bY (by omega),?_⟩;rw[hT];exact f.ob.app hid (ay _) λi hi=>by rw[gsn]
 simp only[aI,j7]at r;obtain⟨N,ad⟩:=r;have b0:s[t.pos]?≠some 93:=by intro e;rw[e]at ad;simp at ad
 have A:t.ok=true:=by unfold aO at N;simp only[aI]at N;exact N.1
 obtain⟨m,rfl⟩:∃k,m=k+1:=⟨m-1,by unfold left at hm;rw[Z A]at hm;omega⟩;have al:=hq;unfold f_ at al;rw[Z ⟨N,b0⟩]at al;have aj:=y.r1;simp[BT,aj,D0 y.ol];have P:bV s t (if acc=[]then t else aD s 32 t):=by
  split
  ·exact bV.refl hp
  exact(nH s 32 t hp).1
 refine⟨λU q=>U=[.ptr id 0,I d,.ptr h.nx 0,.ptr (h.nx+1) 0]/\LI h hb q id s (if acc=[]then t else aD s 32 t) lv acc,?_,?_⟩
 ·by_cases ha:acc=[]
  ·subst ha;simp[Cq];exact y
  have a7:0<acc.length:=j5.2 ha;simp[Cq,ha,a7];refine sD (uO (x:=⟨s,t⟩) (b:=32) y.ob.c (y.ob.lt hid) ⟨hs,hp⟩) ?_;exact y.set hid hbn _
 rintro U q ⟨rfl,f⟩;generalize(if acc=[]then t else aD s 32 t)=u at*;have S:=hK u P.lt;have a8:=f.r1;simp(disch:=first|go_size|fail)[SE,a8];refine ahD hv (t:=u) ⟨(hj.1.ob f.ob hj.2).bump (by simp),hj.2⟩ f.ob.c (by have:=f.ob.lt hid;simp;omega) ⟨hs,P.lt⟩ ?_;have an:=(f.bump (k:=q.nx+10) (by omega)).set hid hbn (V u).2;refine⟨by simp,?_⟩;generalize cl:V u=vu at*;obtain⟨⟨B,C,G,J⟩,M⟩:=vu;simp only[vC]at*;have bx:=f.nx;have ba:bT (.read (h.nx+1)) (.eff (AH.mk q.H (q.nx+10)) ((AH.mk q.H (q.nx+10)).set id (.cells (scC ⟨s,M⟩))))=true:=kM _ _ _ _ (by omega);have T:LI h hb (((AH.mk q.H (q.nx+10)).set id (.cells (scC ⟨s,M⟩))).set (q.nx+6) (.cells [I B,I C,.str G,.psl (vCs J)])) id s M lv acc:=by
  refine⟨an.ob.app hid (ay _) λi hi=>by rw[gsn],?_,?_,by simp;omega,?_⟩
  ·rw[csn];exact an.r0
  ·rw[csn];exact an.r1
  exact f.ol.aY (by simp) λi hi cn=>by rw[gsn,gsn]
 have b1:(((AH.mk q.H (q.nx+10)).set id (.cells (scC ⟨s,M⟩))).set (q.nx+6) (.cells [I B,I C,.str G,.psl (vCs J)])).E (q.nx+6)=some [I B,I C,.str G,.psl (vCs J)]:=cse;have b2:(((AH.mk q.H (q.nx+10)).set id (.cells (scC ⟨s,M⟩))).set (q.nx+6) (.cells [I B,I C,.str G,.psl (vCs J)])).nx=q.nx+10:=rfl;have b3:aQ [I 0,I 0,.str [],.D] [(0,4,.agg [I B,I C,.str G,.psl (vCs J)])]=some [I B,I C,.str G,.psl (vCs J)]:=rfl;obtain⟨ao,h7,b4,ar,b5,av⟩:=qf (bytes:=56) T.ol (by omega) b1 rfl rfl (by have:=hlen A;omega) (by omega);rw[b3];simp(disch:=first|go_size|fail)[];refine gS b4 (by omega) ?_;rw[b2]at b5;have b6:h7.E (h.nx+1)=some [I 4,I 0,.str [],lv]:=by rw[aV (av (h.nx+1) (by omega))];exact T.r1
 have b7:Ob h h7 id (scC ⟨s,M⟩):=T.ob.app hid (by omega) λi hi=>av i (by omega)
 have bb:h7.E h.nx=some z4:=by rw[aV (av h.nx (by omega))];exact T.r0
 have cf:=kx ar;have bd:bT (.read (h.nx+1)) (.alloc (q.nx+6) (.cells [I B,I C,.str G,.psl (vCs J)]))=true:=by
  rw[vR];simp;omega
 generalize(((AH.mk q.H (q.nx+10)).set id (.cells (scC ⟨s,M⟩))).set (q.nx+6) (.cells [I B,I C,.str G,.psl (vCs J)]))=h6 at*;simp[QL,ba,bd];have ca:kSt h7 1 (.ptr (h.nx+1) 3) ao=some (.undef,h7.set (h.nx+1) (.cells [I 4,I 0,.str [],ao])):=by
  have cb:=ar;rcases cb with⟨_,h0,_⟩|⟨k,cc,_⟩
  ·omega
  rw[cc];simp[b6]
 refine gS ca (by simp) ?_;refine⟨m,by omega,acc++[.mk B C G J],M,⟨ao,?_,?_,cse,by simp;omega,?_⟩,S.1.lt,?_,al,?_,?_⟩
 ·exact b7.app hid (by simp) λi hi=>by rw[gsn]
 ·rw[csn];exact bb
 ·rw[rD,au];exact ar.aY (by simp) λi hi _=>by rw[gsn]
 ·unfold left at hm ⊢;rw[Z A]at hm;by_cases hu:M.ok=true
  ·rw[Z hu];have:=S.2 hu;have:=P.le;have:=S.1.lt;omega
  rw[O hu];omega
 ·intro hu;have:=S.2 hu;have:=P.le;have:=hlen A;rw[au];simp only[dP];omega
 have:=hlen A;rw[au];simp only[dP];omega
end Go.Proofs.YtndpneieplopaaaGreatDoor
end
noncomputable section
namespace Go.St
open Go.Eng
open Go.Lib
inductive Ty where
 |s (k:Int)
 |l (of:Ty)
def cF:Ty->Ty->Option Ty
 |.s a,.s b=>if a=b then some (.s b)else none
 |.s a,.l t=>if a=4 then some (.l t)else none
 |.l t,.s b=>if b=4 then some (.l t)else none
 |.l a,.l b=>(cF a b).map .l
def jJ:List Ty->Ty->Option Ty
 |[],t=>some t
 |u::l,t=>match cF t u with|some v=>jJ l v|none=>none
def nT:List Ty->Option Ty
 |[]=>some (.s 4)
 |t::l=>(jJ l t).map .l
def iJ(k n:Int)(s:Str)(l:List Val):Bool:=
 if k=1\/k=2 then decide (s=[])&&decide (l.length=0)else if k=3 then decide (n=0)&&decide (l.length=0)else if k=4 then decide (n=0)&&decide (s=[])else false
def kZ(k n:Int):Bool:=(decide (k=1) && !(decide (-1099511627776<=n)&&decide (n<=1099511627776)))||(decide (k=2)&&decide (n≠0)&&decide (n≠1))
mutual
def chk(d:Int):Val->Int->Int×Ty×Int
 |.mk k n s l,m=>
  if k=4/\16<=d then(8,.s 0,m)
  else if iJ k n s l=false then(9,.s 0,m+1)
  else if kZ k n=true then(1,.s 0,m+1)
  else if 2000<s.length\/100<l.length\/1000<m+1 then(2,.s 0,m+1)
  else if validD s=false then(3,.s 0,m+1)
  else if k≠4 then(0,.s k,m+1)
  else if(ea (d+1) l (m+1) []).1≠0 then((ea (d+1) l (m+1) []).1,.s 0,(ea (d+1) l (m+1) []).2.2)
  else match nT (ea (d+1) l (m+1) []).2.1 with
   |none=>(5,.s 0,(ea (d+1) l (m+1) []).2.2)
   |some t=>(0,t,(ea (d+1) l (m+1) []).2.2)
def ea(d:Int):List Val->Int->List Ty->Int×List Ty×Int
 |[],m,ts=>(0,ts,m)
 |v::l,m,ts=>if(chk d v m).1≠0 then((chk d v m).1,ts,(chk d v m).2.2)else ea d l (chk d v m).2.2 (ts++[(chk d v m).2.1])
end
def gE(v:Val):Int:=(chk 0 v 0).1
def mf(s:Str)(t:PS):Val:=(fe s 17 t).1
def lr(s:Str)(t:PS):PS:=(fe s 17 t).2
def gf(s:Str)(t:PS):PS:=⟨(lr s (bq s t)).pos,(lr s (bq s t)).first,(lr s (bq s t)).ok&&(gE (mf s (bq s t))==0)⟩
def g_(s:Str):Nat->List Val->PS->List Val×PS
 |0,acc,t=>(acc,t)
 |n+1,acc,t=>if aO s t=true then g_ s n (acc++[mf s (bq s t)]) (gf s t)else(acc,t)
def pB(s:Str)(t:PS):List Val×PS:=g_ s (s.length+2) [] t
theorem Af(s:Str)(t:PS)(e:t.pos<=s.length):bV s t (gf s t)/\((gf s t).ok=true->t.pos<(gf s t).pos):=by
 have h1:=mw s t e;have h2:=ui s 17 _ h1.lt;refine⟨⟨bf h1.le h2.1.le,h2.1.lt,λh=>?_⟩,λh=>?_⟩
 ·unfold gf at h;simp only[aI]at h;exact h1.ok (h2.1.ok h.1)
 unfold gf at h;simp only[aI]at h;exact vN h1.le (h2.2 h.1)
theorem wa(s:Str):∀(n:Nat) (acc:List Val) (t:PS),t.pos<=s.length->bV s t (g_ s n acc t).2
 |0,acc,t,e=>bV.refl e
 |n+1,acc,t,e=>by
  unfold g_;split
  ·exact(Af s t e).1.trans (wa s n _ _ (Af s t e).1.lt)
  exact bV.refl e
end Go.St
end
noncomputable section
namespace Go.Proofs.YtndpneieplopaaaGreatDoor
open Go.Eng Go.St Tryz
structure VI(h h':AH)(id:Nat)(s:Str)(t:PS):Prop where
 ob:Ob h h' id (scC ⟨s,t⟩)
 r0:h'.E h.nx=some z4
 nx:h.nx+1<=h'.nx
variable {h h':AH}{id:Nat}{s:Str}{t:PS}
theorem VI.set(l:VI h h' id s t)(e:id<h.nx)(u:PS):VI h (h'.set id (.cells (scC ⟨s,u⟩))) id s u:=
 ⟨l.ob.set _,by rw[csn];exact l.r0,l.nx⟩
variable {k:Nat}
theorem VI.bump(l:VI h h' id s t)(e:h'.nx<=k):VI h ⟨h'.H,k⟩ id s t:=⟨l.ob.bump _ e,l.r0,bf l.nx e⟩
variable {H:AH}{l:List Val}{x:AV}
theorem ld{k n:Int}{s:Str}(e:Frz H false x (.psl (vCs l))):bU H false [I k,I n,.str s,x] (vC (.mk k n s l)):=by
 have h:=qn (k:=k) (n:=n) (s:=s) e;rw[dW];cases h with
 |agg _ _ f m=>exact⟨f,m⟩
theorem abz(H:AH)(l:List Val):Frz H false (.psl (vCs l)) (.psl (vCs l)):=
 .psl rfl _ _ rfl (λi x y f e=>by rw[f]at e;cases e;rfl) λi x y j c d f e m q=>by
  rw[f]at e;cases e;rw[m]at q;cases q;exact wP l H i x f j c m
variable {d:Int}{v:Val}{u:PS}
theorem MG{h2:AH}(e:id<h.nx)(m:VI h h2 id s t)(y:v=Val.zero)(A:u=⟨t.pos,t.first,false⟩):
  xC (.ptr id 0) (I d) (.ptr h.nx 0) (.bool true) h2 λx h'=>Frz (fresh h' h.nx) false x (.agg (vC v))/\Ob h h' id (scC ⟨s,u⟩):=by
 subst y;subst A;have q:h2.E id=some [.str s,I t.pos,.bool t.first,.bool t.ok]:=m.ob.c;have f:=m.set e ⟨t.pos,t.first,false⟩;have B:h2.E h.nx=some [I 0,I 0,.str [],.D]:=m.r0;have C:h.nx≠id:=by omega
 have r:(h2.set id (.cells [.str s,I t.pos,.bool t.first,.bool false])).E h.nx=some [I 0,I 0,.str [],.D]:=f.r0;simp[xC,q,r];exact⟨ld il,f.ob.app e (by simp) λi hi=>by rw[gsn];rfl⟩
variable {Q:QT}
theorem Ms(y:h.E id=some (scC ⟨s,t⟩))(f:id<h.nx)(A:(Sc.mk s t).Ok)
  (B:∀h2,VI h h2 id s t->xC (.ptr id 0) (I d) (.ptr h.nx 0) (.bool (!(aO s t)||decide (16<d))) h2 Q):g96 (.ptr id 0) (I d) h Q:=by
 simp[g96];have m:VI h (h.add (.cells z4)) id s t:=⟨(Ob.start y).new f (by simp) λi hi=>by rw[gan],cas,by simp⟩;have e:h.add (.cells [I 0,I 0,.str [],.D])=h.add (.cells z4):=rfl;rw[e];generalize h.add (.cells z4)=h1 at*;refine⟨λr h2=>r=[.ptr id 0,I d,.ptr h.nx 0,.bool (!(aO s t)||decide (16<d))]/\VI h h2 id s t,?_,?_⟩
 ·simp[V3];refine sD (sq (x:=⟨s,t⟩) m.ob.c (m.ob.lt f) A) ?_;cases hm:aO s t
  ·simp[E3];exact m
  simp[E3];exact m
 rintro r h2 ⟨rfl,q⟩;simp[];exact B h2 q
theorem ae5(e:d=17):u4 s (fe s 0) d:=by
 intro h id t r f hid m;refine o9 hid (jQ _) (C96 (Ms f hid m λh2 q=>?_));have:(!(aO s t)||decide (16<d))=true:=by subst e;simp
 rw[this];exact MG hid q rfl rfl
variable {j:Nat}
theorem aeu(hd:d<=16)(hL:IL s (fe s j) d):u4 s (fe s (j+1)) d:=by
 intro h id t C hc hid A;have hs:s.length<=1000000000:=A.1;have hp:t.pos<=s.length:=A.2;refine o9 hid (jQ _) (C96 (Ms hc hid A λh2 G=>?_));have R:¬16<d:=by omega
 cases hm:aO s t
 ·have N:fe s (j+1) t=(Val.zero,⟨t.pos,t.first,false⟩):=by simp[fe,hm]
  rw[N];simp only[Bool.not_false,Bool.true_or];exact MG hid G rfl rfl
 obtain⟨c,q⟩:=rK hm;have N:fe s (j+1) t=if c=34 then(.mk 3 0 (ku s t) [],fk s t)else if c=91 then(mE s (fe s j) t,iO s (fe s j) t)else(lP s t,jD s t):=by simp[fe,hm,q]
 rw[N];simp only[Bool.not_true,Bool.false_or,R,tO];have S:h2.E id=some [.str s,I t.pos,.bool t.first,.bool t.ok]:=G.ob.c;have k1:=za c;have k2:=ag4 c;have T:GJ h2:=C.1.ob G.ob C.2;have aj:=G.ob.lt hid;simp[xC,S];have f:=G.bump (k:=h2.nx+9) (by omega);have y:GJ ⟨h2.H,h2.nx+9⟩:=T.bump (by omega);by_cases q1:c=34
 ·subst q1;simp[yT,dA q];refine sD (TS (x:=⟨s,t⟩) ⟨y,C.2⟩ f.ob.c (f.ob.lt hid) A) ?_;have e:=f.set hid (fk s t);simp only at e ⊢;generalize(AH.mk h2.H (h2.nx+9)).set id (.cells (scC ⟨s,fk s t⟩))=B at*;have m:B.E h.nx=some [I 0,I 0,.str [],.D]:=e.r0;simp[m];exact⟨ld il,e.ob.app hid (by simp) λi hi=>by rw[gsn]⟩
 by_cases q2:c=91
 ·subst q2;simp[yT,dA q];refine ahr hL (t:=t) ⟨y,C.2⟩ f.ob.c (f.ob.lt hid) A ?_;have e:=f.set hid (iO s (fe s j) t);generalize(AH.mk h2.H (h2.nx+9)).set id (.cells (scC ⟨s,iO s (fe s j) t⟩))=B at*;have m:B.E h.nx=some [I 0,I 0,.str [],.D]:=e.r0;simp only[mE,vC];simp[m];exact⟨abz _ _,e.ob.app hid (by simp) λi hi=>by rw[gsn]⟩
 simp[yT,dA q,k1,k2,q1,q2];refine sD (TQ (x:=⟨s,t⟩) (cl:=true) f.ob.c (f.ob.lt hid) A) ?_;have e:=f.set hid (dn s true t);have U:GJ ((AH.mk h2.H (h2.nx+9)).set id (.cells (scC ⟨s,dn s true t⟩))):=y.set C.2;have ad:(bX s true t).length<=1000000000:=by have:=K_ s true t hp;omega
 simp only at e ⊢;simp only[lP,jD];generalize(AH.mk h2.H (h2.nx+9)).set id (.cells (scC ⟨s,dn s true t⟩))=B at*;generalize bX s true t=W at*;generalize dn s true t=u at*;have m:B.E h.nx=some [I 0,I 0,.str [],.D]:=e.r0;have wt:eI=[116,114,117,101]:=rfl;have wf:ed=[102,97,108,115,101]:=rfl;by_cases w1:W=[116,114,117,101]
 ·subst w1;simp[m,wt];exact⟨ld il,e.ob.app hid (by simp) λi hi=>by rw[gsn]⟩
 by_cases w2:W=[102,97,108,115,101]
 ·subst w2;simp[m,wt,wf];exact⟨ld il,e.ob.app hid (by simp) λi hi=>by rw[gsn]⟩
 simp[w1,w2,wt,wf];refine sD (Xy (w:=W) U ad) ?_;simp[Ue];have r:B.E id=some [.str s,I u.pos,.bool u.first,.bool u.ok]:=e.ob.c;refine⟨λvs P=>vs=[.ptr h.nx 0,I (gw W)]/\VI h P id s ⟨u.pos,u.first,u.ok&&fO W⟩,?_,?_⟩
 ·cases J:u.ok
  ·rw[J]at r;simp[F1,r];exact e.set hid ⟨u.pos,u.first,false⟩
  rw[J]at r;simp[F1,r];exact e.set hid ⟨u.pos,u.first,fO W⟩
 rintro vs P ⟨rfl,M⟩;have af:P.E h.nx=some [I 0,I 0,.str [],.D]:=M.r0;simp[Xo,af];exact⟨ld il,M.ob.app hid (by simp) λi hi=>by rw[gsn]⟩
theorem XL(s:Str):∀(k:Nat) (d:Int),d+k=17->0<=d->u4 s (fe s k) d
 |0,d,h1,_=>ae5 (by omega)
 |k+1,d,h1,h0=>aeu (by omega) (aeB (ui s k) ⟨h0,by omega⟩ (XL s k (d+1) (by omega) (by omega)))
theorem acH{x:Sc}(f:GJ h/\8<=id)(m:h.E id=some (scC x))(e:id<h.nx)(q:x.Ok):ab prog 96 [.ptr id 0,I 0] h (.agg (vC (mf x.s x.t))) (h.set id (.cells (scC ⟨x.s,lr x.s x.t⟩))):=
 XL x.s 17 0 (by omega) (by omega) h id x.t f m e q
