/- Scripts: a part of the proof. -/
import Derived.Test.YtndpneieplopaaaGreatDoorStSe
set_option linter.unusedSimpArgs false
set_option linter.unusedVariables false
noncomputable section
namespace Go.Proofs.YtndpneieplopaaaGreatDoor
open Go.Eng Go.St Tryz
theorem aar(h:AH)(id:Nat)(x:Sc)(hj:GJ h/\8<=id)(hc:h.ab id=some (scC x))(hid:id<h.nx)(hx:x.Ok):aK prog 60 [.ptr id 0] h (.psl (vCs (kL x.s x.t).1)) (h.set id (.cells (scC ⟨x.s,(kL x.s x.t).2⟩))):=by
 obtain⟨s,t0⟩:=x;have hs:s.length<=1000000:=hx.1;refine bm (R:=λv h'=>Frz (fresh h' h.nx) false v (.psl (vCs (kL s t0).1))/\Ob h h' id (scC ⟨s,(kL s t0).2⟩)) hid (dE _) (C60 (aW [e94,e95,e96,e97]) ?_) λv' h' hq=>hq
 simp[g60];have pq:ml s (s.length+2) [] t0=kL s t0:=rfl;generalize hR:kL s t0=R at*;refine⟨λm vs h'=>∃acc t lv,vs=[.ptr id 0,lv]/\Ob h h' id (scC ⟨s,t⟩)/\OL 4 h h' lv acc.length (cZ acc)/\t.pos<=s.length/\left s t<=m/\ml s m acc t=R/\(t.ok=true->acc.length<=t.pos)/\acc.length<=s.length+1,s.length+2,?_,?_⟩
 ·exact⟨[],t0,.aa,rfl,Ob.start hc,OL.start _ _ _,hx.2,by unfold left;split<;>omega,pq,by simp,by simp⟩
 ·rintro m vs h' ⟨acc,t,lv,rfl,ho,hl,hp,hm,hq,hlen,MA⟩;simp[Ul];refine vZ (x:=⟨s,t⟩) ho.c (ho.lt hid) ⟨hs,hp⟩ ?_;cases bN:bB s t
  ·have ly:ml s m acc t=(acc,t):=by
    cases m with
    |zero=>rfl
    |succ m=>unfold ml;rw[amU (by rw[bN];simp)]
   rw[hq]at ly;subst ly;simp[bN];simp[S3];simp[IX];exact⟨qx hl (amY _),ho⟩
  ·have hok:t.ok=true:=by unfold bB at bN;simp only[amZ]at bN;exact bN.1
   obtain⟨m,rfl⟩:∃k,m=k+1:=⟨m-1,by unfold left at hm;rw[am1 hok]at hm;omega⟩;have hq2:=hq;unfold ml at hq2;rw[am1 bN]at hq2;have hsp:=dM s t hp;have hvk:=lA s 17 _ hsp.lt;have hak:=pM s t hp;simp[bN];refine R7 (x:=⟨s,t⟩) ho.c (ho.lt hid) ⟨hs,hp⟩ ?_;have ho2:=ho.set (scC ⟨s,mi s t⟩);have hl2:=hl.set hid (.cells (scC ⟨s,mi s t⟩));simp only at ho2 hl2 ⊢;generalize h'.set id (.cells (scC ⟨s,mi s t⟩))=h2 at*;refine afG (x:=⟨s,mi s t⟩) ⟨hj.1.ob ho2 hj.2,hj.2⟩ ho2.c (ho2.lt hid) ⟨hs,hsp.lt⟩ ?_;have ho3:=ho2.set (scC ⟨s,lX s (mi s t)⟩);have hl3:=hl2.set hid (.cells (scC ⟨s,lX s (mi s t)⟩));simp only at ho3 hl3 ⊢;generalize h2.set id (.cells (scC ⟨s,lX s (mi s t)⟩))=h3 at*;have hA:je s t=⟨(lX s (mi s t)).pos,(lX s (mi s t)).first,(lX s (mi s t)).ok&&(mT (oQ s (mi s t))==0)⟩:=rfl;generalize lX s (mi s t)=u at*;generalize hv:oQ s (mi s t)=v at*;have hvl:=cH v;have hvo:=iH v;have hn3:=ho3.nx;have hz:(h3.add (.cells z4)).ab h3.nx=some z4:=bd _ _ _ rfl;have hst:=aed (cs:=vC v) hz rfl hvl hvo;have fJ:h3.add (.cells [I 0,I 0,.str [],.aa])=h3.add (.cells z4):=rfl;rw[fJ,hst];have ho4:Ob h ((h3.add (.cells z4)).set h3.nx (.cells (vC v))) id (scC ⟨s,u⟩):=ho3.app hid (by simp) λi hi=>by rw[au,amU (by omega),az,amU (by omega)]
   have hl4:OL 4 h ((h3.add (.cells z4)).set h3.nx (.cells (vC v))) lv acc.length (cZ acc):=hl3.du (by simp) λi hi hi2=>by rw[au,amU (by omega),az,amU (by omega)]
   have hv4:((h3.add (.cells z4)).set h3.nx (.cells (vC v))).ab h3.nx=some (vC v):=eD _ _ _ _ rfl;have hn4:((h3.add (.cells z4)).set h3.nx (.cells (vC v))).nx=h3.nx+1:=by simp
   generalize(h3.add (.cells z4)).set h3.nx (.cells (vC v))=h4 at*;have hc4:h4.ab id=some [.str s,I u.pos,.bool u.first,.bool u.ok]:=ho4.c;simp[];refine⟨λvs h5=>vs=[.ptr id 0,lv,.ptr h3.nx 0]/\Ob h h5 id (scC ⟨s,je s t⟩)/\OL 4 h h5 lv acc.length (cZ acc)/\h5.ab h3.nx=some (vC v)/\h3.nx+1<=h5.nx,?_,?_⟩
   ·rw[hA];have hne:h3.nx≠id:=by omega
    cases huo:u.ok
    ·rw[huo]at hc4;simp[FG,hc4];simp[Iw,hc4];exact⟨ho4.set _,hl4.set hid _,by rw[amU hne];exact hv4,by omega⟩
    ·rw[huo]at hc4;simp[FG,hc4,XN hv4 hvl];refine afU (v:=v) (hj.1.ob ho4 hj.2) trivial ?_;simp[Iw,hc4];exact⟨ho4.set _,hl4.set hid _,by rw[amU hne];exact hv4,by omega⟩
   ·rintro vs h5 ⟨rfl,ho5,hl5,hv5,hn5⟩;obtain⟨lv',h6,hk,hl6,hn6,hg6⟩:=mI (bytes:=56) (tc:=vC v) hl5 ho5.nx hvl hvo (by have:=hlen hok;omega) (by omega);have haf:=ZZ (z:=[I 0,I 0,.str [],.aa]) rfl hvl hvo;simp[So,XN hv5 hvl,haf,hk];refine⟨m,by omega,acc++[v],je s t,ho5.app hid (by omega) hg6,?_,hak.1.lt,?_,hq2,?_,?_⟩
    ·rw[jL,amX];exact hl6
    ·unfold left at hm ⊢;rw[am1 hok]at hm;by_cases hu:(je s t).ok=true
     ·rw[am1 hu];have:=hak.2 hu;have:=hak.1.lt;omega
     ·rw[amU hu];omega
    ·intro hu;have:=hak.2 hu;have:=hlen hok;rw[amX];simp only[am2];omega
    ·have:=hlen hok;rw[amX];simp only[am2];omega
def e60:QE prog:=QE.obj 60 (λh id=>GJ h/\8<=id) scC (fun(_:Unit)=>[]) (fun(x:Sc)(y:Unit)=>match y with|_=>x.Ok) (fun(x:Sc)(y:Unit)=>match y with|_=>.psl (vCs (kL x.s x.t).1)) (fun(x:Sc)(y:Unit)=>match y with|_=>⟨x.s,(kL x.s x.t).2⟩) (λh id x y hj hc hid hx=>match y,hx with|_,hx=>aar h id x hj hc hid hx)
theorem aef{tl h}{id:Nat}{x:Sc}{Q:QT}(hj:GJ h/\8<=id)(hc:h.ab id=some (scC x))(hid:id<h.nx)(hx:x.Ok)(hq:Q (.psl (vCs (kL x.s x.t).1)) (h.set id (.cells (scC (⟨x.s,(kL x.s x.t).2⟩))))):tb (e60::tl) 60 (.ptr id 0::[]) h Q:=bF () hj hc hid hx hq
@[simp ↓] theorem akc:TbT e60 60:=aH e60
set_option maxRecDepth 100000
def adm(cl:CL)(v0 v1:AV)(h:AH)(Q:QT):=ax cl (F 146) [v0,v1,I 0,(I (-1))] h λv7 h=>Q v7 h
theorem aif{cl}(hcl:bt prog cl){v0 v1 h Q}(hg:adm cl v0 v1 h Q):aJ prog 124 [v0,v1] h Q:=bI hcl [] func124 (by kernel_rfl) (by kernel_rfl) hg
def KU(cl:CL)(v0 v1 v2 v3 v20:AV)(h:AH)(k:NT):=wif v20 (ax cl (F 164) [v0,v1] h λv23 h=>wk (ae h .add v23 (I 1)) λv24 h=>k [v0,v1,v2,v24] h) (k [v0,v1,v2,v3] h)
def Vt(cl:CL)(v1 v2 v3 v9 v10 v50 v51 v53:AV)(h:AH)(k:KT):=wk (ae h .add v51 v53) λv54 h=>wk (gI h v50 (some v54) none) λv55 h=>wk (ae h .add v10 (I 1)) λv57 h=>k .nrm [v55,v1,v2,v3,v9,v57] [v55,v9,v57] h
def Ml(cl:CL)(v0 v1 v2 v3 v9 v10:AV)(h:AH)(k:KT):=wk (ae h .lss v10 v3) λv36 h=>wif v36 (ax cl (F 72) [v0,v1] h λv39 h=>wk (ae h .lss v39 (I 0)) λv41 h=>wif v41 (k (.exit 0) [v0,v1,v2,v3,v9,v10] [v0,v9,v10] h) (wk (ae h .add v39 v2) λv47 h=>wk (gI h v0 none (some v47)) λv48 h=>wk (aF h 1 v9 v10) λv49 h=>wk (kSt h 1 v49 v48) λ_ h=>wk (cL h v1) λv53 h=>Vt cl v1 v2 v3 v9 v10 v0 v39 v53 h k)) (k (.exit 0) [v0,v1,v2,v3,v9,v10] [v0,v9,v10] h)
def zM(cl:CL)(v0 v9 v10:AV)(h:AH)(Q:QT):=wk (aF h 1 v9 v10) λv61 h=>wk (kSt h 1 v61 v0) λ_ h=>wk (ae h .add v10 (I 1)) λv64 h=>wk (kSl h 1 v9 none (some v64) none) λv65 h=>Q v65 h
def Li(cl:CL)(x:AX)(v0 v9 v10:AV)(h:AH)(Q:QT):=xs x (zM cl v0 v9 v10 h Q) (λj=>cond (Nat.beq j 0) (zM cl v0 v9 v10 h Q) (False)) (Q (.undef) h)
def J_(cl:CL)(v0 v1 v2 v3:AV)(h:AH)(Q:QT):=wk (cL h v0) λv27 h=>wk (ae h .add v27 (I 1)) λv28 h=>wk (iy h false v3 v28) λv29 h=>wk (nZ h 1 16 [.str []] v29 v29) λv31 h=>wk (ae h .sub v29 (I 1)) λv33 h=>b9 (λvs h k=>Ml cl (ai vs 0) (ai vs 1) (ai vs 2) (ai vs 3) (ai vs 4) (ai vs 5) h k) [v0,v1,v2,v33,v31,I 0] h λx vs h=>Li cl x (ai vs 0) (ai vs 1) (ai vs 2) h Q
def adM(cl:CL)(v0 v1 v2 v3:AV)(h:AH)(Q:QT):=wk (ae h .eql v3 (I 0)) λv13 h=>wif v13 (Q ((.aa)) h) (wk (ae h .eql v1 (.str [])) λv15 h=>wif v15 (ax cl (F 163) [v0,v3] h λv18 h=>Q v18 h) (wk (ae h .lss v3 (I 0)) λv20 h=>aI (KU cl v0 v1 v2 v3 v20 h) λvs h=>J_ cl (ai vs 0) (ai vs 1) (ai vs 2) (ai vs 3) h Q))
theorem ahW{cl}(hcl:bt prog cl){v0 v1 v2 v3 h Q}(hg:adM cl v0 v1 v2 v3 h Q):aJ prog 146 [v0,v1,v2,v3] h Q:=bI hcl [(8,.jn [0,1,2,3]),(15,.l [0,1,2,3,9,10] [0,9,10])] func146 (by kernel_rfl) (by kernel_rfl) hg
open Go.RowKit
theorem Zt:Fex prog 164:=⟨_,func164,rfl,by decide⟩
theorem aah:Fex prog 147:=⟨_,func147,rfl,by decide⟩
theorem aaU:Fex prog 148:=⟨_,func148,rfl,by decide⟩
theorem wF{hp:Array Obj}{L:Nat->Prop}{β:Bl}{a b:Str}{cS:Array Value}(hR:Go.Eng.RL hp L β [.str a,.str b] cS.toList):cS = #[.string ⟨a.toArray⟩,.string ⟨b.toArray⟩]:=by
 have hl:=hR.1;obtain⟨l⟩:=cS;match l,hl,hR with
 |[u,v],_,hR=>
  have h0:=hR.2 0 _ u rfl rfl;have h1:=hR.2 1 _ v rfl rfl;cases h0;cases h1;rfl
theorem We(h:AH)(s:Str)(_:¬(32:UInt8)∈s):aK prog 164 [.str s,.str [32]] h (I 0) h:=by
 rename_i hn;refine aK.lib Zt λown β wd cS hs hR=>?_
 have:=wF hR;subst this;have h0:=o8 ⟨s.toArray⟩ 32 wd;refine h0.mono ?_;rintro e w' ⟨rfl,rfl⟩;have e0:Lib.countByte (⟨s.toArray⟩:ByteArray).data.toList 32=0:=by
  unfold Lib.countByte;exact List.count_eq_zero.2 hn
 rw[e0];exact⟨_,rfl,.int _ _,Below.refl _ _⟩
def afn:QE prog:=QE.fn 164 (λ_=>True) (fun(s:Str)=>[.str s,.str [32]]) (fun(s:Str)(h:AH)=>¬(32:UInt8)∈s) (fun(s:Str)=>I 0) (λh s hj hx=>We h s hx)
theorem aaY{tl h}(s:Str){Q:QT}(hx:¬(32:UInt8)∈s)(hq:Q (I 0) h):tb (afn::tl) 164 [.str s,.str [32]] h Q:=aV s trivial hx hq
theorem Zy(h:AH)(s p:Str)(_:True):aK prog 147 [.str s,.str p] h (.tup [.str (Lib.trimPrefix s p),.bool (Lib.hasPrefix s p)]) h:=by
 refine aK.lib aah λown β wd cS hs hR=>?_
 have:=wF hR;subst this;refine(pg ⟨s.toArray⟩ ⟨p.toArray⟩ wd).mono ?_;rintro e w' ⟨rfl,rfl⟩;exact⟨_,rfl,O8 (.str _) (.bool _),Below.refl _ _⟩
def Vk:QE prog:=QE.fn 147 (λ_=>True) (fun(y:Str×Str)=>match y with|⟨s,p⟩=>[.str s,.str p]) (fun(y:Str×Str)(h:AH)=>match y with|⟨s,p⟩=>True) (fun(y:Str×Str)=>match y with|⟨s,p⟩=>.tup [.str (Lib.trimPrefix s p),.bool (Lib.hasPrefix s p)]) (λh y hj hx=>match y,hx with|⟨s,p⟩,hx=>Zy h s p hx)
theorem aaD{tl h}(s:Str)(p:Str){Q:QT}(hx:True)(hq:Q (.tup [.str (Lib.trimPrefix s p),.bool (Lib.hasPrefix s p)]) h):tb (Vk::tl) 147 [.str s,.str p] h Q:=aV (s,p) trivial hx hq
@[simp ↓] theorem ahN:TbT Vk 147:=aH Vk
theorem Vl(s:Str):Lib.decodeGo ⟨s.toArray⟩=iT s:=by
 unfold Lib.decodeGo iT Lib.decodeL;by_cases hs:s=[]
 ·subst hs;rfl
 ·have:(⟨s.toArray⟩:ByteArray).size≠0:=by
   have:=anI.2 hs;simp[ByteArray.size];exact hs
  rw[amU this,amU hs]
theorem adZ(h:AH)(s:Str)(hg:GJ h)(_:True):aK prog 148 [.str s] h (.tup [.int .i32 ((iT s).1:Int),I ((iT s).2:Int)]) h:=by
 refine aK.lib aaU λown β wd cS hs hR=>?_
 obtain⟨u,rfl,hu⟩:=uv hR;cases hu;refine(lK ⟨s.toArray⟩ wd (Ei hs hg)).mono ?_;rintro e w' ⟨rfl,hb⟩;rw[Vl];exact⟨_,rfl,O8 (.int _ _) (.int _ _),hb⟩
def afv:QE prog:=QE.fn 148 GJ (fun(s:Str)=>[.str s]) (fun(s:Str)(h:AH)=>True) (fun(s:Str)=>.tup [.int .i32 ((iT s).1:Int),I ((iT s).2:Int)]) (λh s hj hx=>adZ h s hj hx)
theorem ZL{tl h}(s:Str){Q:QT}(hj:GJ h)(hx:True)(hq:Q (.tup [.int .i32 ((iT s).1:Int),I ((iT s).2:Int)]) h):tb (afv::tl) 148 [.str s] h Q:=aV s hj hx hq
theorem PZ(h:AH)(w:Str)(hw:¬(32:UInt8)∈w/\w.length<=1000):aK prog 146 [.str w,.str [32],I 0,I (-1)] h (bU [w]) h:=by
 refine aZ (R:=λv h'=>Frz (fresh h' h.nx) false v (bU [w])/\h.nx<=h'.nx/\∀i,i<h.nx->h'.H.get i=h.H.get i) (ahW (aW [afn]) ?_) λv' h' h1=>h1
 simp[adM];refine⟨λvs h'=>vs=[.str w,.str [32],I 0,I 1]/\h'=h,?_,?_⟩
 ·simp[KU];refine aaY w hw.1 ?_;simp[]
 ·rintro vs h' ⟨rfl,rfl⟩;have hmn:iy h' false (I 1) (I ((w.length:Int)+1))=some (I 1,h'):=by
   simp[iy];omega
  have hmk:nZ h' 1 16 [.str []] (I 1) (I 1)=some (.rsl h'.nx 0 1 1,h'.add (.cells [.str []])):=by
   simp[nZ,lp]
  simp(disch:=first|go_size|fail)[J_];rw[hmn];simp(disch:=first|go_size|fail)[];rw[hmk];simp[];have hcc:(h'.add (.cells [.str []])).ab h'.nx=some [.str []]:=bd _ _ _ rfl;have hgt:∀i,i<h'.nx->(h'.add (.cells [.str []])).H.get i=h'.H.get i:=λi hi=>by rw[az,amU (by omega)]
  have hn1:h'.nx<=(h'.add (.cells [.str []])).nx:=by simp
  generalize h'.add (.cells [.str []])=h1 at*;refine⟨λm vs h2=>vs=[.str w,.str [32],I 0,I 0,.rsl h'.nx 0 1 1,I 0]/\h2=h1,0,⟨rfl,rfl⟩,?_⟩;rintro m vs h2 ⟨rfl,rfl⟩;have hix:∀h:AH,aF h 1 (.rsl h'.nx 0 1 1) (I 0)=some (.ptr h'.nx 0,h):=λh=>dY (by omega) (by omega)
  have hsl:∀h:AH,kSl h 1 (.rsl h'.nx 0 1 1) none (some (I 1)) none=some (.rsl h'.nx 0 1 1,h):=λh=>by
   simp[kSl,lF,asl,fj,abd,oc]
  simp[Ml];simp[Li];simp[zM];rw[hix];simp[hcc];rw[hsl];simp[];refine⟨Bi rfl (eD _ _ _ _ rfl) (amY _) (λH j a ha=>?_),by omega,λi hi=>by rw[au,amU (by omega)];exact hgt i hi⟩;match j with
  |0=>simp at ha;subst ha;exact .str _
  |j+1=>simp at ha
def aeN:QE prog:=
 ⟨146,λargs h Q=>∃w,args=[.str w,.str [32],I 0,I (-1)]/\(¬(32:UInt8)∈w/\w.length<=1000)/\Q (bU [w]) h,λargs h Q ⟨w,h1,h2,h3⟩=>by
  subst h1;exact⟨_,_,PZ h w h2,h3⟩⟩
theorem aaA{tl h}{w:Str}{Q:QT}(hw:¬(32:UInt8)∈w/\w.length<=1000)(hq:Q (bU [w]) h):tb (aeN::tl) 146 [.str w,.str [32],I 0,I (-1)] h Q:=by
 rw[dJ _ tl 146 _ _ _ rfl];exact⟨w,rfl,hw,hq⟩
theorem V5(h:AH)(w:Str)(hw:¬(32:UInt8)∈w/\w.length<=1000):aK prog 124 [.str w,.str [32]] h (bU [w]) h:=by
 refine aZ (R:=λv h'=>v=bU [w]/\h'=h) (aif (aW [aeN]) ?_) λv' h' ⟨h1,h2⟩=>⟨?_,by rw[h2];exact amY _,λi _=>by rw[h2]⟩
 ·simp[adm];exact aaA hw ⟨rfl,rfl⟩
 ·rw[h1];exact .psl rfl _ _ rfl (λi x y hx hy=>by rw[hx]at hy;cases hy;rfl) λi x y j c d hx hy hc hd=>by
   rw[hx]at hy;cases hy;rw[hc]at hd;cases hd;match i with
   |0=>
    simp at hx;subst hx;match j with
    |0=>simp at hc;subst hc;exact .str _
    |j+1=>simp at hc
   |i+1=>simp at hx
def WI:QE prog:=QE.fn 124 (λ_=>True) (fun(w:Str)=>[.str w,.str [32]]) (fun(w:Str)(h:AH)=>¬(32:UInt8)∈w/\w.length<=1000) (fun(w:Str)=>bU [w]) (λh w hj hx=>V5 h w hx)
theorem abt{tl h}(w:Str){Q:QT}(hx:¬(32:UInt8)∈w/\w.length<=1000)(hq:Q (bU [w]) h):tb (WI::tl) 124 [.str w,.str [32]] h Q:=aV w trivial hx hq
@[simp ↓] theorem ahC:TbT WI 124:=aH WI
theorem abl(h:AH)(_:True):aK prog 133 [] h (bU dB) h:=by
 refine aZ (R:=λv h'=>Frz (fresh h' h.nx) false v (bU dB)/\h.nx<=h'.nx/\∀i,i<h.nx->h'.H.get i=h.H.get i) (aiu (aW []) ?_) λv' h' h1=>h1
 simp[ae9];refine⟨?_,λi hi=>?_⟩
 ·exact jZ (l:=dB) (bd _ _ _ rfl) (amY _)
 ·rw[az,amU (by omega)]
def Vr:QE prog:=QE.fn 133 (λ_=>True) (fun(_:Unit)=>[]) (fun(_:Unit)(h:AH)=>True) (fun(_:Unit)=>bU dB) (λh _ hj hx=>abl h hx)
theorem abr{tl h}{Q:QT}(hx:True)(hq:Q (bU dB) h):tb (Vr::tl) 133 [] h Q:=aV () trivial hx hq
@[simp ↓] theorem aii:TbT Vr 133:=aH Vr
theorem aaa(h:AH)(_:True):aK prog 134 [] h (bU pkN) h:=by
 refine aZ (R:=λv h'=>Frz (fresh h' h.nx) false v (bU pkN)/\h.nx<=h'.nx/\∀i,i<h.nx->h'.H.get i=h.H.get i) (ahM (aW []) ?_) λv' h' h1=>h1
 simp[ad2];refine⟨?_,λi hi=>?_⟩
 ·exact jZ (l:=pkN) (bd _ _ _ rfl) (amY _)
 ·rw[az,amU (by omega)]
def WJ:QE prog:=QE.fn 134 (λ_=>True) (fun(_:Unit)=>[]) (fun(_:Unit)(h:AH)=>True) (fun(_:Unit)=>bU pkN) (λh _ hj hx=>aaa h hx)
theorem aa4{tl h}{Q:QT}(hx:True)(hq:Q (bU pkN) h):tb (WJ::tl) 134 [] h Q:=aV () trivial hx hq
@[simp ↓] theorem ahm:TbT WJ 134:=aH WJ
theorem VY(h:AH)(_:True):aK prog 57 [] h (bU k_) h:=by
 refine aZ (R:=λv h'=>Frz (fresh h' h.nx) false v (bU k_)/\h.nx<=h'.nx/\∀i,i<h.nx->h'.H.get i=h.H.get i) (C57 (aW []) ?_) λv' h' h1=>h1
 simp[g57];refine⟨?_,λi hi=>?_⟩
 ·exact jZ (l:=k_) (bd _ _ _ rfl) (amY _)
 ·rw[az,amU (by omega)]
def e57:QE prog:=QE.fn 57 (λ_=>True) (fun(_:Unit)=>[]) (fun(_:Unit)(h:AH)=>True) (fun(_:Unit)=>bU k_) (λh _ hj hx=>VY h hx)
theorem afy{tl h}{Q:QT}(hx:True)(hq:Q (bU k_) h):tb (e57::tl) 57 [] h Q:=aV () trivial hx hq
@[simp ↓] theorem akH:TbT e57 57:=aH e57
theorem axF(h:AH)(_:True):aK prog 61 [] h (bU dI) h:=by
 refine aZ (R:=λv h'=>Frz (fresh h' h.nx) false v (bU dI)/\h.nx<=h'.nx/\∀i,i<h.nx->h'.H.get i=h.H.get i) (C61 (aW []) ?_) λv' h' h1=>h1
 simp[g61];refine⟨?_,λi hi=>?_⟩
 ·exact jZ (l:=dI) (bd _ _ _ rfl) (amY _)
 ·rw[az,amU (by omega)]
def e61:QE prog:=QE.fn 61 (λ_=>True) (fun(_:Unit)=>[]) (fun(_:Unit)(h:AH)=>True) (fun(_:Unit)=>bU dI) (λh _ hj hx=>axF h hx)
theorem aea{tl h}{Q:QT}(hx:True)(hq:Q (bU dI) h):tb (e61::tl) 61 [] h Q:=aV () trivial hx hq
@[simp ↓] theorem akp:TbT e61 61:=aH e61
theorem WE(h:AH)(n:Int)(_:True):aK prog 132 [I n] h (.bool (ph n)) h:=by
 refine aZ (R:=λv h'=>v =.bool (ph n)/\h'=h) (ahF (aW []) ?_) λv' h' ⟨h1,h2⟩=>⟨by rw[h1];exact .bool _,by rw[h2];exact amY _,λi _=>by rw[h2]⟩
 have eB:ph n=(decide (32<=n)&&decide (n<=1114111)&&(decide (n<55296)||decide (57343<n))&&(decide (n<65)||decide (90<n))):=by
  simp[ph,Bool.decide_and,Bool.decide_or,Bool.and_assoc]
 rw[eB];by_cases q1:32<=n
 ·by_cases q2:n<=1114111
  ·by_cases q3:n<55296
   ·by_cases q4:n<65
    ·simp[GW,q1,q2,q3];simp[nB,q4];simp[nH]
    ·simp[GW,q1,q2,q3];simp[nB,q4];simp[nH]
   ·by_cases q5:57343<n
    ·by_cases q4:n<65
     ·omega
     ·simp[GW,q1,q2,q3];simp[nB,q4,q5];simp[nH]
    ·simp[GW,q1,q2,q3];simp[nB,q5];simp[nH]
  ·simp[GW,q1,q2];simp[nB];simp[nH]
 ·simp[GW,q1];simp[nB];simp[nH]
def Vg:QE prog:=QE.fn 132 (λ_=>True) (fun(n:Int)=>[I n]) (fun(n:Int)(h:AH)=>True) (fun(n:Int)=>.bool (ph n)) (λh n hj hx=>WE h n hx)
theorem PA{tl h}(n:Int){Q:QT}(hx:True)(hq:Q (.bool (ph n)) h):tb (Vg::tl) 132 [I n] h Q:=aV n trivial hx hq
@[simp ↓] theorem ahT:TbT Vg 132:=aH Vg
theorem Wc(s p:Str):Lib.hasPrefix s p=decide (s.take p.length=p):=by
 unfold Lib.hasPrefix;by_cases h:s.take p.length=p
 ·rw[anA h];rw[List.isPrefixOf_iff_prefix];exact List.prefix_iff_eq_take.2 h.symm
 ·rw[anw h];cases hb:p.isPrefixOf s
  ·rfl
  ·exact absurd (List.prefix_iff_eq_take.1 (List.isPrefixOf_iff_prefix.1 hb)).symm h
theorem V0(i:Nat)(r:Str)(m:Nat):wE i (r,m)=(Lib.trimPrefix r ((dB.getD i [])++[43]),if Lib.hasPrefix r ((dB.getD i [])++[43])=true then m+2^i else m):=by
 unfold wE Lib.trimPrefix;rw[Wc];generalize(dB.getD i [])++[43]=p;by_cases h:r.take p.length=p
 ·simp only[h,anH,decide_true]
 ·simp only[h,ans,decide_false,am7]
theorem Dk(w:Str):∀i,(fu w i).2<2^i
 |0=>by simp[fu]
 |i+1=>by
  have:=Dk w i;have e:2^(i+1)=2^i*2:=Nat.pow_succ 2 i;unfold fu wE;split
  ·simp only;omega
  ·omega
theorem adp(h:AH)(i:Nat)(hi:i<4):ae h .shl (I 1) (I i)=some (I ((2^i:Nat):Int),h):=by
 have:i=0\/i=1\/i=2\/i=3:=by omega
 rcases this with rfl|rfl|rfl|rfl<;>rfl
theorem ahx(h:AH)(i m:Nat)(hi:i<4)(hm:m<2^i):ae h .or (I m) (I ((2:Int)^i))=some (I ((m:Int)+(2:Int)^i),h):=by
 have:i=0\/i=1\/i=2\/i=3:=by omega
 rcases this with rfl|rfl|rfl|rfl
 ·have:m=0:=by omega
  subst this;rfl
 ·have:m=0\/m=1:=by omega
  rcases this with rfl|rfl<;>rfl
 ·have:m=0\/m=1\/m=2\/m=3:=by omega
  rcases this with rfl|rfl|rfl|rfl<;>rfl
 ·have:m=0\/m=1\/m=2\/m=3\/m=4\/m=5\/m=6\/m=7:=by omega
  rcases this with rfl|rfl|rfl|rfl|rfl|rfl|rfl|rfl<;>rfl
structure C2(h h':AH)(k m:Int):Prop where
 r:h'.ab h.nx=some [I 0,I 0]
 c:h'.ab (h.nx+1)=some [I k,I m]
 nx:h.nx+2<=h'.nx
 get:∀i,i<h.nx->h'.H.get i=h.H.get i
 gj:GJ h'
theorem C2.set{h h':AH}{k m:Int}(c:C2 h h' k m)(h8:8<=h.nx)(k' m':Int):C2 h (h'.set (h.nx+1) (.cells [I k',I m'])) k' m':=
 ⟨by rw[ak _ _ _ _ (by omega)];exact c.r,eD _ _ _ _ rfl,c.nx,λi hi=>by rw[au,amU (by omega)];exact c.get i hi,c.gj.set (by omega)⟩
theorem C2.bump{h h':AH}{k m:Int}(c:C2 h h' k m){n:Nat}(hn:h'.nx<=n):C2 h ⟨h'.H,n⟩ k m:=⟨c.r,c.c,ane c.nx hn,c.get,c.gj.bump hn⟩
inductive CHx(h:AH)(w:Str):Nat->List AV->AH->Prop
 |mk {h':AH} (i:Nat) (hi:i<=4) (hc:C2 h h' 0 ((fu w i).2:Int)):CHx h w (4-i) [.str (fu w i).1,.ptr h.nx 0,.ptr (h.nx+1) 0,bU dB,I 4,I i] h'
theorem LU(r:Str):(iT r).1<=1114111:=by
 unfold iT;split
 ·decide
 ·exact Lib.decodeL_rune r
theorem T6(r:Str):(!(l9 r))=(decide ((iT r).2≠r.length)||(decide ((iT r).2=0)||((decide ((iT r).1=65533)&&decide ((iT r).2=1))||(decide ((iT r).1=32) || !(ph (iT r).1))))):=by
 unfold l9;generalize iT r=d;obtain⟨c,n⟩:=d;simp only;cases ph c<;>by_cases a1:n=r.length<;>by_cases a2:n=0<;>by_cases a3:c=65533<;>by_cases a4:n=1<;>by_cases a5:c=32<;>simp[a1,a2,a3,a4,a5]<;>omega
def yY(w:Str):AV:=.tup [.agg [I (cz w).1,I (cz w).2.1],.bool (cz w).2.2]
theorem TR(h:AH)(w:Str)(hg:GJ h)(hw:w.length<=1000):aK prog 125 [.str w] h (yY w) h:=by
 refine aZ (R:=λv h'=>Frz (fresh h' h.nx) false v (yY w)/\h.nx<=h'.nx/\∀i,i<h.nx->h'.H.get i=h.H.get i) (ah4 (aW [Vr,Vk,WJ,e90,Vg,afv]) ?_) λv' h' h1=>h1
 have h8:=hg.2;simp[afJ];have hC0:C2 h ((h.add (.cells [I 0,I 0])).add (.cells [I 0,I 0])) 0 0:=by
  refine⟨?_,bd _ _ _ rfl,by simp,λi hi=>?_,(hg.add _).add _⟩
  ·rw[aC _ _ _ (by simp)];exact bd _ _ _ rfl
  ·rw[az,amU (by simp;omega),az,amU (by omega)]
 generalize(h.add (.cells [I 0,I 0])).add (.cells [I 0,I 0])=h1 at*;refine abr trivial ?_;simp[mQ];refine⟨CHx h w,4,.mk 0 (by omega) hC0,?_⟩;rintro m vs h' hI;cases hI with
 |mk i hi hC=>
 have ab1:=Dk w i;have hpm:fu w (i+1)=wE i (fu w i):=rfl;have hn:=hC.nx;by_cases hlt:i<4
 ·have cw:(i:Int)<4:=by omega
  obtain⟨md,hmd⟩:∃md,dB[i]?=some md:=⟨dB[i]'hlt,am0 hlt⟩;have hgd:dB.getD i []=md:=by rw[anh,hmd];rfl
  rw[<-Prod.eta (fu w i),V0,hgd]at hpm;simp[A8,cw];generalize fu w i=x at*;obtain⟨r,mm⟩:=x;simp only at hC ab1 hpm ⊢;refine⟨λvs h2=>vs=[.str (fu w (i+1)).1,.ptr h.nx 0,.ptr (h.nx+1) 0,bU dB,I 4,I i]/\C2 h h2 0 ((fu w (i+1)).2:Int),?_,?_⟩
  ·rw[hpm];have U8:∀h:AH,ae h .add (.str md) (.str [43])=some (.str (md++[43]),h):=by
    have:i=0\/i=1\/i=2\/i=3:=by omega
    rcases this with rfl|rfl|rfl|rfl<;>(simp[dB]at hmd;subst hmd;intro h;rfl)
   simp[auA,eU h' dB i md hmd];rw[U8];simp[];refine aaD r (md++[43]) trivial ?_;have hc:=hC.c;cases hp:Lib.hasPrefix r (md++[43])
   ·rw[hp]at hpm;simp[CA];refine⟨?_,hC⟩;unfold Lib.trimPrefix;rw[hp];rfl
   ·rw[hp]at hpm;have h1:∀h:AH,ae h .shl (I 1) (I i)=some (I ((2^i:Nat):Int),h):=λh=>adp h i hlt
    have h2:∀h:AH,ae h .or (I mm) (I ((2:Int)^i))=some (I ((mm:Int)+(2:Int)^i),h):=λh=>ahx h i mm hlt ab1
    simp[CA,hc];rw[h1];simp[];rw[h2];simp[];have hcx:(AH.mk h'.H (h'.nx+7)).ab (h.nx+1)=some [I 0,I mm]:=hc;simp[Kz,hcx];exact(hC.bump (n:=h'.nx+7) (by omega)).set h8 0 ((mm:Int)+(2:Int)^i)
  ·rintro vs h2 ⟨rfl,hC2⟩;simp(disch:=first|go_size|fail)[JE];exact⟨4-(i+1),by omega,.mk (i+1) (by omega) hC2⟩
 ·have cw:¬(i:Int)<4:=by omega
  obtain rfl:i=4:=by omega
  simp(disch:=first|go_size|fail)[A8,cw];simp(disch:=first|go_size|fail)[Mb];simp(disch:=first|go_size|fail)[AM];refine aa4 trivial ?_;have alT:(fu w 4).2<16:=ab1;unfold yY cz;generalize(fu w 4).1=r at*;generalize(fu w 4).2=mm at*;have hr:=hC.r;have hc:=hC.c;simp(disch:=first|go_size|fail)[Ku];refine XY (bU pkN) pkN r ⟨.inl rfl,by decide⟩ ?_;have pY:∀(k:Int) (F:AH),F=((h'.set (h.nx+1) (.cells [I k,I mm])).set h.nx (.cells [I k,I mm]))->Frz (fresh F h.nx) false (.tup [.agg [I k,I mm],.bool true]) (.tup [.agg [I k,I mm],.bool true])/\h.nx<=F.nx/\∀i,i<h.nx->F.H.get i=h.H.get i:=λk F hF=>by
   subst hF;refine⟨gP (vj ⟨.int _ _,.int _ _,trivial⟩) (.bool _),by simp;omega,λi hi=>?_⟩;rw[au,amU (by omega),au,amU (by omega)];exact hC.get i hi
  have q0:¬h.nx=h.nx+1:=by omega
  by_cases hk:0<=idx pkN r
  ·rw[am1 hk];have hkb:=oz pkN r;have alC:idx pkN r<23:=hkb;simp(disch:=first|go_size|fail)[hk,hc,hr,q0];have:=pY (1+idx pkN r) _ rfl;exact this.2
  ·rw[amU hk];simp(disch:=first|go_size|fail)[hk];by_cases hs:r=iI
   ·rw[am1 hs];have hs':r=[115,112,97,99,101]:=hs;simp(disch:=first|go_size|fail)[hs',hc,hr,q0];exact(pY 32 _ rfl).2
   ·rw[amU hs];have hs':¬r=[115,112,97,99,101]:=hs;simp(disch:=first|go_size|fail)[hs'];refine ZL r hC.gj trivial ?_;simp(disch:=first|go_size|fail)[Ks];refine⟨λvs h2=>vs=[.ptr h.nx 0,.ptr (h.nx+1) 0,.int .i32 ((iT r).1:Int),.bool (!(l9 r))]/\h2=h',?_,?_⟩
    ·rw[T6];have hcl:=LU r;generalize iT r=d at*;obtain⟨c,n⟩:=d;simp only at hcl ⊢;have hwr:IntKind.i64.wrap (c:Int)=c:=lG (by omega) (by omega);by_cases a1:n=r.length
     ·subst a1;by_cases a2:r=[]
      ·subst a2;simp(disch:=first|go_size|fail)[ny];simp[nw];simp[nN]
      ·have a2':¬(r.length:Int)=0:=by
        have:=anI.2 a2;omega
       by_cases a3:c=65533
       ·subst a3;by_cases a4:r.length=1
        ·have a4':(r.length:Int)=1:=by omega
         simp[ny,a2,a2'];simp[nw,a4,a4'];simp[nN]
        ·have a4':¬(r.length:Int)=1:=by omega
         simp[ny,a2,a2'];simp[nw,a4,a4'];simp[nN];have ajq:IntKind.i64.wrap 65533=65533:=hwr;rw[ajq];refine PA 65533 trivial ?_;simp[]
       ·have a3':¬(c:Int)=65533:=by omega
        by_cases a5:c=32
        ·subst a5;simp[ny,a2,a2',a3'];simp[nw];simp[nN]
        ·have a5':¬(c:Int)=32:=by omega
         simp[ny,a2,a2',a3',a3];simp[nw,a5',a5,a3',a3];simp[nN];rw[hwr];refine PA c trivial ?_;simp[]
     ·have a1':¬(n:Int)=r.length:=by omega
      simp[ny,a1,a1'];simp[nw];simp[nN]
    ·rintro vs h2 ⟨rfl,rfl⟩;cases hd:l9 r
     ·simp[Cz,hr];refine⟨by omega,λi hi=>?_⟩;rw[au,amU (by omega)];exact hC.get i hi
     ·have hcl:=LU r;have hwr:IntKind.i64.wrap ((iT r).1:Int)=(iT r).1:=lG (by omega) (by omega);simp[Cz,hr,hc,q0,hwr];exact(pY _ _ rfl).2
def af0:QE prog:=QE.fn 125 GJ (fun(w:Str)=>[.str w]) (fun(w:Str)(h:AH)=>w.length<=1000) (fun(w:Str)=>yY w) (λh w hj hx=>TR h w hj hx)
theorem abk{tl h}(w:Str){Q:QT}(hj:GJ h)(hx:w.length<=1000)(hq:Q (yY w) h):tb (af0::tl) 125 [.str w] h Q:=aV w hj hx hq
def n8(w:Str):LA:=[I (cz w).1,I (cz w).2.1]
def pCL(w:Str):List (LA):=if iY w=true then [n8 w]else []
def pCE(w:Str):Int:=if 100<w.length then 2 else if(cz w).2.2=true then 0 else 3
inductive SHx(h:AH)(w:Str):Nat->List AV->AH->Prop
 |zero {h':AH} (hn:h.nx<=h'.nx) (hg:∀i,i<h.nx->h'.H.get i=h.H.get i) (gj:GJ h'):SHx h w 1 [.aa,bU [w],I 1,I 0] h'
 |one {h':AH} (lv:AV) (hok:(cz w).2.2=true) (ol:OL 2 h h' lv 1 (n8 w)) (hn:h.nx<=h'.nx) (hg:∀i,i<h.nx->h'.H.get i=h.H.get i):SHx h w 0 [lv,bU [w],I 1,I 1] h'
theorem Vs(h:AH)(w:Str)(hg:GJ h)(hw:¬(32:UInt8)∈w/\w.length<=1000000):aK prog 93 [.str w] h (.tup [.psl (pCL w),I (pCE w)]) h:=by
 refine aZ (R:=λv h'=>Frz (fresh h' h.nx) false v (.tup [.psl (pCL w),I (pCE w)])/\h.nx<=h'.nx/\∀i,i<h.nx->h'.H.get i=h.H.get i) (C93 (aW [WI,af0]) ?_) λv' h' h1=>h1
 have h8:=hg.2;unfold pCL pCE iY;by_cases hl:w.length<=100
 ·have hl1:¬100<w.length:=by omega
  have hl2:¬(100:Int)<w.length:=by omega
  simp[g93,hl2];refine abt w ⟨hw.1,by omega⟩ ?_;simp[mQ];refine⟨SHx h w,1,.zero (amY _) (λ_ _=>rfl) hg,?_⟩;rintro m vs h' hI;cases hI with
  |zero hn hgt gj=>
   have hix:=eU h' [w] 0 w rfl;simp[HP];rw[show(I 0:AV)=I ((0:Nat):Int)from rfl];rw[hix];simp[];refine abk w gj (by omega) ?_;unfold yY;have hkc:n8 w=[I (cz w).1,I (cz w).2.1]:=rfl;have UL:∀i,i<h.nx->((h'.add (.cells [I 0,I 0])).set h'.nx (.cells (n8 w))).H.get i=h.H.get i:=λi hi=>by
    rw[au,amU (by omega),az,amU (by omega)];exact hgt i hi
   cases hok:(cz w).2.2
   ·simp[FF];simp[Fo,hl,hl1];exact⟨.aa,by omega,λi hi=>UL i hi⟩
   ·simp[FF];simp[Pl];refine .one _ hok (.inr ⟨h'.nx+1+1,rfl,by omega,by omega,by simp,?_,rfl⟩) (by simp;omega) λi hi=>?_
    ·exact bd _ _ _ (by simp)
    ·rw[az,amU (by simp;omega),az,amU (by simp;omega)];exact UL i hi
  |one lv hok ol hn hgt=>
   simp[HP];simp[Fo];have hl3:bh h' lv=some (I 1,h'):=xn ol h';simp[Fu,hl3,hl,hl1,hok];refine⟨?_,hn,hgt⟩;have:=ap9 (z:=2) (ys:=[n8 w]) (λy hy=>by rw[anQ.1 hy];rfl) (λy hy H j c hc=>by
    rw[anQ.1 hy]at hc;match j with
    |0=>simp[n8]at hc;subst hc;exact .int _ _
    |1=>simp[n8]at hc;subst hc;exact .int _ _
    |j+2=>simp[n8]at hc) (by simpa using ol) (amY h.nx)
   first|exact this|exact gP this (.int _ _)
 ·have hl1:100<w.length:=by omega
  have hl2:(100:Int)<w.length:=by omega
  simp[g93,hl2,hl,hl1];exact .aa
def e93:QE prog:=QE.fn 93 GJ (fun(w:Str)=>[.str w]) (fun(w:Str)(h:AH)=>¬(32:UInt8)∈w/\w.length<=1000000) (fun(w:Str)=>.tup [.psl (pCL w),I (pCE w)]) (λh w hj hx=>Vs h w hj hx)
theorem aeY{tl h}(w:Str){Q:QT}(hj:GJ h)(hx:¬(32:UInt8)∈w/\w.length<=1000000)(hq:Q (.tup [.psl (pCL w),I (pCE w)]) h):tb (e93::tl) 93 [.str w] h Q:=aV w hj hx hq
theorem Oa(s:Str)(t:PS):¬(32:UInt8)∈bT s t:=by
 intro h;unfold bT bZ at h;have eQ:=List.all_takeWhile (l:=s.drop (mi s t).pos) (p:=bl false);rw[anK]at eQ;have:=eQ _ h;simp[bl]at this
theorem Su(h:AH)(id:Nat)(x:Sc)(hj:GJ h/\8<=id)(hc:h.ab id=some (scC x))(hid:id<h.nx)(hx:x.Ok):aK prog 59 [.ptr id 0] h (.agg (tV x.s x.t)) (h.set id (.cells (scC ⟨x.s,od x.s x.t⟩))):=by
 obtain⟨s,t⟩:=x;obtain⟨hg,h8⟩:=hj;refine bm (R:=λv h'=>Frz (fresh h' h.nx) false v (.agg (tV s t))/\Ob h h' id (scC ⟨s,od s t⟩)) hid (dE _) (C59 (aW [e91,e93]) ?_) λv' h' hq=>hq
 simp[g59];have hg1:GJ (h.add (.cells [I 0,I 0])):=hg.add _;have ho1:Ob h (h.add (.cells [I 0,I 0])) id (scC ⟨s,t⟩):=(Ob.start hc).new hid (by simp) λi hi=>by rw[az,amU (by omega)]
 have hr1:(h.add (.cells [I 0,I 0])).ab h.nx=some [I 0,I 0]:=bd _ _ _ rfl;have hn1:(h.add (.cells [I 0,I 0])).nx=h.nx+1:=by simp
 generalize h.add (.cells [I 0,I 0])=h1 at*;refine SQ (x:=⟨s,t⟩) ho1.c (by omega) hx ?_;have hwl:=Rh s t hx.2;have ho2:=ho1.set (scC ⟨s,bq s t⟩);have hg2:GJ (h1.set id (.cells (scC ⟨s,bq s t⟩))):=hg1.set h8;have hr2:(h1.set id (.cells (scC ⟨s,bq s t⟩))).ab h.nx=some [I 0,I 0]:=by rw[ak _ _ _ _ (by omega)];exact hr1
 have hn2:(h1.set id (.cells (scC ⟨s,bq s t⟩))).nx=h.nx+1:=by simpa using hn1
 simp only at*;generalize h1.set id (.cells (scC ⟨s,bq s t⟩))=h2 at*;have hno:=Oa s t;have hlen:(bT s t).length<=1000000:=by
  have:=mD (bl false) (s.drop (mi s t).pos);rw[am3]at this;have hs:s.length<=1000000:=hx.1;unfold bT bZ;omega
 have eT:od s t=⟨(bq s t).pos,(bq s t).first,(bq s t).ok&&iY (bT s t)⟩:=rfl;have eV:tV s t=if iY (bT s t)=true then [I (cz (bT s t)).1,I (cz (bT s t)).2.1]else [I 0,I 0]:=rfl
 rw[eT,eV];generalize bT s t=w at*;generalize bq s t=t1 at*;simp[OY];refine aeY w hg2 ⟨hno,hlen⟩ ?_;simp[Ql];have hcl:pCL w=if iY w=true then [n8 w]else []:=rfl
 have hce:pCE w=if 100<w.length then 2 else if(cz w).2.2=true then 0 else 3:=rfl
 have hok:iY w=(decide (w.length<=100)&&(cz w).2.2):=rfl;refine⟨λvs h3=>vs=[.ptr id 0,.ptr h.nx 0,.psl (pCL w),.bool (!(iY w))]/\h3=h2,?_,?_⟩
 ·rw[hcl,hce,hok];by_cases a1:w.length<=100
  ·have a1':¬100<w.length:=by omega
   cases a2:(cz w).2.2
   ·simp[Be,a1,a1']
   ·simp[Be,a1,a1']
  ·have a1':100<w.length:=by omega
   simp[Be,a1,a1']
 ·rintro vs h3 ⟨rfl,rfl⟩;have hc3:h3.ab id=some [.str s,I t1.pos,.bool t1.first,.bool t1.ok]:=ho2.c;have q1:¬h.nx=id:=by omega
  cases hk:iY w
  ·simp[Fw,hc3,hr2,q1];exact(ho2.set _).Uv hid (amY _) _
  ·rw[hcl,hk];simp only[anH];have hix:∀h:AH,aF h 2 (.psl [n8 w]) (I 0)=some (.lz (n8 w),h):=λh=>da (i:=0) rfl rfl
   simp[Fw];rw[hix];have hkc:n8 w=[I (cz w).1,I (cz w).2.1]:=rfl;rw[hkc];simp[hr2];exact ho2.Uv hid (amY _) _
def e59:QE prog:=QE.obj 59 (λh id=>GJ h/\8<=id) scC (fun(_:Unit)=>[]) (fun(x:Sc)(y:Unit)=>match y with|_=>x.Ok) (fun(x:Sc)(y:Unit)=>match y with|_=>.agg (tV x.s x.t)) (fun(x:Sc)(y:Unit)=>match y with|_=>⟨x.s,od x.s x.t⟩) (λh id x y hj hc hid hx=>match y,hx with|_,hx=>Su h id x hj hc hid hx)
theorem aek{tl h}{id:Nat}{x:Sc}{Q:QT}(hj:GJ h/\8<=id)(hc:h.ab id=some (scC x))(hid:id<h.nx)(hx:x.Ok)(hq:Q (.agg (tV x.s x.t)) (h.set id (.cells (scC (⟨x.s,od x.s x.t⟩))))):tb (e59::tl) 59 (.ptr id 0::[]) h Q:=bF () hj hc hid hx hq
@[simp ↓] theorem akV:TbT e59 59:=aH e59
def t_(x:Int×AV×Int×AV):LA:=edC x.1 x.2.1 x.2.2.1 x.2.2.2
def z15:LA:=[I 0,.aa,.aa,.aa,I 0,I 0,.bool false,I 0,I 0,I 0,I 0,I 0,I 0,.aa,I 0]
structure P3(h h':AH)(id k3:Nat)(c1 c3:LA):Prop where
 a:h'.ab id=some c1
 b:h'.ab k3=some c3
 r:h'.ab h.nx=some z15
 lt:h.nx<k3/\k3<h'.nx
 get:∀i,i≠id->i<h.nx->h'.H.get i=h.H.get i
 gj:GJ h'
theorem P3.cE{h h':AH}{id k3:Nat}{c1 c3:LA}(p:P3 h h' id k3 c1 c3)(hid:id<h.nx)(h8:8<=id)(d:LA):P3 h (h'.set id (.cells d)) id k3 d c3:=
 have hl:=p.lt
 ⟨eD _ _ _ _ rfl,by rw[ak _ _ _ _ (by omega)];exact p.b,by rw[ak _ _ _ _ (by omega)];exact p.r,p.lt,λi h1 h2=>by rw[au,amU h1];exact p.get i h1 h2,p.gj.set h8⟩
theorem P3.Xp{h h':AH}{id k3:Nat}{c1 c3:LA}(p:P3 h h' id k3 c1 c3)(hid:id<h.nx)(h8:8<=id)(d:LA):P3 h (h'.set k3 (.cells d)) id k3 c1 d:=
 have hl:=p.lt
 ⟨by rw[ak _ _ _ _ (by omega)];exact p.a,eD _ _ _ _ rfl,by rw[ak _ _ _ _ (by omega)];exact p.r,p.lt,λi h1 h2=>by rw[au,amU (by omega)];exact p.get i h1 h2,p.gj.set (by omega)⟩
theorem P3.new{h h' h2:AH}{id k3:Nat}{c1 c3:LA}(p:P3 h h' id k3 c1 c3)(hid:id<h.nx)(h8:8<=id){b:Nat}(hb:k3<b)(hn:h'.nx<=h2.nx)(hg:∀i,i<b->h2.H.get i=h'.H.get i):P3 h h2 id k3 c1 c3:=
 have hl:=p.lt
 ⟨by rw[ay (hg _ (by omega))];exact p.a,by rw[ay (hg _ hb)];exact p.b,by rw[ay (hg _ (by omega))];exact p.r,⟨hl.1,by omega⟩,λi h1 h2=>by rw[hg i (by omega)];exact p.get i h1 h2,
  p.gj.me (λi hi=>hg i (by omega)) (by omega)⟩
def ah6(h h':AH)(c d:LA):Prop:=∀h2:AH,h'.nx<=h2.nx->(∀i,h.nx<i->i<h'.nx->h2.H.get i=h'.H.get i)->ea (fresh h2 h.nx) false c d
theorem A2{H:AH}{k n:Int}{r r' c c':AV}(h1:Frz H false r r')(h2:Frz H false c c'):ea H false (edC k r n c) (edC k r' n c'):=by
 unfold edC;repeat' (first|exact trivial|refine And.intro ?_ ?_|exact .int _ _|exact .bool _|exact .str _|exact .dX|assumption)
inductive PMc(h:AH)(id:Nat)(s:Str)(x:(Int×AV×Int×AV)×PS)(k3:Nat):List AV->AH->Prop
 |mk {h':AH} (k:Int) (r:AV) (n:Int) (c:AV) (hp:P3 h h' id k3 (scC ⟨s,x.2⟩) (edC k r n c)) (ho:r.one=true/\c.one=true) (hf:ah6 h h' (edC k r n c) (t_ x.1)):PMc h id s x k3 [.ptr h.nx 0,.ptr k3 0] h'
inductive PCx(h hb:AH)(id k3:Nat)(s:Str)(rv:AV)(N:Int)(R:List Int×PS)(kr:Nat)(rc:List AV):Nat->List AV->AH->Prop
 |mk {h':AH} (m:Nat) (acc:List Int) (t:PS) (lv:AV) (hp:P3 h h' id k3 (scC ⟨s,t⟩) (edC 15 rv N lv)) (hO:OL 2 hb h' lv acc.length (oh acc).flatten) (hcr:h'.ab kr=some rc) (hn:hb.nx<=h'.nx) (ht:t.pos<=s.length) (hm:left s t<=m) (hq:qQ s m acc t=R) (hlen:t.ok=true->acc.length<=t.pos):
  PCx h hb id k3 s rv N R kr rc m [.ptr id 0,.ptr h.nx 0,.ptr k3 0] h'
theorem c_(s:Str)(t:PS):-9223372036854775808<=cQ s t/\cQ s t<=9223372036854775807:=by
 unfold cQ f_;split
 ·rename_i n hn;exact Lib.atoiAll_bounds hn
 ·unfold Lib.atoiSat;split<;>omega
 ·omega
theorem ahi(h:AH)(n:Int)(hn : -9223372036854775808<=n/\n<=9223372036854775807):kUn h .neg (I n)=some (I (ng n),h):=by
 unfold ng;by_cases q:n = -9223372036854775808
 ·subst q;rfl
 ·rw[amU q];exact Xk h n (by omega) (by omega)
theorem PJ(l:List Int):∀y∈oh l,y.length=2:=by
 intro y hy;obtain⟨n,_,rfl⟩:=an0.1 hy;rfl
theorem zB(l:List Int):∀y∈oh l,∀(H:AH) (j:Nat) (c:AV),y[j]?=some c->Frz H false c c:=by
 intro y hy H j c hc;obtain⟨n,_,rfl⟩:=an0.1 hy;match j with
 |0=>simp[clP]at hc;subst hc;exact .int _ _
 |1=>simp[clP]at hc;subst hc;exact .bool _
 |j+2=>simp[clP]at hc
theorem zq(s:Str)(t:PS)(ht:t.pos<=s.length)(hs:s.length<=1000000):(iJ s t).length<=1000000:=by
 have key:∀(n:Nat) (out:Str) (t:PS),t.pos<=s.length->out.length<=t.pos->(pQL s n out t).1.length<=s.length:=by
  intro n;induction n with
  |zero=>intro out t ht h;simp only[pQL];omega
  |succ n ih=>
   intro out t ht h;unfold pQL;by_cases hm:bB s t=true
   ·rw[am1 hm];cases hc:s[t.pos]? with
    |none=>simp only;omega
    |some c=>
     simp only;split
     ·simp only;omega
     ·have hk:=qS s c t hc;have hlt:=(amV.1 hc).1;refine ih _ _ hk.lt ?_;rw[amX];simp only[am2];have:t.pos+1<=(pQ1 s c t).2.pos:=by
       unfold pQ1;split
       ·unfold fx;simp only;split
        ·split
         ·simp only;omega
         ·simp only;omega
        ·simp only;omega
       ·simp only;omega
      omega
   ·rw[amU hm];simp only;omega
 have h1:=dM s t ht;have h2:=eZ s 34 (mi s t) h1.lt;have:=key s.length [] (bg s 34 (mi s t)) h2.1.lt (by simp);unfold iJ jd jN;omega
theorem F7(h:AH)(id:Nat)(x:Sc)(hj:GJ h/\8<=id)(hc:h.ab id=some (scC x))(hid:id<h.nx)(hx:x.Ok):aK prog 63 [.ptr id 0] h (.agg (t_ (gC x.s x.t).1)) (h.set id (.cells (scC ⟨x.s,(gC x.s x.t).2⟩))):=by
 obtain⟨s,t⟩:=x;obtain⟨hg,h8⟩:=hj;have hs:s.length<=1000000:=hx.1;refine bm (R:=λv h'=>Frz (fresh h' h.nx) false v (.agg (t_ (gC s t).1))/\Ob h h' id (scC ⟨s,(gC s t).2⟩)) hid (dE _) (C63 (aW [e56,e62,e58,e94]) ?_) λv' h' hq=>hq
 simp(disch:=first|go_size|fail)[g63];have hw0:(h.add (.cells z15)).add (.cells (h_.map .str))=(h.add (.cells z15)).add (.cells [.str [98,101,103,105,110],.str [117,112,100,97,116,101],.str [99,111,109,109,105,116],.str [99,97,110,99,101,108]]):=rfl;have hc1:((h.add (.cells z15)).add (.cells (h_.map .str))).ab id=some (scC ⟨s,t⟩):=by
  rw[aC _ _ _ (by simp;omega),aC _ _ _ (by omega)];exact hc
 have hc2:((h.add (.cells z15)).add (.cells (h_.map .str))).ab (h.nx+1)=some (h_.map .str):=bd _ _ _ (by simp);have hr1:((h.add (.cells z15)).add (.cells (h_.map .str))).ab h.nx=some z15:=by
  rw[aC _ _ _ (by simp)];exact bd _ _ _ rfl
 have hn1:((h.add (.cells z15)).add (.cells (h_.map .str))).nx=h.nx+2:=by simp
 have Xu:∀i,i<h.nx->((h.add (.cells z15)).add (.cells (h_.map .str))).H.get i=h.H.get i:=λi hi=>by rw[az,amU (by simp;omega),az,amU (by omega)]
 have hg1:GJ ((h.add (.cells z15)).add (.cells (h_.map .str))):=(hg.add _).add _;change tb [e56,e62,e58,e94] 56 [.ptr id 0,.rsl (h.nx+1) 0 4 1] ((h.add (.cells z15)).add (.cells (h_.map .str))) _
 generalize(h.add (.cells z15)).add (.cells (h_.map .str))=h1 at*;refine zj (x:=⟨s,t⟩) (l:=h_) hc1 (by omega) hx ⟨.inr ⟨h.nx+1,rfl,by omega,hc2⟩,by decide⟩ ?_;have hck:=eY s h_ t hx.2;have hib : -1<=bf s h_ t/\bf s h_ t<4:=⟨qD _ _,oz h_ _⟩;unfold gC;simp only;generalize bf s h_ t=K at*;generalize aL s h_ t=t1 at*;simp(disch:=first|go_size|fail)[OA];obtain⟨k3,hk3⟩:∃k3,k3=h1.nx:=⟨_,rfl⟩;have hP0:P3 h (((h1.set id (.cells (scC ⟨s,t1⟩))).add (.cells z15)).set k3 (.cells (edC (14+K) .aa 0 .aa))) id k3 (scC ⟨s,t1⟩) (edC (14+K) .aa 0 .aa):=by
  refine⟨?_,eD _ _ _ _ rfl,?_,⟨by omega,by simp;omega⟩,λi h2 h3=>?_,((hg1.set h8).add _).set (by omega)⟩
  ·rw[ak _ _ _ _ (by omega),aC _ _ _ (by simp;omega)];exact eD _ _ _ _ rfl
  ·rw[ak _ _ _ _ (by omega),aC _ _ _ (by simp;omega),ak _ _ _ _ (by omega)];exact hr1
  ·rw[au,amU (by omega),az,amU (by simp;omega),au,amU h2];exact Xu i h3
 have fJ:((h1.set id (.cells (scC ⟨s,t1⟩))).add (.cells [I 0,.aa,.aa,.aa,I 0,I 0,.bool false,I 0,I 0,I 0,I 0,I 0,I 0,.aa,I 0])).set h1.nx (.cells [I (14+K),.aa,.aa,.aa,I 0,I 0,.bool false,I 0,I 0,I 0,I 0,I 0,I 0,.aa,I 0])=((h1.set id (.cells (scC ⟨s,t1⟩))).add (.cells z15)).set k3 (.cells (edC (14+K) .aa 0 .aa)):=by rw[hk3];rfl
 rw[fJ,<-hk3];generalize((h1.set id (.cells (scC ⟨s,t1⟩))).add (.cells z15)).set k3 (.cells (edC (14+K) .aa 0 .aa))=h2 at*;clear fJ hc1 hc2 hr1 Xu hg1 hw0;generalize hX:(if K=2 then((16,AV.psl (nM (iJ s t1)),0,AV.aa),dW s t1)else if K=1 then((15,AV.psl (nM (iJ s t1)),cQ s (dW s t1),AV.psl (oh (tv s (bc s (dW s t1))).fst)),(tv s (bc s (dW s t1))).snd)else((14+K,AV.aa,0,AV.aa),t1):(Int×AV×Int×AV)×PS)=X;refine⟨PMc h id s X k3,?_,?_⟩
 ·by_cases k2:K=2
  ·rw[am1 k2]at hX;subst hX;subst k2;simp[BV];refine P1 (x:=⟨s,t1⟩) ⟨hP0.gj,h8⟩ hP0.a (by have:=hP0.lt;omega) ⟨hs,hck.lt⟩ ?_;have hP1:=hP0.cE hid h8 (scC ⟨s,dW s t1⟩);have hT:=zq s t1 hck.lt hs;simp only at hP1 ⊢;generalize h2.set id (.cells (scC ⟨s,dW s t1⟩))=h3 at*;generalize iJ s t1=T at*;generalize dW s t1=t2 at*;have hlt:=hP1.lt;simp[Qf];rw[qj h3 T hT];have hP2:=hP1.new (h2:=h3.add (.cells ((aD T).map bH))) hid h8 (b:=h3.nx) (by omega) (by simp) λi hi=>by rw[az,amU (by omega)]
   have hcr:(h3.add (.cells ((aD T).map bH))).ab h3.nx=some ((aD T).map bH):=bd _ _ _ rfl;have hn4:(h3.add (.cells ((aD T).map bH))).nx=h3.nx+1:=by simp
   obtain⟨kr,hkr⟩:∃kr,kr=h3.nx:=⟨_,rfl⟩;rw[<-hkr]at hcr hn4 ⊢;generalize h3.add (.cells ((aD T).map bH))=h4 at*;have hb4:h4.ab k3=some [I (14+2),.aa,.aa,.aa,I 0,I 0,.bool false,I 0,I 0,I 0,I 0,I 0,I 0,.aa,I 0]:=hP2.b;simp[hb4];have hP3:=hP2.Xp hid h8 (edC 16 (.rsl kr 0 (aD T).length 1) 0 .aa);refine .mk 16 (.rsl kr 0 (aD T).length 1) 0 .aa hP3 ⟨rfl,rfl⟩ λh5 hn5 hg5=>A2 (mZ ?_ (by omega)) .dX
   rw[ay (hg5 kr (by omega) (by show kr<h4.nx;omega)),ak _ _ _ _ (by omega)];exact hcr
  ·rw[amU k2]at hX;by_cases k1:K=1
   ·rw[am1 k1]at hX;subst k1;simp[BV];refine P1 (x:=⟨s,t1⟩) ⟨hP0.gj,h8⟩ hP0.a (by have:=hP0.lt;omega) ⟨hs,hck.lt⟩ ?_;have hP1:=hP0.cE hid h8 (scC ⟨s,dW s t1⟩);have hT:=zq s t1 hck.lt hs;have htk:=iQ s t1 hck.lt;simp only at hP1 ⊢;generalize h2.set id (.cells (scC ⟨s,dW s t1⟩))=h3 at*;generalize iJ s t1=T at*;generalize dW s t1=t2 at*;have hlt:=hP1.lt;simp[Uq];rw[qj h3 T hT];have hP2:=hP1.new (h2:=h3.add (.cells ((aD T).map bH))) hid h8 (b:=h3.nx) (by omega) (by simp) λi hi=>by rw[az,amU (by omega)]
    have hcr:(h3.add (.cells ((aD T).map bH))).ab h3.nx=some ((aD T).map bH):=bd _ _ _ rfl;have hn4:(h3.add (.cells ((aD T).map bH))).nx=h3.nx+1:=by simp
    obtain⟨kr,hkr⟩:∃kr,kr=h3.nx:=⟨_,rfl⟩;rw[<-hkr]at hcr hn4 ⊢;generalize h3.add (.cells ((aD T).map bH))=h4 at*;have hb4:h4.ab k3=some [I (14+1),.aa,.aa,.aa,I 0,I 0,.bool false,I 0,I 0,I 0,I 0,I 0,I 0,.aa,I 0]:=hP2.b;simp[hb4];have agj:(AV.rsl kr 0 (aD T).length 1).one=true:=rfl;have hP3:=hP2.Xp hid h8 (edC 15 (.rsl kr 0 (aD T).length 1) 0 .aa);have ajZ:(h4.set k3 (.cells (edC 15 (.rsl kr 0 (aD T).length 1) 0 .aa))).ab kr=some ((aD T).map bH):=by rw[ak _ _ _ _ (by omega)];exact hcr
    have hn5:(h4.set k3 (.cells (edC 15 (.rsl kr 0 (aD T).length 1) 0 .aa))).nx=h4.nx:=rfl;have nW:h4.set k3 (.cells [I 15,.rsl kr 0 (aD T).length 1,.aa,.aa,I 0,I 0,.bool false,I 0,I 0,I 0,I 0,I 0,I 0,.aa,I 0])=h4.set k3 (.cells (edC 15 (.rsl kr 0 (aD T).length 1) 0 .aa)):=rfl;rw[nW];generalize h4.set k3 (.cells (edC 15 (.rsl kr 0 (aD T).length 1) 0 .aa))=h5 at*;have hnk:=bD s t2 htk.lt;refine kQ (x:=⟨s,t2⟩) ⟨hP3.gj,h8⟩ hP3.a (by have:=hP3.lt;omega) ⟨hs,htk.lt⟩ ?_;have hP4:=hP3.cE hid h8 (scC ⟨s,bc s t2⟩);have ajj:(h5.set id (.cells (scC ⟨s,bc s t2⟩))).ab kr=some ((aD T).map bH):=by rw[ak _ _ _ _ (by omega)];exact ajZ
    have hn6:(h5.set id (.cells (scC ⟨s,bc s t2⟩))).nx=h5.nx:=rfl;simp only at hP4 ⊢;generalize h5.set id (.cells (scC ⟨s,bc s t2⟩))=h6 at*;generalize cQ s t2=N at*;generalize bc s t2=t3 at*;generalize hrv:AV.rsl kr 0 (aD T).length 1=rv at*;have hb6:h6.ab k3=some [I 15,rv,.aa,.aa,I 0,I 0,.bool false,I 0,I 0,I 0,I 0,I 0,I 0,.aa,I 0]:=hP4.b;simp[hb6];have hP5:=hP4.Xp hid h8 (edC 15 rv N .aa);have ai_:(h6.set k3 (.cells (edC 15 rv N .aa))).ab kr=some ((aD T).map bH):=by rw[ak _ _ _ _ (by omega)];exact ajj
    have hn7:(h6.set k3 (.cells (edC 15 rv N .aa))).nx=h6.nx:=rfl;have Jc:h6.set k3 (.cells [I 15,rv,.aa,.aa,I 0,I 0,.bool false,I 0,I 0,I 0,I 0,I 0,I N,.aa,I 0])=h6.set k3 (.cells (edC 15 rv N .aa)):=rfl;rw[Jc];generalize h6.set k3 (.cells (edC 15 rv N .aa))=h7 at*;have pq:qQ s (s.length+2) [] t3=tv s t3:=rfl;generalize hRR:tv s t3=R at*;subst hX;refine⟨PCx h h7 id k3 s rv N R kr ((aD T).map bH),s.length+2,?_,?_⟩
    ·exact .mk (s.length+2) [] t3 .aa hP5 (OL.start _ _ _) ai_ (amY _) hnk.lt (by unfold left;split<;>omega) pq (by simp)
    ·rintro m vs h' hI;cases hI with
     |mk m acc t lv hp hO U6 hn9 hp9 hm hq hlen=>
     have UH:id<h'.nx:=by have:=hp.lt;omega
     simp[Sx];refine vZ (x:=⟨s,t⟩) hp.a UH ⟨hs,hp9⟩ ?_;simp only;cases hmr:bB s t
     ·have ly:qQ s m acc t=(acc,t):=by
       cases m with
       |zero=>rfl
       |succ m=>unfold qQ;rw[hmr];rfl
      rw[hq]at ly;subst ly;simp[];simp[Pr];simp[FL];refine .mk 15 rv N lv hp ⟨agj,jy hO⟩ λh8' hn8 hg8=>A2 ?_ ?_
      ·rw[<-hrv];exact mZ (by rw[ay (hg8 kr (by omega) (by omega))];exact U6) (by omega)
      ·have hO2:OL 2 h7 h8' lv (oh acc).length (oh acc).flatten:=by
        rw[show(oh acc).length=acc.length by simp[oh]];exact hO.du hn8 λi q1 q2=>hg8 i (by omega) q2
       exact ap9 (PJ acc) (zB acc) hO2 (by omega)
     ·obtain⟨m,rfl⟩:∃k,m=k+1:=⟨m-1,by
       unfold left at hm;unfold bB at hmr;simp only[amZ,ana]at hmr;rw[am1 hmr.1]at hm;omega⟩
      have hok:t.ok=true:=by
       unfold bB at hmr;simp only[amZ]at hmr;exact hmr.1
      have hq2:=hq;unfold qQ at hq2;rw[hmr]at hq2;simp only[anH]at hq2;have Je:=bD s t hp9;have hNb:=c_ s t;simp[];refine kQ (x:=⟨s,t⟩) ⟨hp.gj,h8⟩ hp.a UH ⟨hs,hp9⟩ ?_;have acC:=hp.cE hid h8 (scC ⟨s,bc s t⟩);have abY:=hO.set (id:=id) (by omega) (.cells (scC ⟨s,bc s t⟩));have UN:(h'.set id (.cells (scC ⟨s,bc s t⟩))).ab kr=some ((aD T).map bH):=by rw[ak _ _ _ _ (by omega)];exact U6
      have acx:(h'.set id (.cells (scC ⟨s,bc s t⟩))).nx=h'.nx:=rfl;have xW:=Mc hp9 (s:=s);simp only at acC ⊢;generalize h'.set id (.cells (scC ⟨s,bc s t⟩))=h11 at*;generalize cQ s t=nv at*;generalize bc s t=t5 at*;have N0:h11.ab k3=some [I 15,rv,.aa,.aa,I 0,I 0,.bool false,I 0,I 0,I 0,I 0,I 0,I N,lv,I 0]:=acC.b;obtain⟨lv',h12,aco,UI,ai1,UM⟩:=mI (bytes:=16) (tc:=clP nv) abY (by omega) rfl rfl (by have:=hlen hok;omega) (by omega);have hng:kUn h11 .neg (I nv)=some (I (ng nv),h11):=ahi h11 nv hNb;have hmx:iy h11 true (I nv) (I (ng nv))=some (I (max nv (ng nv)),h11):=pB _ _ _;have hkc:dK (h11.add (.cells [I (max nv (ng nv)),.bool (decide (nv<0))])) 2 16 lv (.rsl h11.nx 0 1 2)=some (lv',h12):=aco;simp[N0];rw[hng];simp[hmx];simp[Ox];rw[hkc];have abT:=acC.new hid h8 (b:=h7.nx) (by have:=hP5.lt;omega) (by omega) UM;have Xv:h12.ab k3=some [I 15,rv,.aa,.aa,I 0,I 0,.bool false,I 0,I 0,I 0,I 0,I 0,I N,lv,I 0]:=abT.b;have UX:h12.ab kr=some ((aD T).map bH):=by rw[ay (UM kr (by omega))];exact UN
      have hst:kSt h12 1 (.ptr k3 13) lv'=some (.undef,h12.set k3 (.cells (edC 15 rv N lv'))):=by
       have abX:=UI;rcases abX with⟨_,h0,_⟩|⟨k,hk0,_⟩
       ·omega
       ·rw[hk0];simp[Xv];rfl
      simp[];rw[hst];simp[];have ak_:=abT.lt;refine⟨m,by omega,.mk m (acc++[nv]) t5 lv' (abT.Xp hid h8 _) ?_ (by rw[ak _ _ _ _ (by omega)];exact UX) (by simp;omega) Je.lt ?_ hq2 ?_⟩
      ·have e1:(acc++[nv]).length=acc.length+1:=by simp
       have e2:(oh (acc++[nv])).flatten=(oh acc).flatten++clP nv:=by simp[oh]
       rw[e1,e2];exact UI.set (by have:=hP5.lt;omega) _
      ·unfold left at hm ⊢;rw[am1 hok]at hm;split
       ·rename_i hu';have:=xW hu';have:=Je.lt;omega
       ·omega
      ·intro hu';have:=xW hu';have:=hlen hok;rw[amX];simp only[am2];omega
   ·rw[amU k1]at hX;subst hX;have a1:¬14+K=16:=by omega
    have a2:¬14+K=15:=by omega
    simp[BV,a1,a2];exact .mk (14+K) .aa 0 .aa hP0 ⟨rfl,rfl⟩ λh5 hn5 hg5=>A2 .dX .dX
 ·rintro vs h' hM;cases hM with
  |mk k r n c hp ho hf=>
  have hb:h'.ab k3=some [I k,r,.aa,.aa,I 0,I 0,.bool false,I 0,I 0,I 0,I 0,I 0,I n,c,I 0]:=hp.b;have hr:h'.ab h.nx=some [I 0,.aa,.aa,.aa,I 0,I 0,.bool false,I 0,I 0,I 0,I 0,I 0,I 0,.aa,I 0]:=hp.r;have hlt:=hp.lt;have o1:=ho.1;have o2:=ho.2;simp[R3,hb,hr,o1,o2];refine⟨hf _ (amY _) λi q1 q2=>by rw[au,amU (by omega)],?_,(show h.nx<=h'.nx by omega),λi q1 q2=>by rw[au,amU (by omega)];exact hp.get i q1 q2⟩;rw[ak _ _ _ _ (by omega)];exact hp.a
def e63:QE prog:=QE.obj 63 (λh id=>GJ h/\8<=id) scC (fun(_:Unit)=>[]) (fun(x:Sc)(y:Unit)=>match y with|_=>x.Ok) (fun(x:Sc)(y:Unit)=>match y with|_=>.agg (t_ (gC x.s x.t).1)) (fun(x:Sc)(y:Unit)=>match y with|_=>⟨x.s,(gC x.s x.t).2⟩) (λh id x y hj hc hid hx=>match y,hx with|_,hx=>F7 h id x hj hc hid hx)
theorem afN{tl h}{id:Nat}{x:Sc}{Q:QT}(hj:GJ h/\8<=id)(hc:h.ab id=some (scC x))(hid:id<h.nx)(hx:x.Ok)(hq:Q (.agg (t_ (gC x.s x.t).1)) (h.set id (.cells (scC (⟨x.s,(gC x.s x.t).2⟩))))):tb (e63::tl) 63 (.ptr id 0::[]) h Q:=bF () hj hc hid hx hq
theorem L3.gj{h h':AH}{c1 c2:LA}(l:L3 h h' c1 c2)(hg:GJ h):GJ h':=
 have h8:=hg.2;hg.me (λi hi=>l.get i (by omega)) (by have:=l.nx;omega)
def LMP(h:AH)(s:Str)(x:List AV×PS):NT:=λvs h'=>vs=[.str s,.ptr h.nx 0,.ptr (h.nx+1) 0,.ptr (h.nx+2) 0]/\∃c2,L3 h h' (scC ⟨s,x.2⟩) c2/\Up h h' c2 x.1
def lP:List (QE prog):=[e56,e57,e58,e59,e60,e61,e62,e63]
theorem HI(s:Str)(t:PS)(ht:t.pos<=s.length):cD s t (od s t):=by
 have h:=fW s t ht;refine⟨h.le,h.lt,λe=>h.ok ?_⟩;unfold od at e;simp only[amZ]at e;exact e.1
theorem aen(h:AH)(i:Nat)(hi:i<9):ae h .shl (I 1) (I i)=some (I ((2:Int)^i),h):=by
 have:i=0\/i=1\/i=2\/i=3\/i=4\/i=5\/i=6\/i=7\/i=8:=by omega
 rcases this with rfl|rfl|rfl|rfl|rfl|rfl|rfl|rfl|rfl<;>rfl
theorem afb{h h1:AH}{s:Str}{t:PS}(hg:GJ h)(hs:s.length<=1000000)(hp:t.pos<=s.length)(hL:L3 h h1 (scC ⟨s,t⟩) (stN zIn 0 [I 1])):
  fy (tb lP) (.str s) (.ptr h.nx 0) (.ptr (h.nx+1) 0) (.ptr (h.nx+2) 0) (I 1) h1 (LMP h s (Na s t)):=by
 have h8:=hg.2;unfold Na;try simp only
 simp[fy];unfold lP;try simp[]
 refine afy trivial ?_;simp[Pk];have ak5 : -1<=bf s k_ t/\bf s k_ t<6:=⟨qD _ _,oz k_ _⟩;refine zj (x:=⟨s,t⟩) (l:=k_) hL.a (by have:=hL.nx;omega) ⟨hs,hp⟩ ⟨.inl rfl,by decide⟩ ?_;have l_1:=hL.cE (scC ⟨s,aL s k_ t⟩);have p_1:=(eY s k_ t hp).lt;try simp only at l_1 ⊢
 generalize h1.set (h.nx+1) (.cells (scC ⟨s,aL s k_ t⟩))=h_1 at*;generalize bf s k_ t=o at*;generalize aL s k_ t=t_1 at*;have hb:=l_1.b;have hnx:=l_1.nx;have hs0:fi (stN zIn 0 [I 1]) 1 [I (1+o)]=some (stN (stN zIn 0 [I 1]) 1 [I (1+o)]):=bz (show 1+1<=((stN zIn 0 [I 1])).length by rw[show((stN zIn 0 [I 1])).length=37 from rfl];decide);have l_2:=(l_1.st 1 [I (1+o)] (by simp) rfl);simp(disch:=first|go_size|fail)[Ui,hb,hs0];clear hb hnx hs0;have acf:(h_1.set (h.nx+2) (.cells (stN (stN zIn 0 [I 1]) 1 [I (1+o)]))).nx=h_1.nx:=rfl;generalize(h_1.set (h.nx+2) (.cells (stN (stN zIn 0 [I 1]) 1 [I (1+o)])))=h_2 at*;refine kQ (x:=⟨s,t_1⟩) ⟨l_2.gj hg,by omega⟩ l_2.a (by have:=l_2.nx;omega) ⟨hs,p_1⟩ ?_;have l_3:=l_2.cE (scC ⟨s,bc s t_1⟩);have p_3:=(bD s t_1 p_1).lt;have ajx:=c_ s t_1;try simp only at l_3 ⊢
 generalize h_2.set (h.nx+1) (.cells (scC ⟨s,bc s t_1⟩))=h_3 at*;generalize cQ s t_1=n1 at*;generalize bc s t_1=t_3 at*;simp[T7];refine kQ (x:=⟨s,t_3⟩) ⟨l_3.gj hg,by omega⟩ l_3.a (by have:=l_3.nx;omega) ⟨hs,p_3⟩ ?_;have l_4:=l_3.cE (scC ⟨s,bc s t_3⟩);have p_4:=(bD s t_3 p_3).lt;have alo:=c_ s t_3;try simp only at l_4 ⊢
 generalize h_3.set (h.nx+1) (.cells (scC ⟨s,bc s t_3⟩))=h_4 at*;generalize cQ s t_3=n2 at*;generalize bc s t_3=t_4 at*;simp[PT];refine kQ (x:=⟨s,t_4⟩) ⟨l_4.gj hg,by omega⟩ l_4.a (by have:=l_4.nx;omega) ⟨hs,p_4⟩ ?_;have l_5:=l_4.cE (scC ⟨s,bc s t_4⟩);have p_5:=(bD s t_4 p_4).lt;have alD:=c_ s t_4;try simp only at l_5 ⊢
 generalize h_4.set (h.nx+1) (.cells (scC ⟨s,bc s t_4⟩))=h_5 at*;generalize cQ s t_4=n3 at*;generalize bc s t_4=t_5 at*;simp[QM];refine kQ (x:=⟨s,t_5⟩) ⟨l_5.gj hg,by omega⟩ l_5.a (by have:=l_5.nx;omega) ⟨hs,p_5⟩ ?_;have l_6:=l_5.cE (scC ⟨s,bc s t_5⟩);have p_6:=(bD s t_5 p_5).lt;have ai8:=c_ s t_5;try simp only at l_6 ⊢
 generalize h_5.set (h.nx+1) (.cells (scC ⟨s,bc s t_5⟩))=h_6 at*;generalize cQ s t_5=n4 at*;generalize bc s t_5=t_6 at*;simp[SF];refine kQ (x:=⟨s,t_6⟩) ⟨l_6.gj hg,by omega⟩ l_6.a (by have:=l_6.nx;omega) ⟨hs,p_6⟩ ?_;have l_7:=l_6.cE (scC ⟨s,bc s t_6⟩);have p_7:=(bD s t_6 p_6).lt;have agJ:=c_ s t_6;try simp only at l_7 ⊢
 generalize h_6.set (h.nx+1) (.cells (scC ⟨s,bc s t_6⟩))=h_7 at*;generalize cQ s t_6=n5 at*;generalize bc s t_6=t_7 at*;have hb:=l_7.b;have hnx:=l_7.nx;have hs0:fi (stN (stN zIn 0 [I 1]) 1 [I (1+o)]) 2 [I n1]=some (stN (stN (stN zIn 0 [I 1]) 1 [I (1+o)]) 2 [I n1]):=bz (show 2+1<=((stN (stN zIn 0 [I 1]) 1 [I (1+o)])).length by rw[show((stN (stN zIn 0 [I 1]) 1 [I (1+o)])).length=37 from rfl];decide);have hs1:fi (stN (stN (stN zIn 0 [I 1]) 1 [I (1+o)]) 2 [I n1]) 3 [I n2]=some (stN (stN (stN (stN zIn 0 [I 1]) 1 [I (1+o)]) 2 [I n1]) 3 [I n2]):=bz (show 3+1<=((stN (stN (stN zIn 0 [I 1]) 1 [I (1+o)]) 2 [I n1])).length by rw[show((stN (stN (stN zIn 0 [I 1]) 1 [I (1+o)]) 2 [I n1])).length=37 from rfl];decide);have hs2:fi (stN (stN (stN (stN zIn 0 [I 1]) 1 [I (1+o)]) 2 [I n1]) 3 [I n2]) 4 [I n3]=some (stN (stN (stN (stN (stN zIn 0 [I 1]) 1 [I (1+o)]) 2 [I n1]) 3 [I n2]) 4 [I n3]):=bz (show 4+1<=((stN (stN (stN (stN zIn 0 [I 1]) 1 [I (1+o)]) 2 [I n1]) 3 [I n2])).length by rw[show((stN (stN (stN (stN zIn 0 [I 1]) 1 [I (1+o)]) 2 [I n1]) 3 [I n2])).length=37 from rfl];decide);have hs3:fi (stN (stN (stN (stN (stN zIn 0 [I 1]) 1 [I (1+o)]) 2 [I n1]) 3 [I n2]) 4 [I n3]) 5 [I n4]=some (stN (stN (stN (stN (stN (stN zIn 0 [I 1]) 1 [I (1+o)]) 2 [I n1]) 3 [I n2]) 4 [I n3]) 5 [I n4]):=bz (show 5+1<=((stN (stN (stN (stN (stN zIn 0 [I 1]) 1 [I (1+o)]) 2 [I n1]) 3 [I n2]) 4 [I n3])).length by rw[show((stN (stN (stN (stN (stN zIn 0 [I 1]) 1 [I (1+o)]) 2 [I n1]) 3 [I n2]) 4 [I n3])).length=37 from rfl];decide)
 have hs4:fi (stN (stN (stN (stN (stN (stN zIn 0 [I 1]) 1 [I (1+o)]) 2 [I n1]) 3 [I n2]) 4 [I n3]) 5 [I n4]) 6 [I n5]=some (stN (stN (stN (stN (stN (stN (stN zIn 0 [I 1]) 1 [I (1+o)]) 2 [I n1]) 3 [I n2]) 4 [I n3]) 5 [I n4]) 6 [I n5]):=bz (show 6+1<=((stN (stN (stN (stN (stN (stN zIn 0 [I 1]) 1 [I (1+o)]) 2 [I n1]) 3 [I n2]) 4 [I n3]) 5 [I n4])).length by rw[show((stN (stN (stN (stN (stN (stN zIn 0 [I 1]) 1 [I (1+o)]) 2 [I n1]) 3 [I n2]) 4 [I n3]) 5 [I n4])).length=37 from rfl];decide);have l_8:=(((((l_7.st 2 [I n1] (by simp) rfl).st 3 [I n2] (by simp) rfl).st 4 [I n3] (by simp) rfl).st 5 [I n4] (by simp) rfl).st 6 [I n5] (by simp) rfl);simp[T5,Tk,hb,hs0,hs1,hs2,hs3,hs4];clear hb hnx hs0 hs1 hs2 hs3 hs4;have aiH:(((((h_7.set (h.nx+2) (.cells (stN (stN (stN zIn 0 [I 1]) 1 [I (1+o)]) 2 [I n1]))).set (h.nx+2) (.cells (stN (stN (stN (stN zIn 0 [I 1]) 1 [I (1+o)]) 2 [I n1]) 3 [I n2]))).set (h.nx+2) (.cells (stN (stN (stN (stN (stN zIn 0 [I 1]) 1 [I (1+o)]) 2 [I n1]) 3 [I n2]) 4 [I n3]))).set (h.nx+2) (.cells (stN (stN (stN (stN (stN (stN zIn 0 [I 1]) 1 [I (1+o)]) 2 [I n1]) 3 [I n2]) 4 [I n3]) 5 [I n4]))).set (h.nx+2) (.cells (stN (stN (stN (stN (stN (stN (stN zIn 0 [I 1]) 1 [I (1+o)]) 2 [I n1]) 3 [I n2]) 4 [I n3]) 5 [I n4]) 6 [I n5]))).nx=h_7.nx:=rfl;generalize(((((h_7.set (h.nx+2) (.cells (stN (stN (stN zIn 0 [I 1]) 1 [I (1+o)]) 2 [I n1]))).set (h.nx+2) (.cells (stN (stN (stN (stN zIn 0 [I 1]) 1 [I (1+o)]) 2 [I n1]) 3 [I n2]))).set (h.nx+2) (.cells (stN (stN (stN (stN (stN zIn 0 [I 1]) 1 [I (1+o)]) 2 [I n1]) 3 [I n2]) 4 [I n3]))).set (h.nx+2) (.cells (stN (stN (stN (stN (stN (stN zIn 0 [I 1]) 1 [I (1+o)]) 2 [I n1]) 3 [I n2]) 4 [I n3]) 5 [I n4]))).set (h.nx+2) (.cells (stN (stN (stN (stN (stN (stN (stN zIn 0 [I 1]) 1 [I (1+o)]) 2 [I n1]) 3 [I n2]) 4 [I n3]) 5 [I n4]) 6 [I n5])))=h_8 at*
 refine⟨rfl,_,l_8,.plain λH=>?_⟩;exact(bO (bO (bO (bO (bO (bO (bO gq 0 _ (by decide)) 1 _ (by decide)) 2 _ (by decide)) 3 _ (by decide)) 4 _ (by decide)) 5 _ (by decide)) 6 _ (by decide)).frz H
theorem afL{h h1:AH}{s:Str}{t:PS}(hg:GJ h)(hs:s.length<=1000000)(hp:t.pos<=s.length)(hL:L3 h h1 (scC ⟨s,t⟩) (stN zIn 0 [I 2])):
  fy (tb lP) (.str s) (.ptr h.nx 0) (.ptr (h.nx+1) 0) (.ptr (h.nx+2) 0) (I 2) h1 (LMP h s (FK s t)):=by
 have h8:=hg.2;unfold FK;try simp only
 simp[fy];unfold lP;try simp[]
 obtain⟨ka,kb,ace⟩:∃ka kb:Int,tV s t=[I ka,I kb]:=by unfold tV;split<;>exact⟨_,_,rfl⟩
 have ajQ:cD s t (od s t):=HI s t hp;refine aek (x:=⟨s,t⟩) ⟨hL.gj hg,by omega⟩ hL.a (by have:=hL.nx;omega) ⟨hs,hp⟩ ?_;simp only;rw[ace];have l_1:=hL.cE (scC ⟨s,od s t⟩);have p_1:=ajQ.lt;try simp only at l_1 ⊢
 generalize h1.set (h.nx+1) (.cells (scC ⟨s,od s t⟩))=h_1 at*;generalize od s t=t_1 at*;have hb:=l_1.b;have hnx:=l_1.nx;have hs0:fi (stN zIn 0 [I 2]) 7 [I ka,I kb]=some (stN (stN zIn 0 [I 2]) 7 [I ka,I kb]):=bz (show 7+2<=((stN zIn 0 [I 2])).length by rw[show((stN zIn 0 [I 2])).length=37 from rfl];decide);have l_2:=(l_1.st 7 [I ka,I kb] (by simp) rfl);simp[hb,hs0];clear hb hnx hs0;have acf:(h_1.set (h.nx+2) (.cells (stN (stN zIn 0 [I 2]) 7 [I ka,I kb]))).nx=h_1.nx:=rfl;generalize(h_1.set (h.nx+2) (.cells (stN (stN zIn 0 [I 2]) 7 [I ka,I kb])))=h_2 at*;refine kQ (x:=⟨s,t_1⟩) ⟨l_2.gj hg,by omega⟩ l_2.a (by have:=l_2.nx;omega) ⟨hs,p_1⟩ ?_;have l_3:=l_2.cE (scC ⟨s,bc s t_1⟩);have p_3:=(bD s t_1 p_1).lt;have ajx:=c_ s t_1;try simp only at l_3 ⊢
 generalize h_2.set (h.nx+1) (.cells (scC ⟨s,bc s t_1⟩))=h_3 at*;generalize cQ s t_1=n1 at*;generalize bc s t_1=t_3 at*;have hb:=l_3.b;have hnx:=l_3.nx;have hs0:fi (stN (stN zIn 0 [I 2]) 7 [I ka,I kb]) 9 [I n1]=some (stN (stN (stN zIn 0 [I 2]) 7 [I ka,I kb]) 9 [I n1]):=bz (show 9+1<=((stN (stN zIn 0 [I 2]) 7 [I ka,I kb])).length by rw[show((stN (stN zIn 0 [I 2]) 7 [I ka,I kb])).length=37 from rfl];decide);have l_4:=(l_3.st 9 [I n1] (by simp) rfl);simp[hb,hs0];clear hb hnx hs0;have alA:(h_3.set (h.nx+2) (.cells (stN (stN (stN zIn 0 [I 2]) 7 [I ka,I kb]) 9 [I n1]))).nx=h_3.nx:=rfl;generalize(h_3.set (h.nx+2) (.cells (stN (stN (stN zIn 0 [I 2]) 7 [I ka,I kb]) 9 [I n1])))=h_4 at*;refine⟨rfl,_,l_4,.plain λH=>?_⟩;exact(bO ((bO gq 0 _ (by decide)).st 7 [I _,I _] (by simp) rfl λH=>⟨.int _ _,.int _ _,trivial⟩) 9 _ (by decide)).frz H
theorem Zp{h h1:AH}{s:Str}{t:PS}(hg:GJ h)(hs:s.length<=1000000)(hp:t.pos<=s.length)(hL:L3 h h1 (scC ⟨s,t⟩) (stN zIn 0 [I 3])):
  fy (tb lP) (.str s) (.ptr h.nx 0) (.ptr (h.nx+1) 0) (.ptr (h.nx+2) 0) (I 3) h1 (LMP h s (yp s t)):=by
 have h8:=hg.2;unfold yp;try simp only
 simp[fy];unfold lP;try simp[]
 refine kQ (x:=⟨s,t⟩) ⟨hL.gj hg,by omega⟩ hL.a (by have:=hL.nx;omega) ⟨hs,hp⟩ ?_;have l_1:=hL.cE (scC ⟨s,bc s t⟩);have p_1:=(bD s t hp).lt;have agI:=c_ s t;try simp only at l_1 ⊢
 generalize h1.set (h.nx+1) (.cells (scC ⟨s,bc s t⟩))=h_1 at*;generalize cQ s t=n1 at*;generalize bc s t=t_1 at*;have hb:=l_1.b;have hnx:=l_1.nx;have hs0:fi (stN zIn 0 [I 3]) 9 [I n1]=some (stN (stN zIn 0 [I 3]) 9 [I n1]):=bz (show 9+1<=((stN zIn 0 [I 3])).length by rw[show((stN zIn 0 [I 3])).length=37 from rfl];decide);have l_2:=(l_1.st 9 [I n1] (by simp) rfl);simp[hb,hs0];clear hb hnx hs0;have acf:(h_1.set (h.nx+2) (.cells (stN (stN zIn 0 [I 3]) 9 [I n1]))).nx=h_1.nx:=rfl;generalize(h_1.set (h.nx+2) (.cells (stN (stN zIn 0 [I 3]) 9 [I n1])))=h_2 at*;refine⟨rfl,_,l_2,.plain λH=>?_⟩;exact(bO (bO gq 0 _ (by decide)) 9 _ (by decide)).frz H
theorem aas{h h1:AH}{s:Str}{t:PS}(hg:GJ h)(hs:s.length<=1000000)(hp:t.pos<=s.length)(hL:L3 h h1 (scC ⟨s,t⟩) (stN zIn 0 [I 4])):
  fy (tb lP) (.str s) (.ptr h.nx 0) (.ptr (h.nx+1) 0) (.ptr (h.nx+2) 0) (I 4) h1 (LMP h s (yA s t)):=by
 have h8:=hg.2;unfold yA;try simp only
 simp[fy];unfold lP;try simp[]
 refine kQ (x:=⟨s,t⟩) ⟨hL.gj hg,by omega⟩ hL.a (by have:=hL.nx;omega) ⟨hs,hp⟩ ?_;have l_1:=hL.cE (scC ⟨s,bc s t⟩);have p_1:=(bD s t hp).lt;have agI:=c_ s t;try simp only at l_1 ⊢
 generalize h1.set (h.nx+1) (.cells (scC ⟨s,bc s t⟩))=h_1 at*;generalize cQ s t=n1 at*;generalize bc s t=t_1 at*;simp[Le];refine kQ (x:=⟨s,t_1⟩) ⟨l_1.gj hg,by omega⟩ l_1.a (by have:=l_1.nx;omega) ⟨hs,p_1⟩ ?_;have l_2:=l_1.cE (scC ⟨s,bc s t_1⟩);have p_2:=(bD s t_1 p_1).lt;have ajA:=c_ s t_1;try simp only at l_2 ⊢
 generalize h_1.set (h.nx+1) (.cells (scC ⟨s,bc s t_1⟩))=h_2 at*;generalize cQ s t_1=n2 at*;generalize bc s t_1=t_2 at*;have hb:=l_2.b;have hnx:=l_2.nx;have hs0:fi (stN zIn 0 [I 4]) 10 [I n1]=some (stN (stN zIn 0 [I 4]) 10 [I n1]):=bz (show 10+1<=((stN zIn 0 [I 4])).length by rw[show((stN zIn 0 [I 4])).length=37 from rfl];decide);have hs1:fi (stN (stN zIn 0 [I 4]) 10 [I n1]) 11 [I n2]=some (stN (stN (stN zIn 0 [I 4]) 10 [I n1]) 11 [I n2]):=bz (show 11+1<=((stN (stN zIn 0 [I 4]) 10 [I n1])).length by rw[show((stN (stN zIn 0 [I 4]) 10 [I n1])).length=37 from rfl];decide);have l_3:=((l_2.st 10 [I n1] (by simp) rfl).st 11 [I n2] (by simp) rfl);simp[Rg,hb,hs0,hs1];clear hb hnx hs0 hs1;have acm:((h_2.set (h.nx+2) (.cells (stN (stN zIn 0 [I 4]) 10 [I n1]))).set (h.nx+2) (.cells (stN (stN (stN zIn 0 [I 4]) 10 [I n1]) 11 [I n2]))).nx=h_2.nx:=rfl;generalize((h_2.set (h.nx+2) (.cells (stN (stN zIn 0 [I 4]) 10 [I n1]))).set (h.nx+2) (.cells (stN (stN (stN zIn 0 [I 4]) 10 [I n1]) 11 [I n2])))=h_3 at*;refine⟨rfl,_,l_3,.plain λH=>?_⟩;exact(bO (bO (bO gq 0 _ (by decide)) 10 _ (by decide)) 11 _ (by decide)).frz H
theorem ZQ{h h1:AH}{s:Str}{t:PS}(hg:GJ h)(hs:s.length<=1000000)(hp:t.pos<=s.length)(hL:L3 h h1 (scC ⟨s,t⟩) (stN zIn 0 [I 5])):
  fy (tb lP) (.str s) (.ptr h.nx 0) (.ptr (h.nx+1) 0) (.ptr (h.nx+2) 0) (I 5) h1 (LMP h s (zz s t)):=by
 have h8:=hg.2;unfold zz;try simp only
 simp[fy];have l_1:=hL.new (h2:=h1.add (.cells (ie.map .str))) (by simp) λi hi=>by rw[az,amU (by omega)]
 have hcw:(h1.add (.cells (ie.map .str))).ab h1.nx=some (ie.map .str):=bd _ _ _ (by simp);obtain⟨kw,hkw⟩:∃kw,kw=h1.nx:=⟨_,rfl⟩;have hkn:=hL.nx;change tb lP 56 [.ptr (h.nx+1) 0,.rsl h1.nx 0 2 1] (h1.add (.cells (ie.map .str))) _
 rw[<-hkw]at hcw ⊢;rw[<-hkw]at hkn;generalize h1.add (.cells (ie.map .str))=h_1 at*;unfold lP;try simp[]
 have ale : -1<=bf s ie t/\bf s ie t<2:=⟨qD _ _,oz ie _⟩;refine zj (x:=⟨s,t⟩) (l:=ie) l_1.a (by have:=l_1.nx;omega) ⟨hs,hp⟩ ⟨.inr ⟨kw,rfl,by omega,hcw⟩,by decide⟩ ?_;have l_2:=l_1.cE (scC ⟨s,aL s ie t⟩);have p_2:=(eY s ie t hp).lt;try simp only at l_2 ⊢
 generalize h_1.set (h.nx+1) (.cells (scC ⟨s,aL s ie t⟩))=h_2 at*;generalize bf s ie t=o1 at*;generalize aL s ie t=t_2 at*;clear hcw hkw hkn kw;have hb:=l_2.b;have hnx:=l_2.nx;have hs0:fi (stN zIn 0 [I 5]) 12 [.bool (o1==1)]=some (stN (stN zIn 0 [I 5]) 12 [.bool (o1==1)]):=bz (show 12+1<=((stN zIn 0 [I 5])).length by rw[show((stN zIn 0 [I 5])).length=37 from rfl];decide);have l_3:=(l_2.st 12 [.bool (o1==1)] (by simp) rfl);simp[J8,hb,hs0];clear hb hnx hs0;have acm:(h_2.set (h.nx+2) (.cells (stN (stN zIn 0 [I 5]) 12 [.bool (o1==1)]))).nx=h_2.nx:=rfl;generalize(h_2.set (h.nx+2) (.cells (stN (stN zIn 0 [I 5]) 12 [.bool (o1==1)])))=h_3 at*;have l_4:=l_3.new (h2:=h_3.add (.cells (jE.map .str))) (by simp) λi hi=>by rw[az,amU (by omega)]
 have hcw:(h_3.add (.cells (jE.map .str))).ab h_3.nx=some (jE.map .str):=bd _ _ _ (by simp);obtain⟨kw,hkw⟩:∃kw,kw=h_3.nx:=⟨_,rfl⟩;have hkn:=l_3.nx;rw[<-acm];change tb lP 56 [.ptr (h.nx+1) 0,.rsl h_3.nx 0 2 1] (h_3.add (.cells (jE.map .str))) _
 rw[<-hkw]at hcw ⊢;rw[<-hkw]at hkn;generalize h_3.add (.cells (jE.map .str))=h_4 at*;have alb : -1<=bf s jE t_2/\bf s jE t_2<2:=⟨qD _ _,oz jE _⟩;refine zj (x:=⟨s,t_2⟩) (l:=jE) l_4.a (by have:=l_4.nx;omega) ⟨hs,p_2⟩ ⟨.inr ⟨kw,rfl,by omega,hcw⟩,by decide⟩ ?_;have l_5:=l_4.cE (scC ⟨s,aL s jE t_2⟩);have p_5:=(eY s jE t_2 p_2).lt;try simp only at l_5 ⊢
 generalize h_4.set (h.nx+1) (.cells (scC ⟨s,aL s jE t_2⟩))=h_5 at*;generalize bf s jE t_2=o2 at*;generalize aL s jE t_2=t_5 at*;clear hcw hkw hkn kw;have hb:=l_5.b;have hnx:=l_5.nx;have hs0:fi (stN (stN zIn 0 [I 5]) 12 [.bool (o1==1)]) 13 [.bool (o2==1)]=some (stN (stN (stN zIn 0 [I 5]) 12 [.bool (o1==1)]) 13 [.bool (o2==1)]):=bz (show 13+1<=((stN (stN zIn 0 [I 5]) 12 [.bool (o1==1)])).length by rw[show((stN (stN zIn 0 [I 5]) 12 [.bool (o1==1)])).length=37 from rfl];decide);have l_6:=(l_5.st 13 [.bool (o2==1)] (by simp) rfl);simp[L6,hb,hs0];clear hb hnx hs0;have aly:(h_5.set (h.nx+2) (.cells (stN (stN (stN zIn 0 [I 5]) 12 [.bool (o1==1)]) 13 [.bool (o2==1)]))).nx=h_5.nx:=rfl;generalize(h_5.set (h.nx+2) (.cells (stN (stN (stN zIn 0 [I 5]) 12 [.bool (o1==1)]) 13 [.bool (o2==1)])))=h_6 at*;refine kQ (x:=⟨s,t_5⟩) ⟨l_6.gj hg,by omega⟩ l_6.a (by have:=l_6.nx;omega) ⟨hs,p_5⟩ ?_;have l_7:=l_6.cE (scC ⟨s,bc s t_5⟩);have p_7:=(bD s t_5 p_5).lt;have agJ:=c_ s t_5;try simp only at l_7 ⊢
 generalize h_6.set (h.nx+1) (.cells (scC ⟨s,bc s t_5⟩))=h_7 at*;generalize cQ s t_5=n1 at*;generalize bc s t_5=t_7 at*;have hb:=l_7.b;have hnx:=l_7.nx;have hs0:fi (stN (stN (stN zIn 0 [I 5]) 12 [.bool (o1==1)]) 13 [.bool (o2==1)]) 14 [I n1]=some (stN (stN (stN (stN zIn 0 [I 5]) 12 [.bool (o1==1)]) 13 [.bool (o2==1)]) 14 [I n1]):=bz (show 14+1<=((stN (stN (stN zIn 0 [I 5]) 12 [.bool (o1==1)]) 13 [.bool (o2==1)])).length by rw[show((stN (stN (stN zIn 0 [I 5]) 12 [.bool (o1==1)]) 13 [.bool (o2==1)])).length=37 from rfl];decide);have l_8:=(l_7.st 14 [I n1] (by simp) rfl);simp[JM,hb,hs0];clear hb hnx hs0;have aiH:(h_7.set (h.nx+2) (.cells (stN (stN (stN (stN zIn 0 [I 5]) 12 [.bool (o1==1)]) 13 [.bool (o2==1)]) 14 [I n1]))).nx=h_7.nx:=rfl;generalize(h_7.set (h.nx+2) (.cells (stN (stN (stN (stN zIn 0 [I 5]) 12 [.bool (o1==1)]) 13 [.bool (o2==1)]) 14 [I n1])))=h_8 at*;refine⟨rfl,_,l_8,.plain λH=>?_⟩;exact(bO (((bO gq 0 _ (by decide)).st 12 [.bool _] (by simp) rfl λH=>Ah (.bool _)).st 13 [.bool _] (by simp) rfl λH=>Ah (.bool _)) 14 _ (by decide)).frz H
theorem aaT{h h1:AH}{s:Str}{t:PS}(hg:GJ h)(hs:s.length<=1000000)(hp:t.pos<=s.length)(hL:L3 h h1 (scC ⟨s,t⟩) (stN zIn 0 [I 6])):
  fy (tb lP) (.str s) (.ptr h.nx 0) (.ptr (h.nx+1) 0) (.ptr (h.nx+2) 0) (I 6) h1 (LMP h s (wT s t)):=by
 have h8:=hg.2;unfold wT;try simp only
 simp[fy];unfold lP;try simp[]
 refine aef (x:=⟨s,t⟩) ⟨hL.gj hg,by omega⟩ hL.a (by have:=hL.nx;omega) ⟨hs,hp⟩ ?_;have l_1:=hL.cE (scC ⟨s,(kL s t).2⟩);try simp only at l_1 ⊢
 generalize h1.set (h.nx+1) (.cells (scC ⟨s,(kL s t).2⟩))=h_1 at*;generalize kL s t=R at*;have hb:=l_1.b;have hnx:=l_1.nx;have hs0:fi (stN zIn 0 [I 6]) 15 [.psl (vCs R.1)]=some (stN (stN zIn 0 [I 6]) 15 [.psl (vCs R.1)]):=bz (show 15+1<=((stN zIn 0 [I 6])).length by rw[show((stN zIn 0 [I 6])).length=37 from rfl];decide);have l_2:=(l_1.st 15 [.psl (vCs R.1)] (by simp) rfl);simp[Jn,hb,hs0];clear hb hnx hs0;have acf:(h_1.set (h.nx+2) (.cells (stN (stN zIn 0 [I 6]) 15 [.psl (vCs R.1)]))).nx=h_1.nx:=rfl;generalize(h_1.set (h.nx+2) (.cells (stN (stN zIn 0 [I 6]) 15 [.psl (vCs R.1)])))=h_2 at*;refine⟨rfl,_,l_2,.plain λH=>?_⟩;exact((bO gq 0 _ (by decide)).st 15 [.psl _] (by simp) rfl λH=>Ah (rz _ H)).frz H
theorem aeR{h h1:AH}{s:Str}{t:PS}(hg:GJ h)(hs:s.length<=1000000)(hp:t.pos<=s.length)(hL:L3 h h1 (scC ⟨s,t⟩) (stN zIn 0 [I 7])):
  fy (tb lP) (.str s) (.ptr h.nx 0) (.ptr (h.nx+1) 0) (.ptr (h.nx+2) 0) (I 7) h1 (LMP h s (Dr s t)):=by
 have h8:=hg.2;unfold Dr;try simp only
 unfold VN;simp[fy];unfold lP;try simp[]
 simp[KJ];refine kQ (x:=⟨s,t⟩) ⟨hL.gj hg,by omega⟩ hL.a (by have:=hL.nx;omega) ⟨hs,hp⟩ ?_;have l_1:=hL.cE (scC ⟨s,bc s t⟩);have p_1:=(bD s t hp).lt;have agI:=c_ s t;try simp only at l_1 ⊢
 generalize h1.set (h.nx+1) (.cells (scC ⟨s,bc s t⟩))=h_1 at*;generalize cQ s t=n1 at*;generalize bc s t=t_1 at*;simp[Km];refine kQ (x:=⟨s,t_1⟩) ⟨l_1.gj hg,by omega⟩ l_1.a (by have:=l_1.nx;omega) ⟨hs,p_1⟩ ?_;have l_2:=l_1.cE (scC ⟨s,bc s t_1⟩);have p_2:=(bD s t_1 p_1).lt;have ajA:=c_ s t_1;try simp only at l_2 ⊢
 generalize h_1.set (h.nx+1) (.cells (scC ⟨s,bc s t_1⟩))=h_2 at*;generalize cQ s t_1=n2 at*;generalize bc s t_1=t_2 at*;have hb:=l_2.b;have hnx:=l_2.nx;have hs0:fi (stN zIn 0 [I 7]) 16 [I n1]=some (stN (stN zIn 0 [I 7]) 16 [I n1]):=bz (show 16+1<=((stN zIn 0 [I 7])).length by rw[show((stN zIn 0 [I 7])).length=37 from rfl];decide);have hs1:fi (stN (stN zIn 0 [I 7]) 16 [I n1]) 17 [I n2]=some (stN (stN (stN zIn 0 [I 7]) 16 [I n1]) 17 [I n2]):=bz (show 17+1<=((stN (stN zIn 0 [I 7]) 16 [I n1])).length by rw[show((stN (stN zIn 0 [I 7]) 16 [I n1])).length=37 from rfl];decide);have l_3:=((l_2.st 16 [I n1] (by simp) rfl).st 17 [I n2] (by simp) rfl);simp[Kq,hb,hs0,hs1];clear hb hnx hs0 hs1;have acm:((h_2.set (h.nx+2) (.cells (stN (stN zIn 0 [I 7]) 16 [I n1]))).set (h.nx+2) (.cells (stN (stN (stN zIn 0 [I 7]) 16 [I n1]) 17 [I n2]))).nx=h_2.nx:=rfl;generalize((h_2.set (h.nx+2) (.cells (stN (stN zIn 0 [I 7]) 16 [I n1]))).set (h.nx+2) (.cells (stN (stN (stN zIn 0 [I 7]) 16 [I n1]) 17 [I n2])))=h_3 at*;refine aea trivial ?_;simp[L8];have ak8 : -1<=bf s dI t_2/\bf s dI t_2<9:=⟨qD _ _,oz dI _⟩;refine zj (x:=⟨s,t_2⟩) (l:=dI) l_3.a (by have:=l_3.nx;omega) ⟨hs,p_2⟩ ⟨.inl rfl,by decide⟩ ?_;have l_4:=l_3.cE (scC ⟨s,aL s dI t_2⟩);have p_4:=(eY s dI t_2 p_2).lt;try simp only at l_4 ⊢
 generalize h_3.set (h.nx+1) (.cells (scC ⟨s,aL s dI t_2⟩))=h_4 at*;generalize bf s dI t_2=o at*;generalize aL s dI t_2=t_4 at*;have ho9 : -1<=o/\o<9:=by omega
 obtain⟨on,hon⟩:∃on:Nat,on=(max o 0).toNat:=⟨_,rfl⟩;have ajs:on<9:=by omega
 have hom:max 0 o=(on:Int):=by omega
 have hmm:∀h:AH,iy h true (I 0) (I o)=some (I on,h):=λh=>by rw[pB,hom]
 rw[<-hon];simp[K4];rw[hmm];simp[];rw[aen _ on ajs];generalize hP:(2:Int)^on=PP at*;have hb:=l_4.b;have hnx:=l_4.nx;have hs0:fi (stN (stN (stN zIn 0 [I 7]) 16 [I n1]) 17 [I n2]) 18 [I PP]=some (stN (stN (stN (stN zIn 0 [I 7]) 16 [I n1]) 17 [I n2]) 18 [I PP]):=bz (show 18+1<=((stN (stN (stN zIn 0 [I 7]) 16 [I n1]) 17 [I n2])).length by rw[show((stN (stN (stN zIn 0 [I 7]) 16 [I n1]) 17 [I n2])).length=37 from rfl];decide);have l_5:=(l_4.st 18 [I PP] (by simp) rfl);simp[hb,hs0];clear hb hnx hs0;have aln:(h_4.set (h.nx+2) (.cells (stN (stN (stN (stN zIn 0 [I 7]) 16 [I n1]) 17 [I n2]) 18 [I PP]))).nx=h_4.nx:=rfl;generalize(h_4.set (h.nx+2) (.cells (stN (stN (stN (stN zIn 0 [I 7]) 16 [I n1]) 17 [I n2]) 18 [I PP])))=h_5 at*;refine kQ (x:=⟨s,t_4⟩) ⟨l_5.gj hg,by omega⟩ l_5.a (by have:=l_5.nx;omega) ⟨hs,p_4⟩ ?_;have l_6:=l_5.cE (scC ⟨s,bc s t_4⟩);have p_6:=(bD s t_4 p_4).lt;have ai8:=c_ s t_4;try simp only at l_6 ⊢
 generalize h_5.set (h.nx+1) (.cells (scC ⟨s,bc s t_4⟩))=h_6 at*;generalize cQ s t_4=n4 at*;generalize bc s t_4=t_6 at*;simp[KX];refine kQ (x:=⟨s,t_6⟩) ⟨l_6.gj hg,by omega⟩ l_6.a (by have:=l_6.nx;omega) ⟨hs,p_6⟩ ?_;have l_7:=l_6.cE (scC ⟨s,bc s t_6⟩);have p_7:=(bD s t_6 p_6).lt;have agJ:=c_ s t_6;try simp only at l_7 ⊢
 generalize h_6.set (h.nx+1) (.cells (scC ⟨s,bc s t_6⟩))=h_7 at*;generalize cQ s t_6=n5 at*;generalize bc s t_6=t_7 at*;simp[KA];refine P1 (x:=⟨s,t_7⟩) ⟨l_7.gj hg,by omega⟩ l_7.a (by have:=l_7.nx;omega) ⟨hs,p_7⟩ ?_;have l_8:=l_7.cE (scC ⟨s,dW s t_7⟩);have p_8:=(iQ s t_7 p_7).lt;try simp only at l_8 ⊢
 generalize h_7.set (h.nx+1) (.cells (scC ⟨s,dW s t_7⟩))=h_8 at*;generalize iJ s t_7=T at*;generalize dW s t_7=t_8 at*;have hb:=l_8.b;have hnx:=l_8.nx;have hs0:fi (stN (stN (stN (stN zIn 0 [I 7]) 16 [I n1]) 17 [I n2]) 18 [I PP]) 19 [I n4]=some (stN (stN (stN (stN (stN zIn 0 [I 7]) 16 [I n1]) 17 [I n2]) 18 [I PP]) 19 [I n4]):=bz (show 19+1<=((stN (stN (stN (stN zIn 0 [I 7]) 16 [I n1]) 17 [I n2]) 18 [I PP])).length by rw[show((stN (stN (stN (stN zIn 0 [I 7]) 16 [I n1]) 17 [I n2]) 18 [I PP])).length=37 from rfl];decide);have hs1:fi (stN (stN (stN (stN (stN zIn 0 [I 7]) 16 [I n1]) 17 [I n2]) 18 [I PP]) 19 [I n4]) 20 [I n5]=some (stN (stN (stN (stN (stN (stN zIn 0 [I 7]) 16 [I n1]) 17 [I n2]) 18 [I PP]) 19 [I n4]) 20 [I n5]):=bz (show 20+1<=((stN (stN (stN (stN (stN zIn 0 [I 7]) 16 [I n1]) 17 [I n2]) 18 [I PP]) 19 [I n4])).length by rw[show((stN (stN (stN (stN (stN zIn 0 [I 7]) 16 [I n1]) 17 [I n2]) 18 [I PP]) 19 [I n4])).length=37 from rfl];decide);have hs2:fi (stN (stN (stN (stN (stN (stN zIn 0 [I 7]) 16 [I n1]) 17 [I n2]) 18 [I PP]) 19 [I n4]) 20 [I n5]) 21 [.str T]=some (stN (stN (stN (stN (stN (stN (stN zIn 0 [I 7]) 16 [I n1]) 17 [I n2]) 18 [I PP]) 19 [I n4]) 20 [I n5]) 21 [.str T]):=bz (show 21+1<=((stN (stN (stN (stN (stN (stN zIn 0 [I 7]) 16 [I n1]) 17 [I n2]) 18 [I PP]) 19 [I n4]) 20 [I n5])).length by rw[show((stN (stN (stN (stN (stN (stN zIn 0 [I 7]) 16 [I n1]) 17 [I n2]) 18 [I PP]) 19 [I n4]) 20 [I n5])).length=37 from rfl];decide);have l_9:=(((l_8.st 19 [I n4] (by simp) rfl).st 20 [I n5] (by simp) rfl).st 21 [.str T] (by simp) rfl)
 simp[J6,Lt,hb,hs0,hs1,hs2];clear hb hnx hs0 hs1 hs2;have alO:(((h_8.set (h.nx+2) (.cells (stN (stN (stN (stN (stN zIn 0 [I 7]) 16 [I n1]) 17 [I n2]) 18 [I PP]) 19 [I n4]))).set (h.nx+2) (.cells (stN (stN (stN (stN (stN (stN zIn 0 [I 7]) 16 [I n1]) 17 [I n2]) 18 [I PP]) 19 [I n4]) 20 [I n5]))).set (h.nx+2) (.cells (stN (stN (stN (stN (stN (stN (stN zIn 0 [I 7]) 16 [I n1]) 17 [I n2]) 18 [I PP]) 19 [I n4]) 20 [I n5]) 21 [.str T]))).nx=h_8.nx:=rfl;generalize(((h_8.set (h.nx+2) (.cells (stN (stN (stN (stN (stN zIn 0 [I 7]) 16 [I n1]) 17 [I n2]) 18 [I PP]) 19 [I n4]))).set (h.nx+2) (.cells (stN (stN (stN (stN (stN (stN zIn 0 [I 7]) 16 [I n1]) 17 [I n2]) 18 [I PP]) 19 [I n4]) 20 [I n5]))).set (h.nx+2) (.cells (stN (stN (stN (stN (stN (stN (stN zIn 0 [I 7]) 16 [I n1]) 17 [I n2]) 18 [I PP]) 19 [I n4]) 20 [I n5]) 21 [.str T])))=h_9 at*;refine⟨rfl,_,l_9,.plain λH=>?_⟩;exact((bO (bO (bO (bO (bO (bO gq 0 _ (by decide)) 16 _ (by decide)) 17 _ (by decide)) 18 _ (by decide)) 19 _ (by decide)) 20 _ (by decide)).st 21 [.str _] (by simp) rfl λH=>Ah (.str _)).frz H
theorem yQ(s:Str)(t:PS):dj (t_ (gC s t).1)=true:=by
 unfold t_ gC;simp only;split
 ·rfl
 ·split
  ·rfl
  ·rfl
theorem D8(s:Str)(t:PS):∀H:AH,ea H false (aqg (gC s t).1) (aqg (gC s t).1):=by
 have hr:∀(x:Str) (H:AH),Frz H false (.psl (nM x)) (.psl (nM x)):=λx H=>
  .psl rfl _ _ rfl (λi x y hx hy=>by rw[hx]at hy;cases hy;rfl) λi x' y j c d hx hy hc hd=>by
   rw[hx]at hy;cases hy;rw[hc]at hd;cases hd;obtain⟨n,_,rfl⟩:=an0.1 (am9 hx);match j with
   |0=>simp at hc;subst hc;exact .int _ _
   |j+1=>simp at hc
 have hcl:∀(l:List Int) (H:AH),Frz H false (.psl (oh l)) (.psl (oh l)):=λl H=>
  .psl rfl _ _ rfl (λi x y hx hy=>by rw[hx]at hy;cases hy;rfl) λi x' y j c d hx hy hc hd=>by
   rw[hx]at hy;cases hy;rw[hc]at hd;cases hd;exact zB l x' (am9 hx) H j c hc
 intro H;unfold aqg gC;simp only;split
 ·exact fp (hr _ H) .dX
 ·split
  ·exact fp (hr _ H) (hcl _ H)
  ·exact fp .dX .dX
theorem aeP{h h1:AH}{s:Str}{t:PS}(hg:GJ h)(hs:s.length<=1000000)(hp:t.pos<=s.length)(hL:L3 h h1 (scC ⟨s,t⟩) (stN zIn 0 [I 8])):
  fy (tb lP) (.str s) (.ptr h.nx 0) (.ptr (h.nx+1) 0) (.ptr (h.nx+2) 0) (I 8) h1 (LMP h s (aqg (gC s t).1,(gC s t).2)):=by
 have h8:=hg.2;simp[fy];unfold lP;simp[zJ];refine afN (x:=⟨s,t⟩) ⟨hL.gj hg,by omega⟩ hL.a (by have:=hL.nx;omega) ⟨hs,hp⟩ ?_;have l_1:=hL.cE (scC ⟨s,(gC s t).2⟩);simp only at l_1 ⊢;have hz:=D8 s t;have ho:=yQ s t;generalize h1.set (h.nx+1) (.cells (scC ⟨s,(gC s t).2⟩))=h2 at*;generalize gC s t=X at*;obtain⟨x,t2⟩:=X;simp only at*;have hb:=l_1.b;have ajk:(t_ x).length=15:=rfl;have hs0:fi (stN zIn 0 [I 8]) 22 (t_ x)=some (stN (stN zIn 0 [I 8]) 22 (t_ x)):=bz (show 22+15<=(stN zIn 0 [I 8]).length by decide);have l_2:=l_1.st 22 (t_ x) (show 22+15<=37 by decide) ho;simp[hb,ajk,ho,hs0];exact⟨rfl,_,l_2,.plain λH=>hz H⟩
theorem aac{h h1:AH}{s:Str}{t:PS}(hL:L3 h h1 (scC ⟨s,t⟩) (stN zIn 0 [I 0])):
  fy (tb lP) (.str s) (.ptr h.nx 0) (.ptr (h.nx+1) 0) (.ptr (h.nx+2) 0) (I 0) h1 (LMP h s (zIn,t)):=by
 simp[fy];simp[zJ];exact⟨rfl,_,hL,.plain ja⟩
theorem aeQ{h h1:AH}{s:Str}{t:PS}{k:Int}{X:List AV×PS}(hk : -1<=k/\k<8)(hX:X=if k=0 then Na s t else if k=1 then FK s t else if k=2 then yp s t else if k=3 then yA s t else if k=4 then zz s t
 else if k=5 then wT s t else if k=6 then Dr s t else if k=7 then(aqg (gC s t).1,(gC s t).2)else(zIn,t)) (hg:GJ h) (hs:s.length<=1000000) (hp:t.pos<=s.length) (hL:L3 h h1 (scC ⟨s,t⟩) (stN zIn 0 [I (1+k)])):
  fy (tb lP) (.str s) (.ptr h.nx 0) (.ptr (h.nx+1) 0) (.ptr (h.nx+2) 0) (I (1+k)) h1 (LMP h s X):=by
 subst hX;have:k = -1\/k=0\/k=1\/k=2\/k=3\/k=4\/k=5\/k=6\/k=7:=by omega
 rcases this with rfl|rfl|rfl|rfl|rfl|rfl|rfl|rfl|rfl
 ·exact aac hL
 ·exact afb hg hs hp hL
 ·exact afL hg hs hp hL
 ·exact Zp hg hs hp hL
 ·exact aas hg hs hp hL
 ·exact ZQ hg hs hp hL
 ·exact aaT hg hs hp hL
 ·exact aeR hg hs hp hL
 ·exact aeP hg hs hp hL
theorem Wz(h:AH)(s:Str)(hg:GJ h)(hs:s.length<=1000000):aK prog 27 [.str s] h (.tup [.agg (iM s).1,.bool (nj s)]) h:=by
 refine aZ (R:=λv h'=>Frz (fresh h' h.nx) false v (.tup [.agg (iM s).1,.bool (nj s)])/\h.nx<=h'.nx/\∀i,i<h.nx->h'.H.get i=h.H.get i) (C27 (aW lP) ?_) λv' h' h1=>h1
 have h8:=hg.2;simp[g27];have hL0:L3 h ((((h.add (.cells zIn)).add (.cells (scC ⟨s,⟨0,true,true⟩⟩))).add (.cells zIn)).add (.cells (cF.map .str))) (scC ⟨s,⟨0,true,true⟩⟩) zIn:=by
  refine⟨?_,?_,?_,by simp,λi hi=>?_,rfl,rfl⟩
  ·rw[aC _ _ _ (by simp;omega),aC _ _ _ (by simp;omega),aC _ _ _ (by simp)];exact bd _ _ _ rfl
  ·rw[aC _ _ _ (by simp),aC _ _ _ (by simp)];exact bd _ _ _ (by simp)
  ·rw[aC _ _ _ (by simp)];exact bd _ _ _ (by simp)
  ·rw[az,amU (by simp;omega),az,amU (by simp;omega),az,amU (by simp;omega),az,amU (by omega)]
 have hcw:((((h.add (.cells zIn)).add (.cells (scC ⟨s,⟨0,true,true⟩⟩))).add (.cells zIn)).add (.cells (cF.map .str))).ab (h.nx+3)=some (cF.map .str):=bd _ _ _ (by simp);change tb lP 56 [.ptr (h.nx+1) 0,.rsl (h.nx+3) 0 8 1] ((((h.add (.cells zIn)).add (.cells (scC ⟨s,⟨0,true,true⟩⟩))).add (.cells zIn)).add (.cells (cF.map .str))) (λv h_1=>Bu (tb lP) (.str s) (.ptr h.nx 0) (.ptr (h.nx+1) 0) (.ptr (h.nx+2) 0) v h_1 _)
 generalize(((h.add (.cells zIn)).add (.cells (scC ⟨s,⟨0,true,true⟩⟩))).add (.cells zIn)).add (.cells (cF.map .str))=h1 at*;refine zj (x:=⟨s,⟨0,true,true⟩⟩) (l:=cF) hL0.a (by have:=hL0.nx;omega) ⟨hs,by simp⟩ ⟨.inr ⟨h.nx+3,rfl,by omega,hcw⟩,by decide⟩ ?_;have hkb : -1<=bf s cF ⟨0,true,true⟩/\bf s cF ⟨0,true,true⟩<8:=⟨qD _ _,oz cF _⟩;have hpl:=(eY s cF ⟨0,true,true⟩ (by simp)).lt;have hL1:=hL0.cE (scC ⟨s,aL s cF ⟨0,true,true⟩⟩);have hX:iM s=iM s:=rfl;conv at hX=>rhs;unfold iM
 simp only at hL1 hX ⊢;generalize h1.set (h.nx+1) (.cells (scC ⟨s,aL s cF ⟨0,true,true⟩⟩))=h2 at*;generalize bf s cF ⟨0,true,true⟩=k at*;generalize aL s cF ⟨0,true,true⟩=t at*;have hb:=hL1.b;have hs0:fi zIn 0 [I (1+k)]=some (stN zIn 0 [I (1+k)]):=bz (show 0+1<=zIn.length by decide);have l_2:=hL1.st 0 [I (1+k)] (by simp) rfl;have hg0:(stN zIn 0 [I (1+k)])[0]?=some (I (1+k)):=rfl;have hge:∀hx:0<(stN zIn 0 [I (1+k)]).length,(stN zIn 0 [I (1+k)])[0]'hx=I (1+k):=λ_=>rfl
 simp(disch:=first|go_size|fail)[Bu,hb,hs0,hg0];generalize h2.set (h.nx+2) (.cells (stN zIn 0 [I (1+k)]))=h3 at*;refine⟨LMP h s (iM s),aeQ hkb hX hg hs hpl l_2,?_⟩;unfold nj;clear hX;generalize iM s=LL at*;obtain⟨cs,u⟩:=LL;rintro vs h4 ⟨rfl,c2,hL,hF⟩;simp only at hL hF ⊢;have hn:=hL.nx;have ha:h4.ab (h.nx+1)=some [.str s,I u.pos,.bool u.first,.bool u.ok]:=hL.a;have hb:=hL.b;have hr:=hL.r;have fk:cut c2 0 37=some c2:=by
  have:=aM (α:=c2) (b:=[]) (n:=37) hL.len;rwa [am5]at this
 have iC:=hL.one;have hlen:=hL.len;have xY:fi zIn 0 c2=some c2:=dG (by rw[hlen];rfl);have pY:∀(b:Bool),b=(u.ok&&decide (u.pos=s.length))->Frz (fresh ((AH.mk h4.H (h4.nx+16)).set h.nx (.cells c2)) h.nx) false (.tup [.agg c2,.bool b]) (.tup [.agg cs,.bool (u.ok&&decide (u.pos=s.length))])/\h.nx<=((AH.mk h4.H (h4.nx+16)).set h.nx (.cells c2)).nx/\∀i,i<h.nx->((AH.mk h4.H (h4.nx+16)).set h.nx (.cells c2)).H.get i=h.H.get i:=λb hb=>by
  subst hb;refine⟨gP (vj (hF _ (by simp) λi h1 h2=>by rw[au,amU (by omega)])) (.bool _),by simp;omega,λi hi=>?_⟩;rw[au,amU (by omega)];exact hL.get i hi
 have CW:decide ((u.pos:Int)=s.length)=decide (u.pos=s.length):=by rw[decide_eq_decide];omega
 have mj:aU (.read (h.nx+1)) (.eff (AH.mk h4.H (h4.nx+16)) ((AH.mk h4.H (h4.nx+16)).set h.nx (.cells c2)))=true:=cP _ _ _ _ (by omega);have hFF:ea (fresh ((AH.mk h4.H (h4.nx+16)).set h.nx (.cells c2)) h.nx) false c2 cs:=hF _ (by simp) λi h1 h2=>by rw[au,amU (by omega)]
 cases hok:u.ok
 ·rw[hok]at ha pY;have hz:=pY false (by simp);simp[HY,hb,ha,fk];simp[Ae,hlen,iC,hr,xY,fk];exact⟨hFF,by omega,hz.2.2⟩
 ·rw[hok]at ha pY;have hz:=pY (decide (u.pos=s.length)) (by simp);simp[HY,hb,ha,fk];simp[Ae,hlen,iC,hr,xY,fk,ha];exact⟨⟨hFF,CW⟩,by omega,hz.2.2⟩
def e27:QE prog:=QE.fn 27 GJ (fun(s:Str)=>[.str s]) (fun(s:Str)(h:AH)=>s.length<=1000000) (fun(s:Str)=>.tup [.agg (iM s).1,.bool (nj s)]) (λh s hj hx=>Wz h s hj hx)
theorem aeZ{tl h}(s:Str){Q:QT}(hj:GJ h)(hx:s.length<=1000000)(hq:Q (.tup [.agg (iM s).1,.bool (nj s)]) h):tb (e27::tl) 27 [.str s] h Q:=aV s hj hx hq
@[simp ↓] theorem aBt:TbT e27 27:=aH e27
theorem Lw:∀s:Str,Lib.index s [10]=if(s.takeWhile (· != 10)).length<s.length then((s.takeWhile (· != 10)).length:Int)else -1
 |[]=>rfl
 |b::l=>by
  have ih:=Lw l;have hle:=mD (· != 10) l;unfold Lib.index;by_cases hb:b=10
  ·subst hb;simp
  ·have h1:(List.isPrefixOf [10] (b::l))=false:=by
    simp[List.isPrefixOf,Ne.symm hb]
   have h2:(b::l).takeWhile (· != 10)=b::l.takeWhile (· != 10):=by
    rw[aof (by simpa using hb)]
   rw[h1,h2,ih];simp only[am6,am7,ans];by_cases hlt:(l.takeWhile (· != 10)).length<l.length
   ·rw[am1 hlt,am1 (show(l.takeWhile (· != 10)).length+1<l.length+1 by omega)];have:¬(((l.takeWhile (· != 10)).length:Int) == -1)=true:=by simp
    rw[amU this];simp
   ·rw[amU hlt,amU (show ¬(l.takeWhile (· != 10)).length+1<l.length+1 by omega)];rfl
def fC(s:Str):Str:=s.takeWhile (· != 10)
theorem aft:Fex prog 89:=⟨_,func89,rfl,by decide⟩
theorem Oh:∀s:Str,Lib.indexByte s 10=if(fC s).length<s.length then((fC s).length:Int)else -1:=by
 intro s;rw[<-Lib.index_one];exact Lw s
theorem Xg(h:AH)(s:Str)(_:True):aK prog 89 [.str s,.str [10]] h (I (if(fC s).length<s.length then((fC s).length:Int)else -1)) h:=by
 refine aK.lib aft λown β wd cS hs hR=>?_
 have:=wF hR;subst this;refine(mH ⟨s.toArray⟩ 10 wd).mono ?_;rintro e w' ⟨rfl,rfl⟩;have e1:Lib.indexByte (⟨s.toArray⟩:ByteArray).data.toList 10=if(fC s).length<s.length then((fC s).length:Int)else -1:=Oh s
 rw[e1];exact⟨_,rfl,.int _ _,Below.refl _ _⟩
def e89:QE prog:=QE.fn 89 (λ_=>True) (fun(s:Str)=>[.str s,.str [10]]) (fun(s:Str)(h:AH)=>True) (fun(s:Str)=>I (if(fC s).length<s.length then((fC s).length:Int)else -1)) (λh s hj hx=>Xg h s hx)
theorem ad5{tl h}(s:Str){Q:QT}(hx:True)(hq:Q (I (if(fC s).length<s.length then((fC s).length:Int)else -1)) h):tb (e89::tl) 89 [.str s,.str [10]] h Q:=aV s trivial hx hq
theorem Ri(s:Str):(fC s).length<=s.length:=mD (· != 10) s
theorem DG(s:Str):s.take (fC s).length=fC s:=by
 obtain⟨r,h1,_⟩:=lO (· != 10) s;have h2:s=fC s++r:=h1;conv=>lhs;rw[h2]
 rw[<-h2];conv=>lhs;arg 2;rw[h2]
 rw[List.take_left' rfl]
theorem Ua{s:Str}(h:¬(fC s).length<s.length):fC s=s:=by
 have h1:=DG s;have h2:=Ri s;rw[anc (by omega)]at h1;exact h1.symm
theorem yX{H:AH}{a b c:AV}(h1:Frz H false a a)(h2:Frz H false b b)(h3:Frz H false c c):Frz H false (.tup [a,b,c]) (.tup [a,b,c]):=aqs h1 h2 h3
def E6(s:Str):AV:=.tup [.str (fC s),.str (s.drop ((fC s).length+1)),.bool (decide ((fC s).length<s.length))]
theorem Vm(h:AH)(s:Str)(hw:s.length<=1000000):aK prog 55 [.str s,.str [10]] h (E6 s) h:=by
 refine aZ (R:=λv h'=>v=E6 s/\h.nx<=h'.nx/\∀i,i<h.nx->h'.H.get i=h.H.get i) (C55 (aW [e89]) ?_) λv' h' ⟨h1,h2⟩=>⟨by rw[h1];exact yX (.str _) (.str _) (.bool _),h2⟩
 have hle:=Ri s;have htk:=DG s;unfold E6;simp[g55];refine ad5 s trivial ?_;by_cases hlt:(fC s).length<s.length
 ·rw[am1 hlt,anA hlt];have s1:=λh=>Cq (h:=h) (s:=s) (b:=(fC s).length) (by omega)
  have s2:∀h:AH,gI h (.str s) (some (I (((fC s).length:Int)+1))) none=some (.str (s.drop ((fC s).length+1)),h):=λh=>pL (h:=h) (s:=s) (a:=(fC s).length+1) (by omega)
  rw[htk]at s1;generalize(fC s)=c at*;simp[s1];simp(disch:=first|go_size|fail)[Q6,s2]
 ·rw[amU hlt,anw hlt];have hf:=Ua hlt;have hd:s.drop ((fC s).length+1)=[]:=anf (by omega);rw[hd,hf];simp[]
def e55:QE prog:=QE.fn 55 (λ_=>True) (fun(s:Str)=>[.str s,.str [10]]) (fun(s:Str)(h:AH)=>s.length<=1000000) (fun(s:Str)=>E6 s) (λh s hj hx=>Vm h s hx)
theorem adC{tl h}(s:Str){Q:QT}(hx:s.length<=1000000)(hq:Q (E6 s) h):tb (e55::tl) 55 [.str s,.str [10]] h Q:=aV s trivial hx hq
theorem adu(h:AH)(s:Str)(hg:GJ h)(hw:s.length<=1000000):aK prog 26 [.str s,.str [10]] h (.tup [.str (fC s),.str (s.drop ((fC s).length+1)),.bool (decide ((fC s).length<s.length))]) h:=by
 refine aZ (R:=λv h'=>v=E6 s/\h'=h) (C26 (aW [e55]) ?_) λv' h' ⟨h1,h2⟩=>⟨by rw[h1];exact yX (.str _) (.str _) (.bool _),by rw[h2];exact⟨amY _,λ_ _=>rfl⟩⟩
 simp[g26];refine adC s hw ?_;unfold E6;simp[O3]
def e26:QE prog:=QE.fn 26 GJ (fun(s:Str)=>[.str s,.str [10]]) (fun(s:Str)(h:AH)=>s.length<=1000000) (fun(s:Str)=>.tup [.str (fC s),.str (s.drop ((fC s).length+1)),.bool (decide ((fC s).length<s.length))]) (λh s hj hx=>adu h s hj hx)
theorem adG{tl h}(s:Str){Q:QT}(hj:GJ h)(hx:s.length<=1000000)(hq:Q (.tup [.str (fC s),.str (s.drop ((fC s).length+1)),.bool (decide ((fC s).length<s.length))]) h):tb (e26::tl) 26 [.str s,.str [10]] h Q:=aV s hj hx hq
@[simp ↓] theorem aj4:TbT e26 26:=aH e26
theorem Nj(s:Str):Cel (iM s).1:=by
 unfold iM;simp only;generalize aL s cF ⟨0,true,true⟩=t at*;generalize bf s cF ⟨0,true,true⟩=k at*;split
 ·exact gq.st 0 [I _,I _,I _,I _,I _,I _,I _] (by simp) rfl λH=>⟨.int _ _,.int _ _,.int _ _,.int _ _,.int _ _,.int _ _,.int _ _,trivial⟩
 split
 ·obtain⟨ka,kb,ace⟩:∃ka kb:Int,tV s t=[I ka,I kb]:=by unfold tV;split<;>exact⟨_,_,rfl⟩
  unfold FK;rw[ace];exact bO ((bO gq 0 _ (by decide)).st 7 [I _,I _] (by simp) rfl λH=>⟨.int _ _,.int _ _,trivial⟩) 9 _ (by decide)
 split
 ·exact bO (bO gq 0 _ (by decide)) 9 _ (by decide)
 split
 ·exact bO (bO (bO gq 0 _ (by decide)) 10 _ (by decide)) 11 _ (by decide)
 split
 ·exact bO ((bO gq 0 _ (by decide)).st 12 [.bool _,.bool _,I 0] (by simp) rfl λH=>⟨.bool _,.bool _,.int _ _,trivial⟩) 14 _ (by decide)
 split
 ·exact(bO gq 0 _ (by decide)).st 15 _ (by simp) rfl λH=>Ah (rz _ H)
 split
 ·exact(bO (bO (bO (bO (bO (bO gq 0 _ (by decide)) 16 _ (by decide)) 17 _ (by decide)) 18 _ (by decide)) 19 _ (by decide)) 20 _ (by decide)).st 21 _ (by simp) rfl λH=>Ah (.str _)
 split
 ·refine⟨rfl,?_,D8 _ _⟩;have h1:=yQ s t;have h2:aqg (gC s t).1=stN (stN zIn 0 [I 8]) 22 (t_ (gC s t).1):=rfl;rw[h2];exact wH rfl h1
 ·exact gq
theorem RP.gj{h h':AH}{lv:AV}{out:List (LA)}(p:RP h h' lv out)(hg:GJ h):GJ h':=
 have h8:=hg.2;hg.me (λi hi=>p.get i (by omega)) p.nx
inductive QI(h:AH)(R:Option (List (List AV))×Nat×Int):Nat->List AV->AH->Prop
 |mk {h':AH} (n:Nat) (s:Str) (lv:AV) (out:List (LA)) (hP:RP h h' lv out) (hs:s.length<=1000000) (hn:s.length<=n) (hq:prs (λl=>(iM l).1) nj n s out=R) (hol:out.length<=200):QI h R s.length [.str s,lv] h'
theorem VO(h:AH)(s:Str)(hg:GJ h)(hs:s.length<=1000000):aK prog 12 [.str s] h (yk (qG s)) h:=by
 refine aZ (R:=λv h'=>Frz (fresh h' h.nx) false v (yk (qG s))/\h.nx<=h'.nx/\∀i,i<h.nx->h'.H.get i=h.H.get i) (C12 (aW [e26,e27]) ?_) λv' h' h1=>h1
 unfold qG;generalize hR:prs (λl=>(iM l).1) nj s.length s []=R;simp[g12];refine⟨QI h R,s.length,?_,?_⟩
 ·exact .mk s.length s .aa [] ⟨OL.start _ _ _,amY _,λ_ _=>rfl,by simp⟩ hs (amY _) hR (by simp)
 ·rintro m vs h' hI;cases hI with
  |mk n s lv out hP hs hn hq hol=>
  have hlen:=xn hP.ol;by_cases hse:s=[]
  ·subst hse;have hq2:R=(some out,out.length,0):=by
    rw[<-hq];cases n with
    |zero=>rfl
    |succ n=>unfold prs;rw[am1 rfl]
   subst hq2;simp[Iq];simp[Cl];simp[Ft,hlen];exact⟨aqs (avC hP.cel hP.ol (amY _)) (.int _ _) (.int _ _),hP.nx,hP.get⟩
  ·have ot:=anI.2 hse;obtain⟨n,rfl⟩:∃k,n=k+1:=⟨n-1,by omega⟩;unfold prs at hq;rw[amU hse]at hq;simp[Iq,hse];refine adG s (hP.gj hg) hs ?_;have hcl:(fC s).length<=s.length:=mD (· != 10) s;have hdl:(s.drop ((fC s).length+1)).length=s.length-((fC s).length+1):=am3;have hcT:s.takeWhile (· != 10)=fC s:=rfl;rw[hcT]at hq;generalize fC s=w at*;by_cases h2:200<=out.length
   ·rw[am1 h2]at hq;subst hq;have h2':(200:Int)<=out.length:=by omega
    simp[Ii,hlen,h2'];simp[Cl];exact⟨aqs .aa (.int _ _) (.int _ _),hP.nx,hP.get⟩
   ·rw[amU h2]at hq;have h2':¬(200:Int)<=out.length:=by omega
    simp[Ii,hlen,h2'];refine aeZ w (hP.gj hg) (by omega) ?_;have lr:=Nj w;generalize(iM w).1=cells at*;have xY:fi [I 0,I 0,I 0,I 0,I 0,I 0,I 0,I 0,I 0,I 0,I 0,I 0,.bool false,.bool false,I 0,.aa,I 0,I 0,I 0,I 0,I 0,.str [],I 0,.aa,.aa,.aa,I 0,I 0,.bool false,I 0,I 0,I 0,I 0,I 0,I 0,.aa,I 0] 0 cells=some cells:=dG (by rw[lr.len];rfl);have haf:bW [I 0,I 0,I 0,I 0,I 0,I 0,I 0,I 0,I 0,I 0,I 0,I 0,.bool false,.bool false,I 0,.aa,I 0,I 0,I 0,I 0,I 0,.str [],I 0,.aa,.aa,.aa,I 0,I 0,.bool false,I 0,I 0,I 0,I 0,I 0,I 0,.aa,I 0] [(0,37,.agg cells)]=some cells:=aeI lr.len lr.one rfl;have abZ:cut cells 0 37=some cells:=by
     have:=aM (α:=cells) (b:=[]) (n:=37) lr.len;rwa [am5]at this
    have EW:=lr.len;have XG:=lr.one;have hn0:=hP.nx;have hg2:∀i,i<h'.nx->((h'.add (.cells zIn)).set h'.nx (.cells cells)).H.get i=h'.H.get i:=λi hi=>by rw[au,amU (by omega),az,amU (by omega)]
    have hP2:RP h ((h'.add (.cells zIn)).set h'.nx (.cells cells)) lv out:=⟨hP.ol.du (by simp) λi _ hi=>hg2 i hi,by simp;omega,λi hi=>by rw[hg2 i (by omega)];exact hP.get i hi,hP.cel⟩;have hn2:((h'.add (.cells zIn)).set h'.nx (.cells cells)).nx=h'.nx+1:=by simp
    have hk9:((h'.add (.cells zIn)).set h'.nx (.cells cells)).ab h'.nx=some cells:=eD _ _ _ _ rfl;simp[N_,EW,XG,xY];change aI (BW _ lv (.str (s.drop (w.length+1))) (.bool (decide (w.length<s.length))) (.ptr h'.nx 0) (.bool (nj w)) ((h'.add (.cells zIn)).set h'.nx (.cells cells))) _
    obtain⟨k9,ajW⟩:∃k9,k9=h'.nx:=⟨_,rfl⟩;rw[<-ajW]at hk9 hP2 hn2 ⊢;generalize(h'.add (.cells zIn)).set k9 (.cells cells)=h5 at*;refine⟨λvs h6=>vs=[lv,.str (s.drop (w.length+1)),.ptr k9 0,.bool (!(nj w) || !(decide (w.length<s.length)))]/\h6=h5,?_,?_⟩
    ·cases hok:nj w
     ·simp[BW]
     ·simp[BW]
    ·rintro vs h6 ⟨rfl,rfl⟩;by_cases hgo:nj w=true/\w.length<s.length
     ·rw[am1 hgo]at hq;obtain⟨lv',h3,hk3,ho3,hn3,hg3⟩:=mI (bytes:=376) (tc:=cells) hP2.ol hP2.nx lr.len lr.one (by omega) (by omega);have ab8:dK (h6.add (.cells cells)) 37 376 lv (.rsl h6.nx 0 1 37)=some (lv',h3):=hk3;simp[Gk,hgo,hk9,abZ,haf];rw[ab8];have hP3:RP h h3 lv' (out++[cells]):=by
       refine⟨?_,by omega,λi hi=>by rw[hg3 i hi];exact hP2.get i hi,?_⟩
       ·rw[amX,am2,List.flatten_append];simpa using ho3
       ·intro y hy;rcases anP.1 hy with hy|hy
        ·exact hP.cel y hy
        ·rw[anQ.1 hy];exact lr
      simp[];exact⟨(s.drop (w.length+1)).length,by omega,.mk n _ lv' (out++[cells]) hP3 (by omega) (by omega) hq (by rw[amX,am2];omega)⟩
     ·rw[amU hgo]at hq;subst hq;have hb:(!(nj w) || !(decide (w.length<s.length)))=true:=by
       cases hok:nj w
       ·rfl
       ·have:¬w.length<s.length:=λe=>hgo ⟨hok,e⟩
        simp[this]
      rw[hb];simp[Gk,hlen];simp[Cl];exact⟨aqs .aa (.int _ _) (.int _ _),hP2.nx,hP2.get⟩
def e12:QE prog:=QE.fn 12 GJ (fun(s:Str)=>[.str s]) (fun(s:Str)(h:AH)=>s.length<=1000000) (fun(s:Str)=>yk (qG s)) (λh s hj hx=>VO h s hj hx)
theorem XU{tl h}(s:Str){Q:QT}(hj:GJ h)(hx:s.length<=1000000)(hq:Q (yk (qG s)) h):tb (e12::tl) 12 [.str s] h Q:=aV s hj hx hq
@[simp ↓] theorem akx:TbT e12 12:=aH e12
