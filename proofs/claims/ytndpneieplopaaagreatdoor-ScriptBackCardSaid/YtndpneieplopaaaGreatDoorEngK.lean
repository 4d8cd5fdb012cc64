/- Each abstract operation stands for the model's operation: parts, indices, slices, append, copy, make. -/
import Derived.Test.YtndpneieplopaaaGreatDoorEngF
import Derived.Laws.MakeOwn
import Derived.MapKept
import Derived.ChangeKeysEq
import Derived.Laws.Cover4
import Derived.Laws.IdiomStrings
import Derived.Laws.BytesArg
set_option linter.unusedSimpArgs false
set_option linter.unusedVariables false
noncomputable section
namespace Go.Eng
section
variable {P:Program} {hp:Array Obj} {L:Nat->Prop} {β:Bl} {w:World}
theorem VR.Mv{as:List AV}{cv:Value}(h:VR hp L β (.agg as) cv):∃vs:Array Value,cv =.agg vs/\RL hp L β as vs.toList:=by
 cases h;rename_i vs hl h;exact⟨vs,rfl,by simpa using hl,λi c v hc hv=>h i c v hc (by simpa using hv)⟩
theorem VR.Mu{as:List AV}{cv:Value}(h:VR hp L β (.tup as) cv):∃vs:Array Value,cv =.tuple vs/\RL hp L β as vs.toList:=by
 cases h;rename_i vs hl h;exact⟨vs,rfl,by simpa using hl,λi c v hc hv=>h i c v hc (by simpa using hv)⟩
theorem mS{n j:Nat}{v:AV}(h:aix n v=some j):∃k i,v =.int k i/\0<=i/\i<n/\j=i.toNat:=by
 unfold aix at h;cases v<;>simp only[oc]at h<;>try cases h
 rename_i k i;split at h
 ·rename_i hi;cases h;exact⟨k,i,rfl,hi.1,hi.2,rfl⟩
 ·cases h
theorem Dc{off:Nat}{x v:AV}{cx:Value}(hx:VR hp L β x cx)(h:n9 off x=some v):∃b o,cx =.pointer (some ⟨b,o,none⟩)/\VR hp L β v (.pointer (some ⟨b,o+off,none⟩)):=by
 cases hx<;>simp only[n9]at h<;>try cases h
 case fY.refl g o=>exact⟨g,o,rfl,.fY g (o+off)⟩
 case ptr id o b base hb=>exact⟨b,base+o,rfl,by rw[aoA];exact .ptr _ _ _ _ hb⟩
 case lz cs b o cur e fz hb hL hs hr=>
  split at h
  ·cases h;exact⟨b,o,rfl,.lz _ b (o+off) cur e fz hb hL (by simp;omega) λi c v hc hv=>hr (off+i) c v (by rwa [anl]at hc) (by rw[<-hv];congr 1;omega)⟩
  ·cases h
theorem NI{s:TypeId}{fs:Array Field}{f n:Nat}{g:Field}{x v:AV}{cx:Value}(hu:P.underlying s=some (.struct fs))(hg:fs[f]?=some g)(hsz:jI P g.type=some n)(hn:n≠0)(hx:VR hp L β x cx)(h:n9 g.offset x=some v):
  ∃cv,(Instr.fieldAt s cx f).run P w =.ok cv w/\VR hp L β v cv:=by
 obtain⟨b,o,rfl,hv⟩:=Dc hx h;refine⟨_,?_,hv⟩;simp[Instr.fieldAt,anq,anJ hu,hg,Instr.sureAddr,fieldPlace,gh hsz,hn,jl]
theorem G8{t e:TypeId}{n z j:Nat}{x i v:AV}{cx ci:Value}(hu:P.underlying t=some (.array n e))(hsz:jI P e=some z)(hx:VR hp L β x cx)(hi:VR hp L β i ci)(hj:aix n i=some j)(h:n9 (j*z) x=some v):
  ∃cv,(Instr.indexAt t cx ci).run P w =.ok cv w/\VR hp L β v cv:=by
 obtain⟨k,m,rfl,h1,h2,rfl⟩:=mS hj;cases hi;obtain⟨b,o,rfl,hv⟩:=Dc hx h;refine⟨_,?_,hv⟩;simp[Instr.indexAt,asIntOf,Instr.sureAddr,anq,anJ hu,gh hsz,jl,h1,h2]
theorem Xd{t e:TypeId}{z:Nat}{x i v:AV}{cx ci:Value}(hu:P.underlying t=some (.slice e))(hsz:jI P e=some z)(hx:VR hp L β x cx)(hi:VR hp L β i ci)(h:yF z x i=some v):
  ∃cv,(Instr.indexAt t cx ci).run P w =.ok cv w/\VR hp L β v cv:=by
 cases hx<;>simp only[yF]at h<;>try cases h
 case jS a cap=>
  split at h
  ·rename_i hq;obtain⟨_,_,_,h1,h2,_⟩:=mS hq;simp at h2;omega
  ·cases h
 case psl xs z' b o cap cur e' fz hb hL hs hz hc hr=>
  cases hj:aix xs.length i with
  |none=>simp[hj]at h
  |some j=>
   obtain⟨k,n,rfl,h1,h2,rfl⟩:=mS hj;simp only[hj]at h;cases hi;cases hq:xs[n.toNat]? with
   |none=>simp[hq]at h
   |some c=>
    simp only[hq]at h;split at h
    ·rename_i hcl;cases h;have hz':z'=z:=by rw[<-hz _ _ hq];exact hcl
     subst hz';have hlt:n.toNat<xs.length:=(amV.1 hq).1;refine⟨.pointer (some ⟨b,o+n.toNat*z',none⟩),?_,?_⟩
     ·simp[Instr.indexAt,asIntOf,anq,anJ hu,gh hsz,jl,h1,h2]
     ·have hmul:(n.toNat+1)*z'<=xs.length*z':=anS _ hlt;rw[anY,aoH]at hmul;exact .lz c b _ cur e' fz hb hL (by omega) λj c' v hc' hv=>hr n.toNat c j c' v hq hc' hv
    ·cases h
 case rsl id off len z' b base cap cur e' fz hβ hb hc hm hs=>
  split at h
  ·rename_i hz;subst hz;cases hj:aix len i with
   |none=>simp[hj]at h
   |some j=>
    obtain⟨k,n,rfl,h1,h2,rfl⟩:=mS hj;simp only[hj]at h;cases h;cases hi;refine⟨.pointer (some ⟨b,base+(off+n.toNat*z'),none⟩),?_,.ptr _ _ _ _ hβ⟩;simp[Instr.indexAt,asIntOf,anq,anJ hu,gh hsz,jl,h1,h2,aoA]
  ·cases h
 case nQ id off z' b base o hβ=>
  split at h
  ·split at h
   ·rename_i hq;obtain⟨_,_,_,h1,h2,_⟩:=mS hq;omega
   ·cases h
  ·cases h
theorem Xi{t:TypeId}{s:List UInt8}{j:Nat}{c:UInt8}{i:AV}{ci:Value}(hu:P.underlying t=some .string)(hi:VR hp L β i ci)(hj:aix s.length i=some j)(hc:s[j]?=some c):
  (Instr.index t (.string ⟨s.toArray⟩) ci).run P w =.ok (.int .u8 c.toNat) w:=by
 obtain⟨k,m,rfl,h1,h2,rfl⟩:=mS hj;cases hi;have h3:(⟨s.toArray⟩:ByteArray)[m.toNat]?=some c:=by
  obtain⟨hlt,hv⟩:=amV.1 hc;rw[getElem?_pos (⟨s.toArray⟩:ByteArray) m.toNat (by rw[ed];exact hlt)];congr 1
 simp[Instr.index,asIntOf,anq,anJ hu,h1,h3]
theorem m_{n d r:Nat}{v:Option AV}(h:abd n v d=some r):(v=none/\r=d)\/∃k i,v=some (.int k i)/\0<=i/\i<=n/\r=i.toNat:=by
 cases v with
 |none=>simp[abd]at h;exact .inl ⟨rfl,h.symm⟩
 |some v=>
  right;cases v<;>simp only[abd,oc]at h<;>try cases h
  rename_i k i;split at h
  ·rename_i hi;cases h;exact⟨k,i,rfl,hi.1,hi.2,rfl⟩
  ·cases h
def VRO(hp:Array Obj)(L:Nat->Prop)(β:Bl):Option AV->Option Value->Prop
 |none,none=>True
 |some a,some v=>VR hp L β a v
 |_,_=>False
theorem yG{isS:Bool}{n cap m hb l:Nat}{lo hi mx:Option AV}{clo chi cmx:Option Value}(ta:n<=cap)(hlo:VRO hp L β lo clo)(hhi:VRO hp L β hi chi)(hmx:VRO hp L β mx cmx)
  (h1:abd n mx n=some m) (h2:abd m hi n=some hb) (h3:abd hb lo 0=some l) (h4:(mx.isSome&&hi.isNone)=false):
  ∃m',(Instr.sliceBounds isS n cap clo chi cmx).run P w =.ok (l,hb,m') w/\l<=hb/\hb<=m'/\hb<=n/\m'<=cap/\(mx.isSome=true->m'=m)/\(mx=none->m'=cap):=by
 have hsb:∀(k:IntKind) (i:Int) (y:Nat) (code:BoundsCode),0<=i->i<=y->(Instr.sliceBound (.int k i) y code).run P w =.ok i.toNat w:=by
  intro k i y code h5 h6;simp[Instr.sliceBound,asIntOf,h5,h6]
 rcases m_ h1 with⟨rfl,rfl⟩|⟨k1,i1,rfl,a1,a2,rfl⟩
 ·cases cmx<;>simp only[VRO]at hmx;rcases m_ h2 with⟨rfl,rfl⟩|⟨k2,i2,rfl,b1,b2,rfl⟩
  ·cases chi<;>simp only[VRO]at hhi;rcases m_ h3 with⟨rfl,rfl⟩|⟨k3,i3,rfl,c1,c2,rfl⟩
   ·cases clo<;>simp only[VRO]at hlo;exact⟨cap,by simp[Instr.sliceBounds],by omega,by omega,by omega,by omega,by simp,by simp⟩
   ·cases clo<;>simp only[VRO]at hlo;cases hlo;exact⟨cap,by simp[Instr.sliceBounds,hsb _ _ _ _ c1 c2],by omega,by omega,by omega,by omega,by simp,by simp⟩
  ·cases chi<;>simp only[VRO]at hhi;cases hhi;have b3:i2<=(cap:Int):=by omega
   rcases m_ h3 with⟨rfl,rfl⟩|⟨k3,i3,rfl,c1,c2,rfl⟩
   ·cases clo<;>simp only[VRO]at hlo;exact⟨cap,by simp[Instr.sliceBounds,hsb _ _ _ _ b1 b3],by omega,by omega,by omega,by omega,by simp,by simp⟩
   ·cases clo<;>simp only[VRO]at hlo;cases hlo;exact⟨cap,by simp[Instr.sliceBounds,hsb _ _ _ _ b1 b3,hsb _ _ _ _ c1 c2],by omega,by omega,by omega,by omega,by simp,by simp⟩
 ·cases cmx<;>simp only[VRO]at hmx;cases hmx;have a3:i1<=(cap:Int):=by omega
  rcases m_ h2 with⟨rfl,rfl⟩|⟨k2,i2,rfl,b1,b2,rfl⟩
  ·simp at h4
  ·cases chi<;>simp only[VRO]at hhi;cases hhi;rcases m_ h3 with⟨rfl,rfl⟩|⟨k3,i3,rfl,c1,c2,rfl⟩
   ·cases clo<;>simp only[VRO]at hlo;exact⟨i1.toNat,by simp[Instr.sliceBounds,hsb _ _ _ _ a1 a3,hsb _ _ _ _ b1 b2],by omega,by omega,by omega,by omega,by simp,by simp⟩
   ·cases clo<;>simp only[VRO]at hlo;cases hlo;exact⟨i1.toNat,by simp[Instr.sliceBounds,hsb _ _ _ _ a1 a3,hsb _ _ _ _ b1 b2,hsb _ _ _ _ c1 c2],by omega,by omega,by omega,by omega,by simp,by simp⟩
theorem qq{x:AV}{n:Nat}{cx:Value}(hx:VR hp L β x cx)(h:fj x=some n):∃a cap,cx =.slice a n cap/\n<=cap:=by
 cases hx<;>simp only[fj]at h<;>try cases h
 case aa=>exact⟨_,_,rfl,amY _⟩
 case esl a=>exact⟨_,_,rfl,amY _⟩
 case jS a cap=>exact⟨_,_,rfl,aoo _⟩
 case psl=>exact⟨_,_,rfl,by assumption⟩
 case rsl=>exact⟨_,_,rfl,by assumption⟩
 case nQ=>exact⟨_,_,rfl,amY _⟩
theorem Pj{t e:TypeId}{z:Nat}{x v:AV}{cx:Value}{lo hi mx:Option AV}{clo chi cmx:Option Value}(hu:P.underlying t=some (.slice e))(hsz:jI P e=some z)(hx:VR hp L β x cx)(hlo:VRO hp L β lo clo)(hhi:VRO hp L β hi chi)(hmx:VRO hp L β mx cmx)
  (h:lF z x lo hi mx=some v):∃cv,(Instr.sliceAt t cx clo chi cmx).run P w =.ok cv w/\VR hp L β v cv:=by
 unfold lF at h;split at h;case h_2=>cases h
 rename_i n hn;split at h;case h_2=>cases h
 rename_i m hm;split at h;case h_2=>cases h
 rename_i hb hh;split at h;case h_2=>cases h
 rename_i l hl;split at h
 ·cases h
 ·rename_i h4;obtain⟨a,cap,rfl,ta⟩:=qq hx hn;obtain⟨m',fc,b1,b2,b3,b4,b5,b6⟩:=yG (P:=P) (w:=w) (isS:=true) ta hlo hhi hmx hm hh hl (by simpa only[Bool.not_eq_true]using h4);refine⟨.slice (if m'=l then a else a.map (·.add (l*z))) (hb-l) (m'-l),?_,?_⟩
  ·simp only[Instr.sliceAt,Instr.slice,anq,anJ hu,ani,fc,gh hsz,anG]
  ·cases hx<;>simp only[asl]at h<;>try(cases h;done)
   case aa=>
    split at h
    ·rename_i h0;cases h;simp only[fj]at hn;cases hn;have hm0:m'=0:=by omega
     have hl0:l=0:=by omega
     subst hm0;subst hl0;subst h0;exact .aa
    ·cases h
   case esl=>
    split at h
    ·rename_i h0;cases h;have hm0:m'=0:=by omega
     have hl0:l=0:=by omega
     subst hm0;subst hl0;subst h0;exact .esl _
    ·cases h
   case jS=>
    simp only[fj,anr]at hn;cases hn;have hb0:hb=0:=by omega
    have hl0:l=0:=by omega
    subst hb0;subst hl0;simp only[List.all_nil,anH]at h;cases h;split
    ·rename_i h5;simp only[amZ,an2]at h5;have:=b5 h5.1;rw[show m'=0 by omega];exact .esl _
    ·simp only[List.drop_nil,List.take_nil];exact .jS _ _
   case psl xs z' b o cur e' fz hbk hL hs hz hr hc=>
    simp only[fj]at hn;split at h
    ·rename_i eQ;cases h;split
     ·rename_i h5;simp only[amZ,an2]at h5;have:=b5 h5.1;rw[show m'-l=0 by omega,show hb-l=0 by omega];exact .esl _
     ·by_cases h0:hb-l=0
      ·rw[h0,List.take_zero];exact .jS _ _
      ·have hne:¬(m'=l):=by omega
       rw[amU hne];have hzz:z'=z:=by
        have h6:0<xs.length:=by omega
        have h7:=hz 0 xs[0] (by simp[h6]);have h8:=anK.1 eQ xs[0] (anL h6);rw[<-h7];simpa using h8
       subst hzz;have hlen:((xs.drop l).take (hb-l)).length=hb-l:=by simp;omega
       simp only[Option.map_some,jl];have key:=VR.psl (hp:=hp) (L:=L) (β:=β) ((xs.drop l).take (hb-l)) z' b (o+l*z') (m'-l) cur e' fz hbk hL (by
         rw[hlen];have h9:l*z'+(hb-l)*z'<=xs.length*z':=by rw[<-anY];exact anS _ (by omega)
         omega) (λi y hy=>by
         rw[anZ]at hy;split at hy
         ·rw[anl]at hy;exact hz _ _ hy
         ·cases hy) (by omega) (λi y j c v hy hcj hv=>by
         rw[anZ]at hy;split at hy
         ·rw[anl]at hy;refine hr (l+i) y j c v hy hcj ?_;rw[<-hv];congr 1;rw[anY];omega
         ·cases hy)
       rw[hlen]at key;exact key
    ·cases h
   case rsl id off z' b base cur e' fz hβ hbk hc hm' hs=>
    split at h
    ·rename_i hz;subst hz;cases h;split
     ·rename_i h5;simp only[amZ,an2]at h5;have:=b5 h5.1;rw[show m'-l=0 by omega,show hb-l=0 by omega];exact .esl _
     ·by_cases hne:m'=l
      ·rw[am1 hne,show hb-l=0 by omega,show m'-l=0 by omega];exact .nQ _ _ _ _ _ _ hβ
      ·rw[amU hne];simp only[Option.map_some,jl];have h9:l*z'+(m'-l)*z'<=cap*z':=by rw[<-anY];exact anS _ (by omega)
       have key:=VR.rsl (hp:=hp) (L:=L) (β:=β) id (off+l*z') (hb-l) z' b base (m'-l) cur e' _ hβ hbk (by omega) (by omega) (by omega);rw[<-aoA]at key;exact key
    ·cases h
   case nQ id off z' b base o hβ=>
    simp only[fj]at hn;cases hn;have hm0:m'=0:=by omega
    have hl0:l=0:=by omega
    have hb0:hb=0:=by omega
    subst hm0;subst hl0;subst hb0;split at h
    ·rename_i hz;subst hz;cases h;split
     ·exact .esl _
     ·exact .nQ _ _ _ _ _ _ hβ
    ·cases h
theorem M3{t:TypeId}{s r:List UInt8}{lo hi:Option AV}{clo chi:Option Value}(hu:P.underlying t=some .string)(hlo:VRO hp L β lo clo)(hhi:VRO hp L β hi chi)(h:mC s lo hi=some r):
  (Instr.sliceAt t (.string ⟨s.toArray⟩) clo chi none).run P w =.ok (.string ⟨r.toArray⟩) w:=by
 unfold mC at h;split at h;case h_2=>cases h
 rename_i hb hh;split at h;case h_2=>cases h
 rename_i l hl;cases h;obtain⟨m',fc,b1,b2,b3,b4,b5,b6⟩:=yG (P:=P) (w:=w) (hp:=hp) (L:=L) (β:=β) (isS:=false) (n:=s.length) (cap:=s.length) (amY _) hlo hhi (mx:=none) (cmx:=none) trivial rfl hh hl rfl;have hsz:=ed s;simp only[Instr.sliceAt,Instr.slice,anq,anJ hu,ani,hsz,fc,anG];simp[ye,fc]
end
theorem FA{w w':World}(h:w'.heap=w.heap)(a:Addr):w'.cell? a=w.cell? a:=by simp[World.cell?,h]
section
variable {P:Program} {own:Nat->Prop} {β:Bl} {h:AH} {w:World}
theorem LY{hp:Array Obj}{L:Nat->Prop}{β:Bl}{cur:Array Value}{z:Nat}:∀(xs:List (List AV)) (o:Nat),(∀(i:Nat) (x:List AV),xs[i]?=some x->x.length=z)->
  (∀(i:Nat) (x:List AV) (j:Nat) (c:AV) (v:Value),xs[i]?=some x->x[j]?=some c->cur[o+i*z+j]?=some v->VR hp L β c v)->o+xs.length*z<=cur.size->RL hp L β xs.flatten ((cur.toList.drop o).take (xs.length*z))
 |[],o,_,_,_=>by simpa using RL.nil
 |x::xs,o,hz,hr,hs=>by
  have hxl:x.length=z:=hz 0 x (by simp);have hs':o+(z+xs.length*z)<=cur.size:=by simp only[am6,anY,aoH]at hs;omega
  have h1:RL hp L β x ((cur.toList.drop o).take z):=by
   rw[<-hxl];exact xt (by omega) (λj c v hc hv=>hr 0 x j c v (by simp) hc (by simpa using hv))
  have h2:=LY xs (o+z) (λi y hy=>hz (i+1) y (by simpa using hy)) (λi y j c v hy hc hv=>hr (i+1) y j c v (by simpa using hy) hc (by rw[<-hv];congr 1;rw[anY];omega)) (by omega);have h3:=h1.append h2;have he:(cur.toList.drop o).take ((x::xs).length*z)=(cur.toList.drop o).take z++(cur.toList.drop (o+z)).take (xs.length*z):=by
   rw[am6,anY,aoH,Nat.add_comm (xs.length*z) z,List.take_add,an4]
  rw[he];exact h3
theorem u9(hs:bV own β h.H h.nx w){z:Nat}{x:AV}{cx:Value}{new:List AV}{m:Nat}(hc:cj h z x=some new)(hm:fj x=some m)(hx:VR w.heap (LL own β h.H) β x cx):
  ∃a cap vs,cx =.slice a m cap/\m<=cap/\RL w.heap (LL own β h.H) β new vs/\vs.length=m*z/\
   ∀n,n<=m->∀w',w'.heap=w.heap->(Builtin.firstCells z n cx).run P w' =.ok (vs.take (n*z)).toArray w':=by
 have zero:∀(a:Option Addr) (cap n:Nat),n<=0->∀w':World,(Builtin.firstCells z n (.slice a 0 cap)).run P w' =.ok (([]:List Value).take (n*z)).toArray w':=by
  intro a cap n hn w';have:n=0:=by omega
  subst this;cases a<;>simp[Builtin.firstCells,loadCells,loadCellsFrom]
 have My:∀(b o n m cap:Nat) (cur:Array Value) (e:TypeId) (fz:Nat×Nat),w.heap[b]?=some (.cells cur e fz)->n<=m->o+m*z<=cur.size->∀w':World,w'.heap=w.heap->
   (Builtin.firstCells z n (.slice (some ⟨b,o,none⟩) m cap)).run P w' =.ok (((cur.toList.drop o).take (m*z)).take (n*z)).toArray w':=by
  intro b o n m cap cur e fz hb hn hsz w' hw;have hnm:n*z<=m*z:=anS _ hn;rw[List.take_take,Nat.min_eq_left hnm];have hl:((cur.toList.drop o).take (n*z)).length=n*z:=by simp;omega
  exact run_firstCells_some w' z n ⟨b,o,none⟩ m cap _ hl (λj v hv=>by rw[FA hw];exact pG hb j v hv)
 cases hx<;>simp only[cj]at hc<;>simp only[fj]at hm<;>try(cases hc;done)
 case aa=>cases hc;cases hm;exact⟨_,_,[],rfl,amY _,RL.nil,by simp,λn hn w' _=>zero _ _ n hn w'⟩
 case esl a=>cases hc;cases hm;exact⟨_,_,[],rfl,amY _,RL.nil,by simp,λn hn w' _=>zero _ _ n hn w'⟩
 case jS a cap=>simp at hc hm;subst hc;subst hm;exact⟨_,_,[],rfl,aoo _,RL.nil,by simp,λn hn w' _=>zero _ _ n hn w'⟩
 case psl xs z' b o cap cur e fz hb hL hsz hz ta hr=>
  cases hm;split at hc
  ·rename_i eQ;cases hc;have hz2:∀(i:Nat) (x:List AV),xs[i]?=some x->x.length=z:=λi x hxi=>by
    have:=anK.1 eQ x (am9 hxi);simpa using this
   by_cases hx0:xs.length=0
   ·have:xs=[]:=am8 hx0;subst this;exact⟨_,_,[],rfl,ta,RL.nil,by simp,λn hn w' _=>zero _ _ n (by simpa using hn) w'⟩
   ·have hzz:z'=z:=by
     have h6:0<xs.length:=by omega
     rw[<-hz 0 xs[0] (by simp[h6])];exact hz2 0 xs[0] (by simp[h6])
    subst hzz;exact⟨_,_,_,rfl,ta,LY xs o hz hr hsz,by simp;omega,λn hn w' hw=>My b o n xs.length cap cur e fz hb hn hsz w' hw⟩
  ·cases hc
 case rsl id off len z' b base cap xZ e0 fz0 hβ hb0 ta N8 hsz=>
  simp only[am4]at hm;subst hm;split at hc
  ·rename_i hz;subst hz;cases hcs:h.ab id with
   |none=>simp[hcs]at hc
   |some cs=>
    simp only[hcs]at hc;obtain⟨h1,rfl⟩:=mY hc;obtain⟨b',eI,cur,e,hg,hβ',hb,hlen,hr⟩:=hs.row hcs;rw[hβ]at hβ';cases hβ';have hR:=((xt hlen hr).drop off).take (len*z');have heq:(((cur.toList.drop base).take cs.length).drop off).take (len*z')=(cur.toList.drop (base+off)).take (len*z'):=by
     rw[List.drop_take,List.take_take,an4,Nat.min_eq_left (by omega)]
    rw[heq]at hR;refine⟨_,_,_,rfl,ta,hR,?_,λn hn w' hw=>My b (base+off) n len cap cur e (0,0) hb hn (by omega) w' hw⟩;simp;omega
  ·cases hc
 case nQ id off z' b base o hβ=>
  cases hm;split at hc
  ·rename_i hz;subst hz;cases hcs:h.ab id with
   |none=>simp[hcs]at hc
   |some cs=>
    simp only[hcs,Nat.zero_mul]at hc;obtain⟨h1,rfl⟩:=mY hc;exact⟨_,_,[],rfl,amY _,by simpa using RL.nil,by simp,λn hn w' _=>zero _ _ n hn w'⟩
  ·cases hc
theorem pZ{t ty e:TypeId}{i:TypeInfo}(ht:P.underlying t=some (.slice e))(hi:P.info? e=some i)(base a:Option Addr)(om xS m c:Nat)(new:Array Value)
  (UA:(Builtin.firstCells i.size m (.slice a m c)).run P w =.ok new w) (tT:om+m<=xS):
  (Builtin.append_ #[t,t] ty #[.slice base om xS,.slice a m c]).run P w =
   (match base with|some ad=>(storeCells (ad.add (om*i.size)) new.toList).run P w|none=>.ok () w).andThen λ_ w'=>.ok (.slice base (om+m) xS) w':=by
 cases base<;>simp[Builtin.append_,anJ ht,sizeOf,typeInfo,hi,Builtin.lenOf,tT,UA]
theorem oZ{t ty e:TypeId}{i:TypeInfo}{zv:Value}(ht:P.underlying t=some (.slice e))(hi:P.info? e=some i)(hz:i.zero=some zv)(base a:Option Addr)(om xS m c:Nat)(old new:Array Value)
  (hold:(Builtin.firstCells i.size om (.slice base om xS)).run P w.drew =.ok old w.drew) (UA:(Builtin.firstCells i.size m (.slice a m c)).run P w.drew =.ok new w.drew) (tT:¬(om+m<=xS))
  (h63:om+m<=9223372036854775807) (hb:(om+m)*i.bytes<=140737488355328):
  (Builtin.append_ #[t,t] ty #[.slice base om xS,.slice a m c]).run P w =
   .ok (.slice (some ⟨w.heap.size,0,none⟩) (om+m) (grownCap w (om+m) xS e)) (w.drew.alloc (.cells (old++new++Builtin.zeroCells zv.cells (grownCap w (om+m) xS e-(om+m))) e)):=by
 have ajJ:¬(9223372036854775807<((om:Int)+(m:Int))):=by omega
 have aju:¬(281474976710656<Builtin.nextslicecap (om+m) xS*i.bytes):=by
  have:=growslice_fits (need:=om+m) (old:=xS) (bytes:=i.bytes) (by omega) hb;omega
 simp[Builtin.append_,anJ ht,sizeOf,typeInfo,zeroValue,hi,hz,Builtin.lenOf,tT,ajJ,aju,Question.forced,hold,UA,newRow,grownCap]
theorem wW{n b:Nat}(hr:jh n b=true):n*b<=140737488355328/\n<=9223372036854775807:=by
 simpa[jh]using hr
theorem tn{t:TypeId}{z:List AV}(hq:fN P t=some z):∃i v,P.info? t=some i/\i.zero=some v/\v.cells.size=z.length:=by
 unfold fN at hq;split at hq
 ·rename_i i hi;split at hq
  ·rename_i v hv;exact⟨i,v,hi,hv,by have:=(rb (hp:= #[]) (L:=λ_=>True) (β:=λ_=>none) hq).1;simp at this;omega⟩
  ·cases hq
 ·cases hq
theorem uu(hs:bV own β h.H h.nx w){e:TypeId}{z:Nat}{i:TypeInfo}{zv:Value}(hzs:zv.cells.size=z)(n old:Nat)(hn:n<=9223372036854775807){as:List AV}{vs:Array Value}(hR:RL w.heap (LL own β h.H) β as vs.toList)(hl:as.length=n*z):
  ∃β',bV own β' (h.add (.cells as)).H (h.add (.cells as)).nx (w.drew.alloc (.cells (vs++Builtin.zeroCells zv.cells (grownCap w n old e-n)) e))/\
   VR (w.drew.alloc (.cells (vs++Builtin.zeroCells zv.cells (grownCap w n old e-n)) e)).heap (LL own β' (h.add (.cells as)).H) β' (.rsl h.nx 0 n z) (.slice (some ⟨w.heap.size,0,none⟩) n (grownCap w n old e))/\
   bJ own β h w β' (h.add (.cells as)) (w.drew.alloc (.cells (vs++Builtin.zeroCells zv.cells (grownCap w n old e-n)) e)):=by
 have hge:=grownCap_ge w n old e;have hcm:grownCap w n old e<=maxLen:=aCs w n old e (by simp only[maxLen];omega);have hvl:vs.size=n*z:=by have:=hR.1;simp at this;omega
 obtain⟨h1,h2,_⟩:=hs.EF (w':=w.drew.alloc (.cells (vs++Builtin.zeroCells zv.cells (grownCap w n old e-n)) e)) h.nx (hs.fresh _ (amY _)) as (vs++Builtin.zeroCells zv.cells (grownCap w n old e-n)) e rfl rfl rfl rfl (by simp;omega) (λj c v hc hv=>by
  refine hR.2 j c v hc ?_;have hj:j<vs.size:=by rw[hvl,<-hl];exact(amV.1 hc).1
  rw[Array.getElem?_append,am1 hj]at hv;simpa using hv)
 have hmx:max h.nx (h.nx+1)=h.nx+1:=by omega
 have h2':=h2 (amY _);rw[hmx]at h1 h2';refine⟨_,h1,?_,h2'⟩;have hb:(w.drew.alloc (.cells (vs++Builtin.zeroCells zv.cells (grownCap w n old e-n)) e)).heap[w.heap.size]?=some (.cells (vs++Builtin.zeroCells zv.cells (grownCap w n old e-n)) e (0,0)):=aCz w.drew _;refine VR.rsl h.nx 0 n z w.heap.size 0 _ _ e _ (dz _ _ _ _) hb hge hcm ?_;simp only[aCw,size_zeroCells,hzs,hvl,<-anY];have:n+(grownCap w n old e-n)=grownCap w n old e:=by omega
 rw[this];omega
theorem Nw(hs:bV own β h.H h.nx w){t ty e:TypeId}{z bytes:Nat}{zero:List AV}{s x v:AV}{cs cx:Value}{h':AH}(ht:P.underlying t=some (.slice e))(hz:fN P e=some zero)(hsz:jI P e=some z)(hzl:zero.length=z)(hz0:z≠0)(hby:MW P e=some bytes)
  (hvs:VR w.heap (LL own β h.H) β s cs) (hvx:VR w.heap (LL own β h.H) β x cx) (ha:RM h z bytes s x=some (v,h')):
  nd P own β h w (do pure (.value (<-Builtin.append_ #[t,t] ty #[cs,cx]))) v h':=by
 unfold RM at ha;split at ha;case h_2=>cases ha
 rename_i new m UA hm;split at ha
 ·cases ha
 rename_i agH;have acg:dj new=true:=by simpa using agH
 obtain⟨i,zv,hi,hiz,hzc⟩:=tn hz;have ab0:i.size=z:=by simp[jI,hi]at hsz;exact hsz
 have ab4:i.bytes=bytes:=by simp[MW,hi]at hby;exact hby
 subst ab0;subst ab4;obtain⟨xa,xc,nv,rfl,hxc,hnR,hnl,ab3⟩:=u9 (P:=P) hs UA hm hvx;have uV:∀w',w'.heap=w.heap->(Builtin.firstCells i.size m (.slice xa m xc)).run P w' =.ok nv.toArray w':=λw' hw=>by
  have:=ab3 m (amY _) w' hw;rwa [anc (by omega)]at this
 have YZ:new.length=m*i.size:=by rw[hnR.1];exact hnl
 have fresh:∀(b:Option Addr),m≠0->jh m i.bytes=true->nd P own β h w (do pure (.value (<-Builtin.append_ #[t,t] ty #[.slice b 0 0,.slice xa m xc]))) (.rsl h.nx 0 m i.size) (h.add (.cells new)):=by
  intro b hm0 hr;obtain⟨r1,r2⟩:=wW hr;have h0:(Builtin.firstCells i.size 0 (.slice b 0 0)).run P w.drew =.ok #[] w.drew:=by
   cases b<;>simp[Builtin.firstCells,loadCells,loadCellsFrom]
  have fc:=oZ (P:=P) (w:=w) (ty:=ty) ht hi hiz b xa 0 0 m xc #[] nv.toArray h0 (uV w.drew rfl) (by omega) (by omega) (by rw[aoe];exact r1);obtain⟨β',g1,g2,g3⟩:=uu (e:=e) (i:=i) hs (hzc.trans hzl) m 0 r2 (as:=new) (vs:=nv.toArray) (by simpa using hnR) YZ;refine⟨_,_,β',.inl ?_,g1,g2,g3⟩;simp only[aoe,Array.empty_append]at fc;simp only[anq,fc,ani,anG]
 have nothing:∀(b:Option Addr) (n cap:Nat),n<=cap->m=0->(Builtin.append_ #[t,t] ty #[.slice b n cap,.slice xa m xc]).run P w =.ok (.slice b n cap) w:=by
  intro b n cap hn hm0;subst hm0;have hnv:nv=[]:=am8 (by omega);subst hnv;rw[pZ ht hi b xa n cap 0 xc _ (uV w rfl) (by omega)];cases b<;>simp[storeCells]
 split at ha;case h_1=>
  cases hvs;split at ha
  ·rename_i hm0;cases ha;exact .still hs (by simp only[anq,nothing _ 0 0 (amY _) hm0,ani,anG]) .aa
  ·rename_i hm0;split at ha
   ·rename_i hr;cases ha;exact fresh none hm0 hr
   ·cases ha
 case h_2=>
  cases hvs;rename_i b;split at ha
  ·rename_i hm0;cases ha;exact .still hs (by simp only[anq,nothing _ 0 0 (amY _) hm0,ani,anG]) (.esl b)
  ·rename_i hm0;split at ha
   ·rename_i hr;cases ha;exact fresh b hm0 hr
   ·cases ha
 case h_3 xs=>
  split at ha
  ·rename_i hm0;cases ha;obtain⟨b,cap,rfl,hc⟩:=qq hvs (n:=xs.length) rfl;exact .still hs (by simp only[anq,nothing b xs.length cap hc hm0,ani,anG]) hvs
  ·cases ha
 case h_4 id off len z'=>
  split at ha;case isFalse=>cases ha
  rename_i bN;simp only[amZ,ana]at bN;obtain⟨hz',hr⟩:=bN;subst hz';obtain⟨r1,r2⟩:=wW hr;cases hcs:h.ab id with
  |none=>simp[hcs]at ha
  |some cells=>
   simp only[hcs]at ha;cases fk:cut cells off (len*i.size)with
   |none=>simp[fk]at ha
   |some old=>
    simp only[fk]at ha;cases ha;obtain⟨sa,EI,ov,hsv,ak7,hoR,hol,Xy⟩:=u9 (P:=P) hs (z:=i.size) (x:=.rsl id off len i.size) (new:=old) (m:=len) (by simp[cj,hcs,fk]) rfl hvs;subst hsv;have agP:old.length=len*i.size:=by rw[hoR.1];exact hol
    obtain⟨b',eI,cur,e',hg,hβ',hb,hlen,ajo⟩:=hs.row hcs;by_cases tT:len+m<=EI
    ·-- in place
     have fc:=pZ (P:=P) (w:=w) (ty:=ty) ht hi sa xa len EI m xc _ (uV w rfl) tT;obtain⟨alf,tU⟩:=mY fk;cases hvs with
     |rsl _ _ _ _ b base cap xZ e0 fz0 hβ hb0 ta N8 hsz=>
      obtain⟨rfl,rfl⟩:b=b'/\base=eI:=by rw[hβ]at hβ';simpa using hβ'
      obtain⟨rfl,rfl,rfl⟩:cur=xZ/\e'=e0/\(0,0)=fz0:=by rw[hb]at hb0;simpa using hb0
      have hmul:len*i.size+m*i.size<=EI*i.size:=by rw[<-anY];exact anS _ tT
      have hst:=run_storeCells_at P b (base+off+len*i.size) e' nv 0 cur w hb (by omega) (hnR.dj acg);simp only[aoy]at hst;have acG:(cur.toList.take (base+off+len*i.size)++nv++cur.toList.drop (base+off+len*i.size+nv.length)).toArray.size=cur.size:=by simp;omega
      have hb':(w.setRow b (cur.toList.take (base+off+len*i.size)++nv++cur.toList.drop (base+off+len*i.size+nv.length)).toArray).heap[b]?=some (.cells (cur.toList.take (base+off+len*i.size)++nv++cur.toList.drop (base+off+len*i.size+nv.length)).toArray e' (0,0)):=setRow_heap w b cur _ e' _ hb;have hw:=hs.CO (w':=w.setRow b (cur.toList.take (base+off+len*i.size)++nv++cur.toList.drop (base+off+len*i.size+nv.length)).toArray) hg hβ h.nx (base+off) (.inr rfl) (.cells (old++new)) (by simp) (λk hk=>aCB w b k _ hk)
       (λc1 e1 fz hc=>by rw[hb]at hc;cases hc;exact⟨_,_,hb',acG,rfl⟩) rfl rfl rfl
       (λL' β' hl'=>⟨_,e',hb',by rw[acG];simp;omega,λj c v hc hv=>by
        refine VR.later hl' ?_;have hv2:(cur.toList.take (base+off+len*i.size)++nv++cur.toList.drop (base+off+len*i.size+nv.length))[base+off+j]?=some v:=by simpa using hv
        rw[kB _ _ _ _ (by simp;omega)]at hv2;rw[aod]at hc;split at hc
        ·rename_i hj;rw[am1 (by omega)]at hv2;rw[tU,anZ]at hc;split at hc
         ·rw[anl]at hc;exact ajo _ c v hc (by rw[<-aoA];simpa using hv2)
         ·cases hc
        ·rename_i hj;rw[amU (by omega)]at hv2;have hjl:j-old.length<new.length:=(amV.1 hc).1;rw[am1 (by omega)]at hv2;refine hnR.2 _ c v hc ?_;rw[<-hv2];congr 1;omega⟩)
      rw[am1 rfl]at hw;refine⟨.slice (some ⟨b,base+off,none⟩) (len+m) EI,_,_,.inl ?_,hw.1,?_,hw.2⟩
      ·simp only[jl,hst,ani]at fc;simp only[anq,fc,ani,anG]
      ·have:=VR.rsl (hp:=(w.setRow b (cur.toList.take (base+off+len*i.size)++nv++cur.toList.drop (base+off+len*i.size+nv.length)).toArray).heap) (L:=LL own (upd β h.nx b (base+off)) ((h.kill id).add (.cells (old++new))).H) (β:=upd β h.nx b (base+off)) h.nx 0 (len+m) i.size b (base+off) EI _ e' _ (dz _ _ _ _) hb' tT N8 (by rw[acG];omega);exact this
     |nQ _ _ _ b base o hβ=>
      obtain⟨rfl,rfl⟩:b=b'/\base=eI:=by rw[hβ]at hβ';simpa using hβ'
      have hm0:m=0:=by omega
      subst hm0;have hnv:nv=[]:=am8 (by omega);have hne:new=[]:=am8 (by omega);have ajh:old=[]:=am8 (by omega);subst hnv;subst hne;subst ajh;have hw:=hs.CO (w':=w) hg hβ h.nx base (.inr rfl) (.cells []) rfl (λ_ _=>rfl) (λc1 e1 fz hc=>⟨c1,fz,hc,rfl,rfl⟩) rfl rfl rfl
       (λL' β' hl'=>⟨cur,e',hb,by simp;omega,λj c v hc hv=>by simp at hc⟩)
      rw[am1 rfl]at hw;refine⟨.slice (some ⟨b,o,none⟩) 0 0,w,_,.inl ?_,hw.1,VR.nQ _ _ _ _ _ _ (dz _ _ _ _),hw.2⟩;simp only[anq,nothing (some ⟨b,o,none⟩) 0 0 (amY _) rfl,ani,anG]
    ·-- a new array
     have ags:(Builtin.firstCells i.size len (.slice sa len EI)).run P w.drew =.ok ov.toArray w.drew:=by
      have:=Xy len (amY _) w.drew rfl;rwa [anc (by omega)]at this
     have fc:=oZ (P:=P) (w:=w) (ty:=ty) ht hi hiz sa xa len EI m xc ov.toArray nv.toArray ags (uV w.drew rfl) tT r2 r1;obtain⟨d1,d2⟩:=hs.drop id;have hR2:=(hoR.append hnR).later d2.later;obtain⟨β',g1,g2,g3⟩:=uu (h:=h.kill id) (e:=e) (i:=i) d1 (hzc.trans hzl) (len+m) EI r2 (as:=old++new) (vs:=ov.toArray++nv.toArray) (by rw[aCr];exact hR2) (by simp;rw[agP,YZ,anY]);refine⟨_,_,β',.inl ?_,g1,g2,d2.trans g3⟩;simp only[anq,fc,ani,anG]
 case h_5=>cases ha
end
section
variable {P:Program} {own:Nat->Prop} {β:Bl} {h:AH} {w:World}
theorem nd.val{s:Sem Value}{v:AV}{cv:Value}(hs:bV own β h.H h.nx w)(hr:s.run P w =.ok cv w)(hv:VR w.heap (LL own β h.H) β v cv):nd P own β h w (do pure (.value (<-s))) v h:=
 .still hs (by simp only[anq,hr,ani,anG]) hv
theorem axW(hs:bV own β h.H h.nx w){t ty e:TypeId}{z:Nat}{d s v:AV}{cd cs:Value}{h':AH}(ht:P.underlying t=some (.slice e))(hsz:jI P e=some z)
  (hvd:VR w.heap (LL own β h.H) β d cd) (hvs:VR w.heap (LL own β h.H) β s cs) (ha:ae5 h z d s=some (v,h')):
  nd P own β h w (do pure (.value (<-Builtin.copy_ #[t,t] ty #[cd,cs]))) v h':=by
 unfold ae5 at ha;split at ha;case h_2=>cases ha
 rename_i src m n aBq hm hn;simp only at ha;obtain⟨sa,sc,nv,rfl,hsc,hnR,hnl,ab3⟩:=u9 (P:=P) hs aBq hm hvs;split at ha
 ·rename_i hk0;cases ha;have hdl:∃a cap,cd =.slice a n cap:=by
   obtain⟨a,cap,h1,_⟩:=qq hvd hn;exact⟨a,cap,h1⟩
  obtain⟨a,cap,rfl⟩:=hdl;have h0:=ab3 0 (aoo _) w rfl;refine .val hs (cv:=.int .i64 0) ?_ (.int _ _);have azt:Nat.min m n=0:=hk0;have hst:∀ad:Addr,(storeCells ad []).run P w =.ok () w:=λad=>rfl
  cases a<;>simp[Builtin.copy_,anJ ht,gh hsz,Builtin.lenOf,azt,goInt]<;>simp at h0<;>simp[h0,hst]
 ·rename_i hk0;split at ha
  ·cases ha
  ·rename_i agH;have acg:dj (src.take (min m n*z))=true:=by simpa using agH
   split at ha;case h_2=>cases ha
   rename_i id off len z';split at ha;case isFalse=>cases ha
   rename_i hz;subst hz;cases hcs:h.ab id with
   |none=>simp[hcs]at ha
   |some cells=>
    simp only[hcs]at ha;cases hsp:fi cells off (src.take (min m n*z'))with
    |none=>simp[hsp]at ha
    |some aBk=>
     simp only[hsp]at ha;cases ha;simp only[fj,am4]at hn;subst hn;cases hvd with
     |rsl _ _ _ _ b base cap cur e0 fz0 hβ hb hc N8 hs2=>
      obtain⟨w',h1,h2,h3⟩:=DR (P:=P) hs hcs hβ hsp (hnR.take _) acg;have hf:=ab3 (min m len) (Nat.min_le_left _ _) w rfl;refine⟨.int .i64 (min m len:Nat),w',β,.inl ?_,h2,.int _ _,h3⟩;have azt:Nat.min m len=min m len:=rfl;simp[Builtin.copy_,anJ ht,gh hsz,Builtin.lenOf,azt,hf,h1,goInt]
     |nQ=>simp at hk0
theorem Cj{H:Hp}{nx:Nat}(hs:bV own β H nx w)(r:Nat)(hr:β r=none){t e:TypeId}{z bytes:Nat}{zero:List AV}{n m:Int}(ht:P.underlying t=some (.slice e))(hz:fN P e=some zero)(hsz:jI P e=some z)(hzl:zero.length=z)(hz0:z≠0)(hby:MW P e=some bytes)
  (h1:0<=n) (h2:n<=m) (h3:m<=9223372036854775807) (h4:m.toNat*bytes<=140737488355328):
  DY P own β H nx w (do pure (.value (<-Instr.makeSlice t (.int .i64 n) (.int .i64 m)))) (.rsl r 0 n.toNat z) (.cells (lp m.toNat zero)) r:=by
 obtain⟨zv,hzv,hzR⟩:=iO (P:=P) (w:=w) hz (hp:=w.heap) (L:=LL own β H) (β:=β);obtain⟨i,zv',hi,hiz,hzc⟩:=tn hz;have hzz:zv'=zv:=by simp[zeroValue,typeInfo,hi,hiz]at hzv;exact hzv
 subst hzz;have ab0:i.size=z:=by simp[jI,hi]at hsz;exact hsz
 have ab4:i.bytes=bytes:=by simp[MW,hi]at hby;exact hby
 have hR:=K6 hzR (by omega) m.toNat;rw[hzl]at hR;have hbi:(i.bytes:Int)*m<=281474976710656:=by
  have:((m.toNat*bytes:Nat):Int)<=140737488355328:=by omega
  rw[Int.natCast_mul,Int.toNat_of_nonneg (by omega)]at this;rw[ab4,Int.mul_comm];omega
 have fc:=run_make (P:=P) w t e i zv' ht hi hiz .i64 .i64 n m h1 h2 hbi h3;rw[ab0]at fc;obtain⟨w',g1,g2,g3,g4,g5⟩:=vQ (P:=P) hs r hr e (cs:=lp m.toNat zero) (cur:=madeCells zv'.cells (m.toNat*z)) hR;have hw':w'=w.alloc (.cells (madeCells zv'.cells (m.toNat*z)) e):=by
  have:(newRow e (madeCells zv'.cells (m.toNat*z))).run P w =.ok ⟨w.heap.size,0,none⟩ (w.alloc (.cells (madeCells zv'.cells (m.toNat*z)) e)):=rfl;rw[this]at g1;cases g1;rfl
 refine⟨.slice (some ⟨w.heap.size,0,none⟩) n.toNat m.toNat,w',?_,g2,VR.rsl r 0 n.toNat z w.heap.size 0 m.toNat _ e _ g3 g5 (by omega) (by simp only[maxLen];omega) (by rw[size_madeCells];omega),g4⟩;simp only[anq,fc,ani,anG,hw']
end
section
variable {P:Program} {nt:Nat} {ds:List Deferred} {own:Nat->Prop} {β:Bl} {T:Tm} {h:AH} {a:Act} {w:World}
theorem pa(hs:Sim nt ds own β T h a w){x:Option Operand}{y:Option Opd}(hx:tx x=some y):VRO w.heap (LL own β h.H) β (y.map (·.ev T)) (x.map a.eval):=by
 cases x with
 |none=>simp[tx]at hx;subst hx;trivial
 |some x=>
  simp[tx]at hx;obtain⟨z,hz,rfl⟩:=hx;exact fT hs hz
def xal:XK->List AV->Option (dx×(Nat->AV))
 |.xH,[]=>some (.map [],λr=>.jR r)
 |.NU t z,[]=>some (.typ (2*t+1) z,λr=>.ptr r 0)
 |.xH,[.int _ _]=>some (.map [],λr=>.jR r)
 |_,_=>none
def eg(T:Tm):AOp->Option (dx×(Nat->AV))
 |.new zero=>some (.cells zero,λr=>.ptr r 0)
 |.box x=>if iU (x.ev T)then some (.cells (x.ev T).cells,λr=>.ptr r 0)else none
 |.aqu z len zero parts=>match fS T zero parts with
  |some cs=>some (.cells cs,λr=>.rsl r 0 len z)
  |none=>none
 |.Uu z bytes zero l c=>match l.ev T,c.ev T with
  |.int .i64 n,.int .i64 m=>
   if 0<=n/\n<=m/\m<=9223372036854775807 then
    if m.toNat*bytes<=140737488355328 then some (.cells (lp m.toNat zero),λr=>.rsl r 0 n.toNat z)else none
   else none
  |_,_=>none
 |.xo k as=>xal k (as.map (·.ev T))
 |_=>none
def xA:XK->Bool
 |.xH=>true
 |.NU _ _=>true
 |_=>false
def aA:AOp->Bool
 |.new _ |.box _ |.aqu _ _ _ _ |.Uu _ _ _ _ _=>true
 |.xo k _=>xA k
 |_=>false
def oA:Op->Bool
 |.alloc _ |.box _ _ |.buildSlice _ _ _ |.makeSlice _ _ _=>true
 |_=>false
theorem zD{neg:Bool}{t:TypeId}{x y:Opd}{ao:AOp}(hc:cEq P neg t x y=some ao):aA ao=false:=by
 unfold cEq at hc;split at hc;case h_8=>
  split at hc
  ·cases hc
  ·simp only[anm]at hc;obtain⟨_,_,rfl⟩:=hc;rfl
 case h_9=>cases hc
 all_goals (cases hc;try rfl)
 all_goals (cases neg<;>rfl)
theorem y5{op:Op}{ao:AOp}(hc:cOp P op=some ao):aA ao=oA op:=by
 cases op<;>simp only[cOp]at hc<;>try(cases hc;done)
 case call c=>
  split at hc
  ·simp only[bind,amW,pure,am4]at hc;obtain⟨_,_,_,_,rfl⟩:=hc;rfl
  ·(repeat' (split at hc))<;>simp[bind,amW]at hc
   ·obtain⟨_,_,rfl⟩:=hc;rfl
   ·obtain⟨_,_,rfl⟩:=hc;rfl
  ·(repeat' (split at hc))<;>simp[bind,amW]at hc
   obtain⟨_,_,_,_,_,_,_,_,_,_,_,rfl⟩:=hc;rfl
  ·(repeat' (split at hc))<;>simp[bind,amW]at hc
   obtain⟨_,_,_,_,_,_,_,rfl⟩:=hc;rfl
  ·(repeat' (split at hc))<;>simp[bind,amW]at hc
   obtain⟨_,_,_,_,rfl⟩:=hc;rfl
  ·(repeat' (split at hc))<;>simp[bind,amW]at hc
   obtain⟨_,_,_,_,rfl⟩:=hc;rfl
  ·cases hc
 case binOp op t x y ty=>
  simp only[bind,amW]at hc;obtain⟨_,_,_,_,hc⟩:=hc;cases op<;>simp at hc;case eql=>exact zD hc
  case neq=>exact zD hc
  all_goals (subst hc;rfl)
 case load t x=>
  simp only[bind,amW]at hc;obtain⟨n,_,hc⟩:=hc;cases n<;>simp[amW]at hc<;>obtain⟨_,_,rfl⟩:=hc<;>rfl
 case buildSlice t len ps=>
  split at hc
  ·simp only[bind,amW]at hc;obtain⟨_,_,hc⟩:=hc;split at hc
   ·cases hc
   ·simp only[amW]at hc;obtain⟨_,_,hc⟩:=hc;split at hc
    ·cases hc
    ·simp only[amW,pure,am4]at hc;obtain⟨_,_,rfl⟩:=hc;rfl
  ·cases hc
 case makeSlice t l c=>
  split at hc
  ·simp only[bind,amW]at hc;obtain⟨_,_,_,_,hc⟩:=hc;split at hc
   ·cases hc
   ·simp only[amW,pure,am4]at hc;obtain⟨_,_,_,_,_,_,rfl⟩:=hc;rfl
  ·cases hc
 case fieldAddr s x f=>
  split at hc
  ·simp only[bind,amW]at hc;obtain⟨_,_,_,_,hc⟩:=hc;split at hc
   ·cases hc
   ·simp only[amW,pure,am4]at hc;obtain⟨_,_,rfl⟩:=hc;rfl
  ·cases hc
 case slice t x lo hi mx=>
  split at hc
  ·simp only[bind,amW]at hc;obtain⟨_,_,hc⟩:=hc;split at hc
   ·cases hc
   ·simp only[amW,pure,am4]at hc;obtain⟨_,_,_,_,_,_,_,_,rfl⟩:=hc;rfl
  ·split at hc
   ·cases hc
   ·simp only[bind,amW,pure,am4]at hc;obtain⟨_,_,_,_,_,_,rfl⟩:=hc;rfl
  ·cases hc
 case build t ps=>
  split at hc
  ·split at hc
   ·simp only[bind,amW,pure,am4]at hc;obtain⟨_,_,_,_,rfl⟩:=hc;rfl
   ·cases hc
  ·simp only[bind,amW,pure,am4]at hc;obtain⟨_,_,_,_,_,_,rfl⟩:=hc;rfl
  ·cases hc
 case pick=>simp[bind,amW]at hc;obtain⟨_,_,_,_,_,_,rfl⟩:=hc;rfl
 case store=>simp[bind,amW]at hc;obtain⟨_,_,_,_,_,_,rfl⟩:=hc;rfl
 case convert=>(repeat' (split at hc))<;>simp[bind,amW]at hc<;>obtain⟨_,_,rfl⟩:=hc<;>rfl
 case indexAddr=>
  split at hc
  ·simp only[bind,amW,pure,am4]at hc;obtain⟨_,_,_,_,_,_,rfl⟩:=hc;rfl
  ·simp only[bind,amW,pure,am4]at hc;obtain⟨_,_,_,_,_,_,rfl⟩:=hc;rfl
  ·cases hc
 case index=>
  split at hc
  ·simp only[bind,amW,pure,am4]at hc;obtain⟨_,_,_,_,rfl⟩:=hc;rfl
  ·cases hc
 case extract=>simp[bind,amW]at hc;obtain⟨_,_,rfl⟩:=hc;rfl
 case alloc=>(split at hc; · cases hc);simp only[anm]at hc;obtain⟨_,_,rfl⟩:=hc;rfl
 all_goals (simp only[anm]at hc;obtain⟨_,_,rfl⟩:=hc;rfl)
theorem NP{T:Tm}{ao:AOp}{r:dx×(Nat->AV)}(h:eg T ao=some r):aA ao=true:=by
 cases ao<;>simp only[eg]at h<;>first|(cases h;done)|rfl|skip
 rename_i k as;cases k<;>first|(simp[xal]at h;done)|rfl
theorem Dl{H:Hp}{nx:Nat}(hs:bV own β H nx w)(hρ:∀x y,dv x=some y->VR w.heap (LL own β H) β (y.ev T) (a.eval x)){o:Oper}{ao:AOp}{ob:dx}{mk:Nat->AV}(hc:cOp P o.op=some ao)(ha:eg T ao=some (ob,mk))(r:Nat)(hr:β r=none):
  DY P own β H nx w (execOp a.eval o) (mk r) ob r:=by
 have hcl:=y5 hc;have hA:aA ao=true:=NP ha;rw[hA]at hcl;cases hop:o.op<;>rw[hop]at hcl<;>simp only[oA]at hcl<;>(try(cases hcl;done))<;>rw[hop]at hc<;>simp only[cOp]at hc;case alloc e=>
  split at hc
  ·cases hc
  simp only[anm]at hc;obtain⟨z,hz,rfl⟩:=hc;simp only[eg]at ha;cases ha;simp only[execOp,hop];exact QQ hs r hr hz
 case box e x=>
  simp only[anm]at hc;obtain⟨y,hy,rfl⟩:=hc;simp only[eg]at ha;split at ha
  ·rename_i hst;cases ha;simp only[execOp,hop];exact ZI hs r hr e hst (hρ _ _ hy)
  ·cases ha
 case buildSlice t len ps=>
  split at hc
  ·rename_i e hu;simp only[bind,amW]at hc;obtain⟨s,hsz,hc⟩:=hc;split at hc
   ·cases hc
   ·rename_i EN;simp only[amW]at hc;obtain⟨z,hz,hc⟩:=hc;split at hc
    ·cases hc
    ·rename_i hzl;simp only[amW,pure,am4]at hc;obtain⟨aps,hps,rfl⟩:=hc;simp only[eg]at ha;cases hf:fS T (lp len z) aps with
     |none=>simp[hf]at ha
     |some cs'=>
      simp only[hf]at ha;cases ha;simp only[anV,ana,an2,not_or]at EN;simp only[ne_eq,aos]at hzl;simp only[execOp,hop];exact yl hs r hr hρ hu hsz EN.1 EN.2 hz hzl hps hf
  ·cases hc
 case makeSlice t l c=>
  split at hc
  ·rename_i e hu;simp only[bind,amW]at hc;obtain⟨s,hsz,z,hz,hc⟩:=hc;split at hc
   ·cases hc
   ·rename_i hzl;simp only[amW,pure,am4]at hc;obtain⟨by_,hby,l',hl',c',hc',rfl⟩:=hc;simp only[anV,ana,an2,not_or,ne_eq,aos]at hzl;simp only[eg]at ha;have h1:=hρ _ _ hl';have h2:=hρ _ _ hc';split at ha
    ·rename_i n m hn hm;rw[hn]at h1;rw[hm]at h2;split at ha
     ·rename_i hb;split at ha
      ·rename_i hb2;cases ha;generalize hle:a.eval l=cl0 at h1;generalize hce:a.eval c=cc0 at h2;cases h1;cases h2;simp only[execOp,hop,hle,hce];exact Cj hs r hr hu hz hsz hzl.1 hzl.2 hby hb.1 hb.2.1 hb.2.2 hb2
      ·cases ha
     ·cases ha
    ·cases ha
  ·cases hc
theorem MG{cl:cI}{ao:AOp}{v:AV}{h':AH}(hA:aA ao=true)(ha:aop cl T h ao=some (v,h')):∃ob mk,eg T ao=some (ob,mk)/\v=mk h.nx/\h'=h.add ob:=by
 cases ao<;>simp only[aA]at hA<;>(try(cases hA;done))<;>simp only[aop,aB,aG,cU,fh,aO,aQ,eK,bj,kSt,aq,ae,arJ,NF,pb,kUn,cB,Nf,ah,aF,fv,Nb,dH,kSl,gI,bh,cL,sT,zy,dK,yq,iy,cm,Nn,nZ,wN,<-br]at ha<;>simp only[eg]
 ·cases ha;exact⟨_,_,rfl,rfl,rfl⟩
 ·split at ha
  ·rename_i hst;cases ha;exact⟨_,_,by rw[am1 hst],rfl,rfl⟩
  ·cases ha
 ·split at ha
  ·rename_i cs hf;cases ha;exact⟨_,_,by rw[hf],rfl,rfl⟩
  ·cases ha
 ·split at ha
  ·rename_i n m hn hm;split at ha
   ·rename_i hb;split at ha
    ·rename_i hb2;cases ha;exact⟨.cells (lp m.toNat _),λr=>.rsl r 0 n.toNat _,by rw[hn,hm];simp only[am1 hb,am1 hb2],rfl,rfl⟩
    ·cases ha
   ·cases ha
  ·cases ha
 ·rename_i k as;cases k<;>simp only[xA]at hA<;>(try(cases hA;done));case xH=>
   generalize as.map (·.ev T)=vs at ha ⊢;unfold kX at ha;split at ha<;>(try(cases ha;done));all_goals (rename_i heq;cases heq)
   ·cases ha;exact⟨_,_,rfl,rfl,rfl⟩
   ·cases ha;exact⟨_,_,rfl,rfl,rfl⟩
  case NU t z=>
   generalize as.map (·.ev T)=vs at ha ⊢;cases vs with
   |nil=>simp only[kX]at ha;cases ha;exact⟨_,_,rfl,rfl,rfl⟩
   |cons x l=>simp[kX]at ha
theorem ae7(cl:cI)(hs:Sim nt ds own β T h a w){o:Oper}{ao:AOp}{v:AV}{h':AH}(hc:cOp P o.op=some ao)(ha:aop cl T h ao=some (v,h'))(hnc:∀f args,ao ≠ .call f args):
  nd P own β h w (execOp a.eval o) v h':=by
 have hp:=hs.hp;by_cases hA:aA ao=true
 ·obtain⟨cs,mk,h1,rfl,rfl⟩:=MG hA ha;exact(Dl hp (λx y hxy=>fT hs hxy) hc h1 h.nx (hp.fresh _ (amY _))).ok
 have xR:=y5 hc;have hAf:aA ao=false:=by simpa using hA
 rw[hAf]at xR;cases hop:o.op<;>rw[hop]at hc<;>simp only[cOp]at hc<;>try(cases hc;done)
 case alloc=>rw[hop]at xR;cases xR
 case box=>rw[hop]at xR;cases xR
 case buildSlice=>rw[hop]at xR;cases xR
 case makeSlice=>rw[hop]at xR;cases xR
 case move x=>
  simp only[anm]at hc;obtain⟨y,hy,rfl⟩:=hc;simp only[aop,aB,<-br]at ha;cases ha;simp only[execOp,hop];exact .still hp (by simp) (fT hs hy)
 case assign x=>
  simp only[anm]at hc;obtain⟨y,hy,rfl⟩:=hc;simp only[aop,aB,<-br]at ha;cases ha;simp only[execOp,hop];exact .still hp (by simp) (fT hs hy)
 case pick c x y=>
  simp only[bind,amW,pure,am4]at hc;obtain⟨c',hc',x',hx',y',hy',rfl⟩:=hc;simp only[aop,aG,<-br]at ha;have h1:=fT hs hc';cases hcv:c'.ev T<;>rw[hcv]at ha h1<;>(try simp only at ha)<;>try(cases ha;done)
  rename_i b;generalize hce:a.eval c=cv at h1;cases h1;cases ha;simp only[execOp,hop];refine .still hp (cv:=if b then a.eval x else a.eval y) (by simp[hce,asBool]) ?_;cases b
  ·exact fT hs hy'
  ·exact fT hs hx'
 case build t ps=>
  split at hc
  ·rename_i fs hu;split at hc
   ·rename_i hfs;simp only[bind,amW,pure,am4]at hc;obtain⟨z,hz,aps,hps,rfl⟩:=hc;simp only[aop,aO,<-br]at ha;cases hf:fS T z aps with
    |none=>simp[hf]at ha
    |some cs=>
     simp only[hf]at ha;cases ha;obtain⟨cv,h1,h2⟩:=tY (P:=P) (h:=h) (own:=own) (β:=β) (w:=w) (λx y hxy=>fT hs hxy) hu hfs hz hps hf;simp only[execOp,hop];exact .val hp h1 h2
   ·cases hc
  ·rename_i n e hu;simp only[bind,amW,pure,am4]at hc;obtain⟨s,hsz,z,hz,aps,hps,rfl⟩:=hc;simp only[aop,aO,<-br]at ha;cases hf:fS T z aps with
   |none=>simp[hf]at ha
   |some cs=>
    simp only[hf]at ha;cases ha;obtain⟨cv,h1,h2⟩:=wS (P:=P) (h:=h) (own:=own) (β:=β) (w:=w) (λx y hxy=>fT hs hxy) hu hsz hz hps hf;simp only[execOp,hop];exact .val hp h1 h2
  ·cases hc
 case load t x=>
  simp only[bind,amW]at hc;obtain⟨n,hn,hc⟩:=hc;cases n with
  |none=>
   simp only[amW,pure,am4]at hc;obtain⟨y,hy,rfl⟩:=hc;simp only[aop,eK,<-br]at ha;cases hl:jQ h (y.ev T)with
   |none=>simp[hl]at ha
   |some u=>
    simp only[hl]at ha;cases ha;obtain⟨cv,h1,h2⟩:=Ea (P:=P) hp hn hl (fT hs hy);simp only[execOp,hop];exact .val hp h1 h2
  |some n=>
   simp only[amW,pure,am4]at hc;obtain⟨y,hy,rfl⟩:=hc;simp only[aop,bj,<-br]at ha;cases hl:gm h n (y.ev T)with
   |none=>simp[hl]at ha
   |some u=>
    simp only[hl]at ha;cases ha;obtain⟨cv,h1,h2⟩:=Dg (P:=P) hp hn hl (fT hs hy);simp only[execOp,hop];exact .val hp h1 h2
 case store t x y=>
  simp only[bind,amW,pure,am4]at hc;obtain⟨n,hn,x',hx',y',hy',rfl⟩:=hc;simp only[aop,kSt,<-br]at ha;split at ha
  ·rename_i hst;split at ha
   ·rename_i hlen;simp only[amZ,ana]at hlen;have h1:=fT hs hx';cases hxv:x'.ev T<;>rw[hxv]at ha h1<;>(try simp only at ha)<;>try(cases ha;done)
    rename_i id off;cases hcs:h.ab id with
    |none=>simp[hcs]at ha
    |some cs=>
     simp only[hcs]at ha;cases hsp:fi cs off (y'.ev T).cells with
     |none=>simp[hsp]at ha
     |some cs'=>
      simp only[hsp]at ha;cases ha;obtain⟨w',h2,h3,h4⟩:=S8 (P:=P) hp hn hst hlen.1 hlen.2 hcs hsp h1 (fT hs hy');simp only[execOp,hop];exact⟨Go.undef,w',β,.inr ⟨by simp only[anq,h2,ani,anG],rfl⟩,h3,.undef _,h4⟩
   ·cases ha
  ·cases ha
 case nilCheck x=>
  simp only[anm]at hc;obtain⟨y,hy,rfl⟩:=hc;simp only[aop,aq,<-br]at ha;have h1:=fT hs hy;generalize hce:a.eval x=cv at h1;simp only[execOp,hop,hce];cases hyv:y.ev T<;>rw[hyv]at ha h1<;>(try simp only at ha)<;>try(cases ha;done)
  ·cases ha;have h1':=h1;cases h1;exact .still hp (by simp) h1'
  ·cases ha;have h1':=h1;cases h1;exact .still hp (by simp) h1'
  ·cases ha;have h1':=h1;cases h1;exact .still hp (by simp) h1'
  ·rename_i fn f1 c1;cases fn<;>(try simp only at ha)<;>try(cases ha;done)
   cases ha;have h1':=h1;cases h1;exact .still hp (by simp) h1'
 case binOp op t x y ty=>
  simp only[bind,amW]at hc;obtain⟨x',hx',y',hy',hc⟩:=hc;have hx:=fT hs hx';have hy:=fT hs hy';have plain:∀op',ao =.arith op' x' y'->op'=op->nd P own β h w (execOp a.eval o) v h':=by
   intro op' he ho;subst he;subst ho;simp only[aop,ae,<-br]at ha;cases hq:dy op' (x'.ev T) (y'.ev T)with
   |none=>simp[hq]at ha
   |some u=>
    simp only[hq]at ha;cases ha;obtain⟨cv,h1,h2⟩:=R4 (P:=P) (w:=w) (t:=t) (ox:=x) (oy:=y) hq hx hy;simp only[execOp,hop];exact .val hp h1 h2
  have eqs:∀neg,(op=if neg then .neq else .eql)->cEq P neg t x' y'=some ao->nd P own β h w (execOp a.eval o) v h':=by
   intro neg ho hq;unfold cEq at hq;have nn:∀(k:NK) (d:TypeDesc),P.underlying t=some d->k.fits d->ao =.eqn k neg x' y'->nd P own β h w (execOp a.eval o) v h':=by
    intro k d hu hf he;subst he;simp only[aop,NF,<-br]at ha;cases hq2:ah0 k (x'.ev T) (y'.ev T)with
    |none=>simp[hq2]at ha
    |some r=>
     simp only[hq2]at ha;cases ha;simp only[execOp,hop,ho];exact .val hp (ay3 hu hf hq2 hx hy) (.bool _)
   split at hq
   ·rename_i hu;cases hq;simp only[aop,arJ,<-br]at ha;cases hxv:x'.ev T<;>rw[hxv]at ha hx<;>(try simp only at ha)<;>try(cases ha;done)
    cases hyv:y'.ev T<;>rw[hyv]at ha hy<;>(try simp only at ha)<;>try(cases ha;done)
    cases ha;simp only[execOp,hop,ho];generalize a.eval x=cx at hx;generalize a.eval y=cy at hy;cases hx;cases hy;exact .val hp (Zc hu) (.bool _)
   ·exact plain _ (by cases hq;rfl) (by rw[ho])
   ·exact plain _ (by cases hq;rfl) (by rw[ho])
   ·rename_i e hu;exact nn .ptr _ hu trivial (by cases hq;rfl)
   ·rename_i e hu;exact nn .sl _ hu trivial (by cases hq;rfl)
   ·rename_i k e hu;exact nn .mp _ hu trivial (by cases hq;rfl)
   ·rename_i q1 q2 q3 hu;exact nn .fn _ hu trivial (by cases hq;rfl)
   ·rename_i fs hu;split at hq
    ·cases hq
    ·rename_i hgt;simp only[anm]at hq;obtain⟨ks,hks,rfl⟩:=hq;simp only[aop,pb,<-br]at ha;cases hxv:x'.ev T<;>rw[hxv]at ha hx<;>(try simp only at ha)<;>try(cases ha;done)
     cases hyv:y'.ev T<;>rw[hyv]at ha hy<;>(try simp only at ha)<;>try(cases ha;done)
     rename_i xs ys;cases hq2:bA ks xs ys with
     |none=>simp[hq2]at ha
     |some r=>
      simp only[hq2]at ha;cases ha;obtain⟨vx,hvx,hRx⟩:=VR.Mv hx;obtain⟨vy,hvy,hRy⟩:=VR.Mv hy;simp only[execOp,hop,ho,hvx,hvy];have agR:∃m,hY P t=some m/\m.isSome:=by
       have:(P.info? t).isSome:=by
        unfold Program.underlying at hu;cases hi:P.info? t with
        |none=>simp[hi]at hu
        |some i=>rfl
       cases hi:P.info? t with
       |none=>simp[hi]at this
       |some i=>exact⟨some i.size,by simp[hY,hu,jI,hi],rfl⟩
      have heq:=(aaM (P:=P) (w:=w) (hp:=w.heap) (L:=LL own β h.H) (β:=β) 50 t ks hks 10000 xs ys r (by omega) hq2).2 vx vy agR hRx hRy;have hgd:=run_eqGuard_agg (P:=P) w (if neg then .neq else .eql) t x y vx vy (by simpa using hgt);refine .val hp (cv:=.bool (if neg then !r else r)) ?_ (.bool _);simp only[anq,hgd,ani];cases neg
      ·simp only[am7,ans,run_eql_struct,heq,ani]
      ·simp only[anH,run_neq_struct,heq,ani]
   ·cases hq
  cases op<;>simp only[pure,am4]at hc;case eql=>exact eqs false rfl hc
  case neq=>exact eqs true rfl hc
  all_goals exact plain _ hc.symm rfl
 case unOp op t x=>
  simp only[anm]at hc;obtain⟨y,hy,rfl⟩:=hc;simp only[aop,kUn,<-br]at ha;have h1:=fT hs hy;generalize hce:a.eval x=cv at h1;simp only[execOp,hop,hce];cases hyv:y.ev T<;>rw[hyv]at ha h1<;>simp only[aun]at ha<;>try(cases ha;done)
  ·cases h1;cases op<;>(try simp only at ha)<;>try(cases ha;done)
   cases ha;exact .val hp (by simp[Op.unary]) (.bool _)
  ·cases h1;cases op<;>(try simp only at ha)<;>try(cases ha;done)
   ·cases ha;refine .val hp ?_ (.int _ _);simp only[Op.unary,Op.intArith];rfl
   ·cases ha;refine .val hp ?_ (.int _ _);simp only[Op.unary,Op.intBits];rfl
 case convert src dst x=>
  split at hc
  ·rename_i d k hu1 hu2;simp only[bind,amW,pure,am4]at hc;obtain⟨y,hy,rfl⟩:=hc;simp only[aop,cB,<-br]at ha;have h1:=fT hs hy;generalize hce:a.eval x=cv at h1;simp only[execOp,hop,hce];cases hyv:y.ev T<;>rw[hyv]at ha h1<;>(try simp only at ha)<;>try(cases ha;done)
   ·cases ha;cases h1;exact .val hp (by simp[convert,anJ hu1,anJ hu2,Conv.intToInt]) (.int _ _)
  ·cases hc
 case fieldAddr s x f=>
  split at hc
  ·rename_i fs hu;simp only[bind,amW]at hc;obtain⟨g,hg,n,hn,hc⟩:=hc;split at hc
   ·cases hc
   ·rename_i hn0;simp only[amW,pure,am4]at hc;obtain⟨y,hy,rfl⟩:=hc;simp only[aop,ah,<-br]at ha;cases hq:n9 g.offset (y.ev T)with
    |none=>simp[hq]at ha
    |some u=>
     simp only[hq]at ha;cases ha;obtain⟨cv,h1,h2⟩:=NI (P:=P) (w:=w) hu hg hn hn0 (fT hs hy) hq;simp only[execOp,hop];exact .val hp h1 h2
  ·cases hc
 case indexAddr t x i=>
  split at hc
  ·rename_i e hu;simp only[bind,amW,pure,am4]at hc;obtain⟨z,hz,x',hx',i',hi',rfl⟩:=hc;simp only[aop,aF,<-br]at ha;cases hq:yF z (x'.ev T) (i'.ev T)with
   |none=>simp[hq]at ha
   |some u=>
    simp only[hq]at ha;cases ha;obtain⟨cv,h1,h2⟩:=Xd (P:=P) (w:=w) hu hz (fT hs hx') (fT hs hi') hq;simp only[execOp,hop];exact .val hp h1 h2
  ·rename_i n e hu;simp only[bind,amW,pure,am4]at hc;obtain⟨z,hz,x',hx',i',hi',rfl⟩:=hc;simp only[aop,fv,<-br]at ha;cases hj:aix n (i'.ev T)with
   |none=>simp[hj]at ha
   |some j=>
    simp only[hj]at ha;cases hq:n9 (j*z) (x'.ev T)with
    |none=>simp[hq]at ha
    |some u=>
     simp only[hq]at ha;cases ha;obtain⟨cv,h1,h2⟩:=G8 (P:=P) (w:=w) hu hz (fT hs hx') (fT hs hi') hj hq;simp only[execOp,hop];exact .val hp h1 h2
  ·cases hc
 case index t x i=>
  split at hc
  ·rename_i hu;simp only[bind,amW,pure,am4]at hc;obtain⟨x',hx',i',hi',rfl⟩:=hc;simp only[aop,dH,<-br]at ha;have h1:=fT hs hx';cases hxv:x'.ev T<;>rw[hxv]at ha h1<;>(try simp only at ha)<;>try(cases ha;done)
   rename_i s;cases hj:aix s.length (i'.ev T)with
   |none=>simp[hj]at ha
   |some j=>
    simp only[hj]at ha;cases hq:s[j]? with
    |none=>simp[hq]at ha
    |some c=>
     simp only[hq]at ha;cases ha;have h2:=Xi (P:=P) (w:=w) hu (fT hs hi') hj hq;generalize hce:a.eval x=cx at h1;cases h1;simp only[execOp,hop,hce];exact .val hp h2 (.int _ _)
  ·cases hc
 case slice t x lo hi mx=>
  split at hc
  ·rename_i e hu;simp only[bind,amW]at hc;obtain⟨s,hsz,hc⟩:=hc;split at hc
   ·cases hc
   ·simp only[amW,pure,am4]at hc;obtain⟨x',hx',lo',acD,hi',abM,mx',ajt,rfl⟩:=hc;simp only[aop,kSl,<-br]at ha;cases hq:lF s (x'.ev T) (lo'.map (·.ev T)) (hi'.map (·.ev T)) (mx'.map (·.ev T))with
    |none=>simp[hq]at ha
    |some u=>
     simp only[hq]at ha;cases ha;obtain⟨cv,h1,h2⟩:=Pj (P:=P) (w:=w) hu hsz (fT hs hx') (pa hs acD) (pa hs abM) (pa hs ajt) hq;simp only[execOp,hop];exact .val hp h1 h2
  ·rename_i hu;split at hc
   ·cases hc
   ·rename_i hmx;have hmn:mx=none:=by cases mx<;>simp_all
    subst hmn;simp only[bind,amW,pure,am4]at hc;obtain⟨x',hx',lo',acD,hi',abM,rfl⟩:=hc;simp only[aop,gI,<-br]at ha;have h1:=fT hs hx';cases hxv:x'.ev T<;>rw[hxv]at ha h1<;>(try simp only at ha)<;>try(cases ha;done)
    rename_i s;cases hq:mC s (lo'.map (·.ev T)) (hi'.map (·.ev T))with
    |none=>simp[hq]at ha
    |some r=>
     simp only[hq]at ha;cases ha;have h2:=M3 (P:=P) (w:=w) hu (pa hs acD) (pa hs abM) hq;generalize hce:a.eval x=cx at h1;cases h1;simp only[execOp,hop,hce];exact .val hp h2 (.str _)
  ·cases hc
 case extract x i=>
  simp only[bind,amW,pure,am4]at hc;obtain⟨y,hy,rfl⟩:=hc;simp only[aop,cm,<-br]at ha;have h1:=fT hs hy;cases hyv:y.ev T<;>rw[hyv]at ha h1<;>(try simp only at ha)<;>try(cases ha;done)
  rename_i vs;cases hq:vs[i]? with
  |none=>simp[hq]at ha
  |some u=>
   simp only[hq]at ha;cases ha;obtain⟨cs,hcs,hR⟩:=VR.Mu h1;obtain⟨cv,h2,h3⟩:=hR.get hq;simp only[execOp,hop,hcs];refine .val hp (cv:=cv) ?_ h3;have h4:cs[i]?=some cv:=by simpa using h2
   simp[Instr.extract,h4]
 case call c=>
  obtain⟨callee,args,tys⟩:=c;simp only at hc;split at hc
  ·simp only[bind,amW,pure,am4]at hc;obtain⟨f',hf',as',agQ,rfl⟩:=hc;exact absurd rfl (hnc _ _)
  ·-- len
   split at hc
   ·rename_i x t zI ai5;have qN:args = #[x]:=by cases args;simp_all
    have UY:tys = #[t]:=by cases tys;simp_all
    subst qN;subst UY;split at hc
    ·rename_i hu;simp only[bind,amW,pure,am4]at hc;obtain⟨y,hy,rfl⟩:=hc;simp only[aop,cL,<-br]at ha;have h1:=fT hs hy;generalize hce:a.eval x=cv at h1;cases hyv:y.ev T<;>rw[hyv]at ha h1<;>(try simp only at ha)<;>try(cases ha;done)
     cases ha;cases h1;simp only[execOp,hop];rename_i s;refine .still hp (cv:=.int .i64 s.length) ?_ (.int _ _);simp[resolve,invoke,builtin,Builtin.len_,anJ hu,goInt,hce,ed]
    ·rename_i e hu;simp only[bind,amW,pure,am4]at hc;obtain⟨y,hy,rfl⟩:=hc;simp only[aop,bh,<-br]at ha;have h1:=fT hs hy;cases hq:fj (y.ev T)with
     |none=>simp[hq]at ha
     |some n=>
      simp only[hq]at ha;cases ha;obtain⟨b,cap,hb,_⟩:=qq h1 hq;simp only[execOp,hop];refine .still hp (cv:=.int .i64 n) ?_ (.int _ _);simp[resolve,invoke,builtin,Builtin.len_,anJ hu,goInt,hb]
    ·cases hc
   ·cases hc
  ·-- append
   split at hc
   ·rename_i s x t u zI ai5;have qN:args = #[s,x]:=by cases args;simp_all
    have UY:tys = #[t,u]:=by cases tys;simp_all
    subst qN;subst UY;split at hc
    ·cases hc
    ·rename_i htu;simp only[ne_eq,aos]at htu;subst htu;split at hc
     ·rename_i e hu;simp only[bind,amW]at hc;obtain⟨z,hz,sz,hsz,hc⟩:=hc;split at hc
      ·cases hc
      ·rename_i hzl;simp only[amW,pure,am4]at hc;obtain⟨by_,hby,s',hs',x',hx',rfl⟩:=hc;simp only[anV,ana,an2,not_or,ne_eq,aos]at hzl;simp only[aop,dK,<-br]at ha;have:=Nw (P:=P) (ty:=o.type) hp hu hz hsz hzl.1 hzl.2 hby (fT hs hs') (fT hs hx') ha;simp only[execOp,hop];simpa[resolve,invoke,builtin]using this
     ·cases hc
   ·cases hc
  ·-- copy
   split at hc
   ·rename_i s x t u zI ai5;have qN:args = #[s,x]:=by cases args;simp_all
    have UY:tys = #[t,u]:=by cases tys;simp_all
    subst qN;subst UY;split at hc
    ·cases hc
    ·rename_i htu;simp only[ne_eq,aos]at htu;subst htu;split at hc
     ·rename_i e hu;simp only[bind,amW]at hc;obtain⟨sz,hsz,hc⟩:=hc;split at hc
      ·cases hc
      ·simp only[amW,pure,am4]at hc;obtain⟨s',hs',x',hx',rfl⟩:=hc;simp only[aop,yq,<-br]at ha;have:=axW (P:=P) (ty:=o.type) hp hu hsz (fT hs hs') (fT hs hx') ha;simp only[execOp,hop];simpa[resolve,invoke,builtin]using this
     ·cases hc
   ·cases hc
  ·-- min
   split at hc
   ·rename_i x y zI;have qN:args = #[x,y]:=by cases args;simp_all
    subst qN;simp only[bind,amW,pure,am4]at hc;obtain⟨x',hx',y',hy',rfl⟩:=hc;simp only[aop,iy,<-br]at ha;have h1:=fT hs hx';have h2:=fT hs hy';split at ha
    ·rename_i k m k' n hm hn;cases ha;rw[hm]at h1;rw[hn]at h2;generalize I7:a.eval x=cx at h1;generalize Jj:a.eval y=cy at h2;cases h1;cases h2;simp only[execOp,hop];refine .still hp (cv:=.int k (if n<m then n else m)) ?_ (.int _ _);simp[resolve,invoke,builtin,Builtin.min_,Builtin.min2,I7,Jj]
    ·split at ha
     ·rename_i v' hv';cases ha;obtain⟨k,m,n,I7,Jj,hvr⟩:=Re hv' h1 h2;simp only[execOp,hop];refine .still hp ?_ hvr;simp[resolve,invoke,builtin,Builtin.min_,Builtin.min2,I7,Jj]
     ·cases ha
   ·cases hc
  ·-- max
   split at hc
   ·rename_i x y zI;have qN:args = #[x,y]:=by cases args;simp_all
    subst qN;simp only[bind,amW,pure,am4]at hc;obtain⟨x',hx',y',hy',rfl⟩:=hc;simp only[aop,iy,<-br]at ha;have h1:=fT hs hx';have h2:=fT hs hy';split at ha
    ·rename_i k m k' n hm hn;cases ha;rw[hm]at h1;rw[hn]at h2;generalize I7:a.eval x=cx at h1;generalize Jj:a.eval y=cy at h2;cases h1;cases h2;simp only[execOp,hop];refine .still hp (cv:=.int k (if m<n then n else m)) ?_ (.int _ _);simp[resolve,invoke,builtin,Builtin.max_,Builtin.max2,I7,Jj]
    ·split at ha
     ·rename_i v' hv';cases ha;obtain⟨k,m,n,I7,Jj,hvr⟩:=Re hv' h1 h2;simp only[execOp,hop];refine .still hp ?_ hvr;simp[resolve,invoke,builtin,Builtin.max_,Builtin.max2,I7,Jj]
     ·cases ha
   ·cases hc
  ·cases hc
end
open MapKept
section
variable {P:Program}
end
section
variable {hp:Array Obj} {L:Nat->Prop} {β:Bl}
end
section
variable {P:Program} {hp:Array Obj} {L:Nat->Prop} {β:Bl}
end
section
variable {P:Program} {own:Nat->Prop} {β:Bl} {h:AH} {w:World}
theorem D6{H:Hp}{nx:Nat}(hs:bV own β H nx w)(r:Nat)(hr:β r=none){t:TypeId}{z:List AV}(hq:fN P t=some z):∃v:Value,(do pure (Next.value (<-Instr.alloc t true (.tuple #[]))):Sem Next).run P w =.ok (.value (.pointer (some ⟨w.heap.size,0,none⟩))) { w with heap:=w.heap.push (.cells v.cells t) }/\
  bV own (upd β r w.heap.size 0) (H.put r (.typ (2*t+1) z)) (max nx (r+1)) { w with heap:=w.heap.push (.cells v.cells t) }/\(nx<=r->bJ own β ⟨H,nx⟩ w (upd β r w.heap.size 0) ⟨H.put r (.typ (2*t+1) z),max nx (r+1)⟩ { w with heap:=w.heap.push (.cells v.cells t) })/\bJ own β ⟨H,0⟩ w (upd β r w.heap.size 0) ⟨H.put r (.typ (2*t+1) z),0⟩ { w with heap:=w.heap.push (.cells v.cells t) }:=by
 obtain⟨v,h1,h2⟩:=iO (P:=P) (w:=w) hq (hp:=w.heap) (L:=LL own β H) (β:=β);have hl:z.length=v.cells.size:=by simpa using h2.1
 refine⟨v,?_,hs.newObj (w':={ w with heap:=w.heap.push (.cells v.cells t) }) r hr (.typ (2*t+1) z) (.cells v.cells t) rfl rfl rfl rfl
  (λhp' L' β' hl' hb=>⟨rfl,v.cells,by rw[S0];exact hb,⟨by omega,λ_=>by omega⟩,λi c u hc hu=>(h2.2 i c u hc (by simpa using hu)).later hl'⟩)⟩
 simp only[Instr.alloc,newVar,anq,h1,ani,anG];rfl
theorem Wh(hs:bV own β h.H h.nx w){t:TypeId}{z:List AV}(hq:fN P t=some z):
  nd P own β h w (do pure (.value (<-Instr.alloc t true (.tuple #[])))) (.ptr h.nx 0) (h.add (.typ (2*t+1) z)):=by
 obtain⟨v,h1,h2,h3,_⟩:=D6 hs h.nx (hs.fresh _ (amY _)) hq;have hmx:max h.nx (h.nx+1)=h.nx+1:=by omega
 rw[hmx]at h2 h3;exact⟨_,_,_,.inl h1,h2,.ptr _ 0 _ 0 (dz _ _ _ _),h3 (amY _)⟩
theorem Kt(hs:bV own β h.H h.nx w){t:TypeId}{ms:Array (String×TypeId)}(hu:P.underlying t=some (.interface ms)){neg:Bool}{x v:AV}{h':AH}{cx:Value}{ox:Operand}(ha:kX h (.ym neg) [x]=some (v,h'))(hv:VR w.heap (LL own β h.H) β x cx):
  nd P own β h w (do pure (Next.value (<-(do eqGuard (if neg then .neq else .eql) t ox (.const .nilIface) cx .nilIface;binOp (if neg then .neq else .eql) t cx .nilIface:Sem Value)))) v h':=by
 have e1:∀n,(Op.equalIn (n+1) t .nilIface .nilIface).run P w =.ok true w:=λn=>by simp[Op.equalIn,anJ hu]
 have e2:∀n t2 u,(Op.equalIn (n+1) t (.iface t2 u) .nilIface).run P w =.ok false w:=λn t2 u=>by simp[Op.equalIn,anJ hu]
 have e3:(Op.equal t .nilIface .nilIface).run P w =.ok true w:=e1 9999;have e4:∀t2 u,(Op.equal t (.iface t2 u) .nilIface).run P w =.ok false w:=λt2 u=>e2 9999 t2 u
 cases x<;>simp only[kX]at ha<;>try(cases ha;done)
 ·cases ha;cases hv;refine .val hs (cv:=.bool (!neg)) ?_ (.bool _);cases neg<;>simp[eqGuard,binOp,e3]
 ·cases ha;cases hv;refine .val hs (cv:=.bool neg) ?_ (.bool _);cases neg<;>simp[eqGuard,binOp,e4]
end
section
variable {P:Program} {own:Nat->Prop} {β:Bl} {h:AH} {w:World}
end
section
variable {P:Program} {nt:Nat} {ds:List Deferred} {own:Nat->Prop} {β:Bl} {T:Tm} {h:AH} {a:Act} {w:World}
theorem Zd(cl:cI)(hs:Sim nt ds own β T h a w){o:Oper}{ao:AOp}{v:AV}{h':AH}(hc:cM P o.op=some ao)(ha:aop cl T h ao=some (v,h')):nd P own β h w (execOp a.eval o) v h':=by
 have hp:=hs.hp;unfold cM at hc;split at hc
 ·rename_i t x ty hop;split at hc
  ·rename_i ms y hu hy;cases hc;have hv:=fT hs hy;simp only[aop,anO,aoq]at ha;generalize y.ev T=yv at ha hv;simp only[execOp,hop];exact Kt hp hu (neg:=false) (ox:=x) ha hv
  ·cases hc
 ·rename_i t x ty hop;split at hc
  ·rename_i ms y hu hy;cases hc;have hv:=fT hs hy;simp only[aop,anO,aoq]at ha;generalize y.ev T=yv at ha hv;simp only[execOp,hop];exact Kt hp hu (neg:=true) (ox:=x) ha hv
  ·cases hc
 ·rename_i t hop;simp only[execOp,hop];split at hc
  ·simp only[anm]at hc;obtain⟨z,hz,rfl⟩:=hc;simp only[aop,aoq,kX]at ha;cases ha;exact Wh hp hz
  ·cases hc
 ·cases hc
end
section
variable {P:Program} {own:Nat->Prop} {β:Bl} {T:Tm} {a:Act} {w:World}
theorem MX{H:Hp}{nx:Nat}(hs:bV own β H nx w)(hρ:∀x y,dv x=some y->VR w.heap (LL own β H) β (y.ev T) (a.eval x)){o:Oper}{ao:AOp}{ob:dx}{mk:Nat->AV}(hc:ud P o.op=ao)(ha:eg T ao=some (ob,mk))(r:Nat)(hr:β r=none):
  DY P own β H nx w (execOp a.eval o) (mk r) ob r:=by
 unfold ud at hc;split at hc
 ·rename_i ao' h1;subst hc;exact Dl hs hρ h1 ha r hr
 ·split at hc
  ·rename_i ao' h1;subst hc;unfold cX at h1;repeat' (split at h1)
   all_goals first|(cases h1;done)|(cases h1;simp[eg,xal]at ha;done)
  ·split at hc
   ·rename_i ao' h1;subst hc;unfold cM at h1;split at h1
    ·split at h1
     ·cases h1;simp[eg,xal]at ha
     ·cases h1
    ·split at h1
     ·cases h1;simp[eg,xal]at ha
     ·cases h1
    ·rename_i t hop;split at h1
     ·simp only[anm]at h1;obtain⟨z,hz,rfl⟩:=h1;simp only[execOp,hop];simp only[eg,aoq,xal]at ha;cases ha;obtain⟨v,k1,k2,k3⟩:=D6 hs r hr hz;exact⟨_,_,k1,k2,.ptr _ 0 _ 0 (dz _ _ _ _),k3⟩
     ·cases h1
    all_goals (repeat' (split at h1))
    all_goals first|(cases h1;done)|(cases h1;simp[eg,xal]at ha;done)
   ·subst hc;simp[eg]at ha
end
theorem x_(l:List UInt8)(hl:∀b∈l,b.toNat<128):∀(bound i:Nat) (acc:Array Value),i<=l.length->l.length-i<=bound->
  Conv.runesFrom ⟨l.toArray⟩ bound i acc=acc++((l.drop i).map λb=>Value.int .i32 (b.toNat:Int)).toArray:=by
 intro bound;induction bound with
 |zero=>
  intro i acc hi hb;have:l.drop i=[]:=anf (by omega);simp[Conv.runesFrom,this]
 |succ n ih=>
  intro i acc hi hb;unfold Conv.runesFrom;have hs:(⟨l.toArray⟩:ByteArray).size=l.length:=ed l;by_cases h:i<l.length
  ·rw[am1 (by rw[hs];exact h)];have um:((⟨l.toArray⟩:ByteArray).get! (i+0))=l[i]:=by
    simp[ByteArray.get!,getElem!_def,am0 h]
   have hd:Utf8.decode ⟨l.toArray⟩ i=(l[i].toNat,1):=by
    unfold Utf8.decode;simp only[um];rw[am1 (hl _ (anL h))]
   rw[hd];simp only;rw[ih (i+1) _ (by omega) (by omega),ang h,anO];generalize(List.map (λb=>Value.int IntKind.i32 (b.toNat:Int)) (List.drop (i+1) l))=r;simp
  ·rw[amU (by rw[hs];exact h)];have:l.drop i=[]:=anf (by omega);simp[this]
theorem Np(s:List UInt8)(i:Nat):Utf8.decode ⟨s.toArray⟩ i=Utf8.decode ⟨(s.drop i).toArray⟩ 0:=by
 have hg:∀k,((⟨(s.drop i).toArray⟩:ByteArray).get! (0+k))=((⟨s.toArray⟩:ByteArray).get! (i+k)):=by
  intro k;simp[ByteArray.get!,getElem!_def,anl]
 have hs:∀k,decide (0+k<(⟨(s.drop i).toArray⟩:ByteArray).size)=decide (i+k<(⟨s.toArray⟩:ByteArray).size):=by
  intro k;rw[ed,ed,am3];exact decide_eq_decide.2 (by omega)
 unfold Utf8.decode;simp only[hg,hs]
theorem rX(s:ByteArray)(i:Nat):1<=(Utf8.decode s i).2:=by
 unfold Utf8.decode;repeat' (first|split|(simp only[];split))
 all_goals simp
theorem yj(l:List UInt8):∀(bound i:Nat) (acc:Array Value) (n:Nat),l.length-i<=bound->l.length-i<=n->
  Conv.runesFrom ⟨l.toArray⟩ bound i acc=acc++((M1 n (l.drop i)).map λr=>Value.int .i32 r).toArray:=by
 intro bound;induction bound with
 |zero=>
  intro i acc n hb hn;have:l.drop i=[]:=anf (by omega);rw[this];cases n<;>simp[Conv.runesFrom,M1]
 |succ m ih=>
  intro i acc n hb hn;unfold Conv.runesFrom;have hs:(⟨l.toArray⟩:ByteArray).size=l.length:=ed l;by_cases h:i<l.length
  ·rw[am1 (by rw[hs];exact h)];obtain⟨n,rfl⟩:∃k,n=k+1:=⟨n-1,by omega⟩;have hw:=rX ⟨l.toArray⟩ i;have hd:=Np l i;rw[ang h]at hd;rw[ang h];simp only[M1];rw[<-hd];generalize Utf8.decode ⟨l.toArray⟩ i=p at hw;obtain⟨r,w⟩:=p;simp only at hw ⊢;rw[ih (i+w) _ n (by omega) (by omega),<-ang h,an4];simp
  ·rw[amU (by rw[hs];exact h)];have:l.drop i=[]:=anf (by omega);rw[this];cases n<;>simp[M1]
theorem sy(l:List UInt8):Conv.runesFrom ⟨l.toArray⟩ (⟨l.toArray⟩:ByteArray).size 0 #[]=((aD l).map λr=>Value.int .i32 r).toArray:=by
 rw[yj l _ 0 #[] l.length (by rw[ed];omega) (by omega)];simp[aD]
theorem ki:∀(n:Nat) (l:List UInt8),(M1 n l).length<=l.length
 |0,l=>by simp[M1]
 |n+1,[]=>by simp[M1]
 |n+1,b::l=>by
  simp only[M1,am6];have h1:=ki n ((b::l).drop (Utf8.decode ⟨(b::l).toArray⟩ 0).2);have h2:=rX ⟨(b::l).toArray⟩ 0;rw[am3,am6]at h1;omega
theorem Pc{l:List UInt8}(h:asc l=true):∀b∈l,b.toNat<128:=by
 intro b hb;have:=anK.1 h b hb;simpa[Nat.blt_eq]using this
section
variable {hp:Array Obj} {L:Nat->Prop} {β:Bl}
theorem uY:∀(l:List UInt8),RL hp L β (apu l) (l.map λb=>Value.int .i32 (b.toNat:Int))
 |[]=>RL.nil
 |b::l=>RL.cons (.int _ _) (uY l)
theorem KZ:∀(l:List Int),RL hp L β (l.map bH) (l.map λn=>Value.int .i32 n)
 |[]=>RL.nil
 |_::l=>RL.cons (.int _ _) (KZ l)
theorem LX:∀ {cs:List AV} {ns:List Int},xq cs=some ns->cs=ns.map bH
 |[],ns,h=>by simp[xq]at h;subst h;rfl
 |c::cs,ns,h=>by
  unfold xq at h;split at h
  ·cases ‹_::_=[]›
  ·rename_i n r he;cases he;split at h
   ·rename_i l hl;cases h;rw[LX hl];rfl
   ·cases h
  ·cases h
theorem Wy{cs:List AV}{ns:List Int}{vs:List Value}(h:xq cs=some ns)(hR:RL hp L β cs vs):vs=ns.map (Value.int .i32):=by
 have hc:=LX h;subst hc;clear h;induction ns generalizing vs with
 |nil=>have:=hR.1;simp at this;exact anE.1 this.symm
 |cons n ns ih=>
  match vs,hR with
  |[],hR=>exact absurd hR.1 (by simp)
  |v::vs,hR=>
   have hv:=hR.head;rw[ih hR.tail];cases hv;rfl
theorem xy(ns:List Int):runesBytes ns=⟨(cC ns).toArray⟩:=by
 have UJ:∀(ns:List Int) (x:ByteArray),ns.foldl (λr n=>r++Utf8.encode n) x=x++⟨(cC ns).toArray⟩:=by
  intro ns;induction ns with
  |nil=>intro x;show x=x++ByteArray.empty;simp
  |cons m ns ih=>
   intro x;rw[an1,ih,ByteArray.append_assoc];congr 1
 unfold runesBytes;rw[UJ];simp
theorem lM:∀(l:List UInt8),(apu l).length=l.length
 |[]=>rfl
 |_::l=>by simp[apu,lM l]
theorem KC:∀ {cs:List AV} {s:List UInt8} {vs:List Value},wV cs=some s->RL hp L β cs vs->∃ns:List Int,vs=ns.map (Value.int .i32)/\runesBytes ns=⟨s.toArray⟩
 |[],s,vs,h,hR=>by
  simp[wV]at h;subst h;have:vs=[]:=by have:=hR.1;simp at this;exact anE.1 this.symm
  subst this;exact⟨[],rfl,rfl⟩
 |c::cs,s,vs,h,hR=>by
  match vs,hR with
  |[],hR=>exact absurd hR.1 (by simp)
  |v::vs,hR=>
  have hv:=hR.head;have hR':=hR.tail;unfold wV at h;split at h
  ·cases ‹_::_=[]›
  ·rename_i n r he;cases he;split at h
   ·rename_i hn;split at h
    ·rename_i l hl;cases h;obtain⟨ns,h1,h2⟩:=KC hl hR';cases hv;refine⟨n::ns,by simp[h1],?_⟩;have aiL:Utf8.encode n=⟨#[UInt8.ofNat n.toNat]⟩:=by
      have hv:Utf8.valid n=true:=by unfold Utf8.valid;simp;omega
      unfold Utf8.encode;simp only[hv,anH];rw[am1 (by omega)]
     have UJ:∀(ns:List Int) (x:ByteArray),ns.foldl (λr n=>r++Utf8.encode n) x=x++ns.foldl (λr n=>r++Utf8.encode n) ByteArray.empty:=by
      intro ns;induction ns with
      |nil=>intro x;simp
      |cons m ns ih=>intro x;rw[an1,ih,an1,ih (ByteArray.empty++_)];simp[ByteArray.append_assoc]
     unfold runesBytes at h2 ⊢;rw[an1,UJ,h2,aiL];simp only[ByteArray.empty_append];have:=rq [UInt8.ofNat n.toNat] l;simpa using this
    ·cases h
   ·cases h
  ·cases h
theorem yM:∀ {cs:List AV} {s:List UInt8} {vs:List Value},lJ cs=some s->RL hp L β cs vs->∃ns:List Int,vs=ns.map (Value.int .u8)/\(ns.map λn=>UInt8.ofNat n.toNat)=s
 |[],s,vs,h,hR=>by
  simp[lJ]at h;subst h;have:vs=[]:=by have:=hR.1;simp at this;exact anE.1 this.symm
  subst this;exact⟨[],rfl,rfl⟩
 |c::cs,s,vs,h,hR=>by
  match vs,hR with
  |[],hR=>exact absurd hR.1 (by simp)
  |v::vs,hR=>
  have hv:=hR.head;have hR':=hR.tail;unfold lJ at h;split at h
  ·cases ‹_::_=[]›
  ·rename_i n r he;cases he;split at h
   ·rename_i l hl;cases h;obtain⟨ns,h1,h2⟩:=yM hl hR';cases hv;exact⟨n::ns,by simp[h1],by simp[h2]⟩
   ·cases h
  ·cases h
end
section
variable {P:Program} {own:Nat->Prop} {β:Bl} {h:AH} {w:World}
theorem oH{a:Addr}{m cap:Nat}{vs:List Value}(hl:vs.length=m*1)(hf:∀n,n<=m->∀w',w'.heap=w.heap->(Builtin.firstCells 1 n (.slice (some a) m cap)).run P w' =.ok (vs.take (n*1)).toArray w'):
  (loadCells a m).run P w =.ok vs.toArray w:=by
 have:=hf m (amY _) w rfl;rw[anc (by omega)]at this;simpa[Builtin.firstCells]using this
theorem Zz(hs:bV own β h.H h.nx w){src dst e:TypeId}{s:List UInt8}(h1:P.underlying src=some .string)(h2:P.underlying dst=some (.slice e))(h3:P.underlying e=some (.int .i32))
  (ha:asc s=true) (hn:s.length<=1000000):nd P own β h w (do pure (.value (<-convert src dst (.string ⟨s.toArray⟩)))) (.rsl h.nx 0 s.length 1) (h.add (.cells (apu s))):=by
 have hr:Conv.runesFrom ⟨s.toArray⟩ (⟨s.toArray⟩:ByteArray).size 0 #[]=(s.map λb=>Value.int .i32 (b.toNat:Int)).toArray:=by
  rw[x_ s (Pc ha) _ 0 #[] (aoo _) (by rw[ed];omega)];simp
 have fc:=run_runes_of_string (P:=P) w src dst e ⟨s.toArray⟩ h1 h2 h3 (by rw[hr];simp;omega);rw[hr]at fc;obtain⟨β',g1,g2,g3⟩:=uu (w:=w) hs (e:=e) (z:=1) (i:=default) (zv:=.int .i32 0) rfl s.length 0 (by omega) (as:=apu s) (vs:=(s.map λb=>Value.int .i32 (b.toNat:Int)).toArray) (by simpa using uY s) (by rw[lM];omega);have hz:Builtin.zeroCells (Value.int .i32 0).cells (grownCap w s.length 0 e-s.length)=Array.replicate (grownCap w s.length 0 e-s.length) (.int .i32 0):=by
  have hcl:(Value.int .i32 0).cells = #[Value.int .i32 0]:=rfl;rw[hcl];apply Array.ext
  ·simp[Builtin.zeroCells]
  ·intro i h1 h2;simp[Builtin.zeroCells,Nat.mod_one]
 rw[hz]at g1 g2 g3;refine⟨_,_,β',.inl ?_,g1,g2,g3⟩;simp only[anq,fc,ani,anG];simp
theorem aai(hs:bV own β h.H h.nx w){src dst e:TypeId}{x:AV}{cx:Value}{cs:List AV}{m:Nat}{s:List UInt8}(h1:P.underlying src=some (.slice e))(h2:P.underlying dst=some .string)(h3:P.underlying e=some (.int .i32))
  (hx:VR w.heap (LL own β h.H) β x cx) (hc:cj h 1 x=some cs) (hm:fj x=some m) (ha:wV cs=some s):nd P own β h w (do pure (.value (<-convert src dst cx))) (.str s) h:=by
 obtain⟨a,cap,vs,rfl,_,hR,hl,hf⟩:=u9 (P:=P) hs hc hm hx;obtain⟨ns,rfl,hb⟩:=KC ha hR;refine .still hs (cv:=.string ⟨s.toArray⟩) ?_ (.str s);simp only[anq,run_convert_runes_string w src dst e a m cap h1 h3 h2];cases a with
 |none=>
  have:m=0:=by
   cases hx<;>simp[fj]at hm<;>omega
  subst this;have:ns=[]:=by simpa using hl
  subst this;have:(⟨s.toArray⟩:ByteArray) =.empty:=hb.symm;rw[this];rfl
 |some ad=>
  rw[run_runesToString w ad m cap ns (oH hl hf),hb];simp
theorem axy(hs:bV own β h.H h.nx w){src dst e:TypeId}{s:List UInt8}(h1:P.underlying src=some .string)(h2:P.underlying dst=some (.slice e))(h3:P.underlying e=some (.int .i32))
  (hn:s.length<=1000000):nd P own β h w (do pure (.value (<-convert src dst (.string ⟨s.toArray⟩)))) (.rsl h.nx 0 (aD s).length 1) (h.add (.cells ((aD s).map bH))):=by
 have hr:=sy s;have hlen:=ki s.length s;have fc:=run_runes_of_string (P:=P) w src dst e ⟨s.toArray⟩ h1 h2 h3 (by rw[hr];simp[aD];omega);rw[hr]at fc;have hsz:(List.map (λr=>Value.int IntKind.i32 r) (aD s)).toArray.size=(aD s).length:=by simp
 rw[hsz]at fc;obtain⟨β',g1,g2,g3⟩:=uu (w:=w) hs (e:=e) (z:=1) (i:=default) (zv:=.int .i32 0) rfl (aD s).length 0 (by unfold aD;omega) (as:=(aD s).map bH) (vs:=((aD s).map λr=>Value.int .i32 r).toArray) (by simpa using KZ (aD s)) (by simp);have hz:Builtin.zeroCells (Value.int .i32 0).cells (grownCap w (aD s).length 0 e-(aD s).length)=Array.replicate (grownCap w (aD s).length 0 e-(aD s).length) (.int .i32 0):=by
  have hcl:(Value.int .i32 0).cells = #[Value.int .i32 0]:=rfl;rw[hcl];apply Array.ext
  ·simp[Builtin.zeroCells]
  ·intro i h1 h2;simp[Builtin.zeroCells,Nat.mod_one]
 rw[hz]at g1 g2 g3;refine⟨_,_,β',.inl ?_,g1,g2,g3⟩;simp only[anq,fc,ani,anG]
theorem bV.aAx{own:Nat->Prop}{β:Bl}{H:Hp}{nx:Nat}{w w':World}(hs:bV own β H nx w)(ob:Obj)(hh:w'.heap=w.heap.push ob)(h1:w'.os=w.os)(h2:w'.tape=w.tape)(h3:w'.output=w.output):
  bV own β H nx w'/\bJ own β ⟨H,nx⟩ w β ⟨H,nx⟩ w':=by
 have hsz:w'.heap.size=w.heap.size+1:=by rw[hh];simp
 have hold:∀b,b<w.heap.size->w'.heap[b]?=w.heap[b]?:=λb hb=>by rw[hh,Array.getElem?_push,amU (by omega)]
 have ht:bJ own β ⟨H,nx⟩ w β ⟨H,nx⟩ w':=
  ⟨λ_ _ h=>h,λ_ _=>rfl,amY _,by omega,λb hb _=>hold b hb,λ_ h=>.inl h,λb cur e fz hc=>⟨cur,fz,by rw[hold b (gg hc)];exact hc,rfl,λ_=>rfl⟩,h1,h2,h3⟩
 refine⟨⟨hs.fresh,λid b base hb=>by have:=hs.lt id b base hb;omega,λb hb=>by have:=hs.mf b hb;omega,λid o hg=>?_,hs.inj⟩,ht⟩;obtain⟨b,base,q1,q2,q3⟩:=hs.obj id o hg;exact⟨b,base,q1,q2,q3.later ht.later (hold b (hs.lt id b base q1))⟩
theorem azi(hs:bV own β h.H h.nx w){src dst e:TypeId}{s:List UInt8}(h1:P.underlying src=some .string)(h2:P.underlying dst=some (.slice e))(h3:P.underlying e=some (.int .u8)):
  nd P own β h w (do pure (.value (<-convert src dst (.string ⟨s.toArray⟩)))) (.psl (s.map λc=>[.int .u8 c.toNat])) h:=by
 have fc:=run_bytes_of_string (P:=P) w src dst e ⟨s.toArray⟩ h1 h2 h3;have hsz:(⟨s.toArray⟩:ByteArray).size=(s.map λc=>[AV.int .u8 (c.toNat:Int)]).length:=by rw[ed,aor]
 generalize ta:grownCap w (⟨s.toArray⟩:ByteArray).size 0 e=cap at fc;have hge:(⟨s.toArray⟩:ByteArray).size<=cap:=by rw[<-ta];exact grownCap_ge w _ 0 e
 obtain⟨g1,g2⟩:=hs.aAx (w':=w.drew.alloc (.cells (bytesRow ⟨s.toArray⟩ cap) e ((bytesRow ⟨s.toArray⟩ cap).size,(bytesRow ⟨s.toArray⟩ cap).size+1))) _ rfl rfl rfl rfl;refine⟨.slice (some ⟨w.heap.size,0,none⟩) (⟨s.toArray⟩:ByteArray).size cap,_,β,.inl (by simp only[anq,fc,ani,anG]),g1,?_,g2⟩;have hb:(w.drew.alloc (.cells (bytesRow ⟨s.toArray⟩ cap) e ((bytesRow ⟨s.toArray⟩ cap).size,(bytesRow ⟨s.toArray⟩ cap).size+1))).heap[w.heap.size]?=some (.cells (bytesRow ⟨s.toArray⟩ cap) e ((bytesRow ⟨s.toArray⟩ cap).size,(bytesRow ⟨s.toArray⟩ cap).size+1)):=aCz w.drew _;rw[hsz]at hge ⊢;refine .psl _ 1 w.heap.size 0 _ _ _ _ hb ?_ ?_ ?_ hge ?_
 ·rintro(ho|⟨id,o,base,hg,hb'⟩)
  ·exact absurd (hs.mf _ ho) (Nat.lt_irrefl _)
  ·exact absurd (hs.lt _ _ _ hb') (Nat.lt_irrefl _)
 ·rw[aor];simp[bytesRow]
 ·intro i x hx;rw[anb]at hx;cases hc:s[i]? with
  |none=>rw[hc]at hx;cases hx
  |some c=>rw[hc]at hx;cases hx;rfl
 ·intro i x j c v hx hc hv;rw[anb]at hx;cases hci:s[i]? with
  |none=>rw[hci]at hx;cases hx
  |some d=>
   rw[hci]at hx;cases hx;match j with
   |0=>
    simp at hc;subst hc;obtain⟨hlt,he⟩:=amV.1 hci;have hat:=bytesRow_at ⟨s.toArray⟩ cap i (by simpa using hlt);rw[show 0+i*1+0=i by omega,hat]at hv;cases hv;subst he;simp only[List.getElem_toArray];exact .int _ _
   |j+1=>simp at hc
theorem Xn(hs:bV own β h.H h.nx w){src dst e:TypeId}{x:AV}{cx:Value}{cs:List AV}{m:Nat}{ns:List Int}(h1:P.underlying src=some (.slice e))(h2:P.underlying dst=some .string)(h3:P.underlying e=some (.int .i32))
  (hx:VR w.heap (LL own β h.H) β x cx) (hc:cj h 1 x=some cs) (hm:fj x=some m) (ha:xq cs=some ns):nd P own β h w (do pure (.value (<-convert src dst cx))) (.str (cC ns)) h:=by
 obtain⟨a,cap,vs,rfl,_,hR,hl,hf⟩:=u9 (P:=P) hs hc hm hx;have hvs:=Wy ha hR;subst hvs;refine .still hs (cv:=.string ⟨(cC ns).toArray⟩) ?_ (.str _);simp only[anq,run_convert_runes_string w src dst e a m cap h1 h3 h2];cases a with
 |none=>
  have:m=0:=by
   cases hx<;>simp[fj]at hm<;>omega
  subst this;have:ns=[]:=by simpa using hl
  subst this;rfl
 |some ad=>
  rw[run_runesToString w ad m cap ns (oH hl hf),xy];simp
theorem abh(hs:bV own β h.H h.nx w){src dst e:TypeId}{x:AV}{cx:Value}{cs:List AV}{m:Nat}{s:List UInt8}(h1:P.underlying src=some (.slice e))(h2:P.underlying dst=some .string)(h3:P.underlying e=some (.int .u8))
  (hx:VR w.heap (LL own β h.H) β x cx) (hc:cj h 1 x=some cs) (hm:fj x=some m) (ha:lJ cs=some s):nd P own β h w (do pure (.value (<-convert src dst cx))) (.str s) h:=by
 obtain⟨a,cap,vs,rfl,_,hR,hl,hf⟩:=u9 (P:=P) hs hc hm hx;obtain⟨ns,rfl,hb⟩:=yM ha hR;refine .still hs (cv:=.string ⟨s.toArray⟩) ?_ (.str s);simp only[anq,run_convert_bytes_string w src dst e a m cap h1 h3 h2];cases a with
 |none=>
  have:m=0:=by
   cases hx<;>simp[fj]at hm<;>omega
  subst this;have:ns=[]:=by simpa using hl
  subst this;simp at hb;subst hb;rfl
 |some ad=>
  rw[run_bytesToString w ad m cap ns (oH hl hf),foldl_push_bytes,hb];have he0:ByteArray.empty.data = #[]:=rfl;rw[he0];simp
end
section
variable {P:Program} {nt:Nat} {ds:List Deferred} {own:Nat->Prop} {β:Bl} {T:Tm} {h:AH} {a:Act} {w:World}
theorem aaP(cl:cI)(hs:Sim nt ds own β T h a w){o:Oper}{ao:AOp}{v:AV}{h':AH}(hc:cX P o.op=some ao)(ha:aop cl T h ao=some (v,h')):nd P own β h w (execOp a.eval o) v h':=by
 have hp:=hs.hp;unfold cX at hc;split at hc;case h_3=>cases hc
 case h_2=>
  rename_i t x hop;simp only[execOp,hop];split at hc
  ·cases hc
  ·rename_i u hne h1;split at hc
   ·rename_i y hy;cases hc;have hv:=fT hs hy;simp only[aop,anO,aoq,kX]at ha;cases ha;refine .still hp (cv:=.iface t (a.eval x)) ?_ (.iface _ _ _ hv);cases u<;>first|exact absurd rfl (hne _)|simp[Instr.makeInterface,anJ h1]
   ·cases hc
  ·cases hc
 rename_i src dst x hop;simp only[execOp,hop];split at hc
 ·rename_i e h1 h2;split at hc
  ·rename_i y h3 hy;cases hc;have hv:=fT hs hy;simp only[aop,anO,aoq]at ha;generalize y.ev T=yv at ha hv;generalize a.eval x=xv at hv;unfold kX at ha;split at ha<;>try(cases ‹XK.s2r=_›)
   ·rename_i s he;cases he;split at ha
    ·rename_i bN;cases ha;simp only[amZ,Nat.ble_eq]at bN;cases hv;exact Zz hp h1 h2 h3 bN.1 bN.2
    ·split at ha
     ·rename_i bN;cases ha;simp only[Nat.ble_eq]at bN;cases hv;exact axy hp h1 h2 h3 bN
     ·cases ha
   ·cases ha
  ·rename_i y h3 hy;cases hc;have hv:=fT hs hy;simp only[aop,anO,aoq]at ha;generalize y.ev T=yv at ha hv;generalize a.eval x=xv at hv;cases yv<;>simp[kX]at ha;obtain⟨h0,rfl,rfl⟩:=ha;cases hv;exact azi hp h1 h2 h3
  ·cases hc
 ·rename_i e h1 h2;split at hc
  ·rename_i y h3 hy;cases hc;have hv:=fT hs hy;simp only[aop,anO,aoq]at ha;generalize y.ev T=yv at ha hv;generalize a.eval x=xv at hv;simp only[kX]at ha;split at ha
   ·rename_i cs m q1 q2;split at ha
    ·rename_i s q3;cases ha;exact aai hp h1 h2 h3 hv q1 q2 q3
    ·split at ha
     ·rename_i ns q4;cases ha;exact Xn hp h1 h2 h3 hv q1 q2 q4
     ·cases ha
   ·cases ha
  ·rename_i y h3 hy;cases hc;have hv:=fT hs hy;simp only[aop,anO,aoq]at ha;generalize y.ev T=yv at ha hv;generalize a.eval x=xv at hv;simp only[kX]at ha;split at ha
   ·rename_i cs m q1 q2;split at ha
    ·rename_i s q3;cases ha;exact abh hp h1 h2 h3 hv q1 q2 q3
    ·cases ha
   ·cases ha
  ·cases hc
 ·rename_i k h1 h2;split at hc
  ·rename_i y hy;cases hc;have hv:=fT hs hy;simp only[aop,anO,aoq]at ha;generalize y.ev T=yv at ha hv;generalize a.eval x=xv at hv;cases yv<;>simp[kX]at ha;obtain⟨rfl,rfl⟩:=ha;cases hv;rename_i k' n;have he:Utf8.encode n=⟨(oe n).toArray⟩:=by simp[oe]
   refine .still hp (cv:=.string ⟨(oe n).toArray⟩) ?_ (.str _);rw[<-he];simp[convert,anJ h1,anJ h2,Conv.intToString]
  ·cases hc
 ·cases hc
theorem Zw(cl:cI)(hs:Sim nt ds own β T h a w){o:Oper}{ao:AOp}{v:AV}{h':AH}(hc:ud P o.op=ao)(ha:aop cl T h ao=some (v,h'))(hnc:∀f args,ao ≠ .call f args):
  nd P own β h w (execOp a.eval o) v h':=by
 unfold ud at hc;split at hc
 ·rename_i ao' h1;subst hc;exact ae7 cl hs h1 ha hnc
 ·split at hc
  ·rename_i ao' h1;subst hc;exact aaP cl hs h1 ha
  ·split at hc
   ·rename_i ao' h1;subst hc;exact Zd cl hs h1 ha
   ·subst hc;simp[aop]at ha
end
def HOk(P:Program)(cl:cI):Prop:=
 ∀f args h v h',cl f args h=some (v,h')->
  (∃fn,P.funcs[f]?=some fn/\fn.body.isSome=true/\fn.name ≠ "runtime.NumGoroutine")/\
  ∀(own:Nat->Prop) (β:Bl) (w:World) (cS:Array Value),bV own β h.H h.nx w->RL w.heap (LL own β h.H) β args cS.toList->
   Calls P f cS w λe w'=>∃cv β',e =.returned cv/\bV own β' h'.H h'.nx w'/\VR w'.heap (LL own β' h'.H) β' v cv/\bJ own β h w β' h' w'
def lh(T:Tm)(d:Option Nat)(v:AV):Tm:=
 match d with
 |some d=>T.put d v
 |none=>T
def eX:AV:=.tup []
theorem D4{P:Program}{neg:Bool}{t:TypeId}{a b f:Opd}{args:List Opd}(hc:cEq P neg t a b=some (.call f args)):False:=by
 unfold cEq at hc;split at hc<;>first|(cases hc;done)|skip
 split at hc
 ·cases hc
 ·simp at hc
theorem Ej{P:Program}{op:Op}{f:Opd}{args:List Opd}(hc:cOp P op=some (.call f args)):∃c fo,op =.call c/\c.callee =.value fo/\dv fo=some f/\yH c.args.toList=some args:=by
 cases op<;>simp only[cOp]at hc<;>try(cases hc;done)
 case call c=>
  refine⟨c,?_⟩;split at hc
  ·rename_i fo hco;simp only[bind,amW,pure,am4]at hc;obtain⟨f',hf',as',agQ,he⟩:=hc;cases he;exact⟨fo,rfl,hco,hf',agQ⟩
  all_goals first|(cases hc;done)|skip
  all_goals (repeat' (split at hc))<;>simp[bind,amW]at hc
  all_goals (obtain⟨_,_,_,_,hc⟩:=hc;split at hc<;>simp at hc)
 case binOp op t x y ty=>
  simp only[bind,amW]at hc;obtain⟨_,_,_,_,hc⟩:=hc;cases op<;>simp at hc
  ·exact(D4 hc).elim
  ·exact(D4 hc).elim
 all_goals (repeat' (split at hc))<;>simp[bind,amW]at hc
 case load t x=>
  obtain⟨n,_,hc⟩:=hc;cases n<;>simp[amW]at hc
theorem Vq{P:Program}{op:Op}{ao:AOp}(hc:cX P op=some ao):∃k as,ao =.xo k as:=by
 unfold cX at hc;repeat' (split at hc)
 all_goals first|(cases hc;done)|(cases hc;exact⟨_,_,rfl⟩)
theorem WV{P:Program}{op:Op}{ao:AOp}(hc:cM P op=some ao):∃k as,ao =.xo k as:=by
 unfold cM at hc;repeat' (split at hc)
 all_goals first|(cases hc;done)|(cases hc;exact⟨_,_,rfl⟩)|(simp only[anm]at hc;obtain⟨_,_,rfl⟩:=hc;exact⟨_,_,rfl⟩)
theorem zE{P:Program}{op:Op}{f:Opd}{args:List Opd}(hc:ud P op =.call f args):cOp P op=some (.call f args):=by
 unfold ud at hc;split at hc
 ·rename_i ao h1;subst hc;exact h1
 ·split at hc
  ·rename_i ao h1;obtain⟨k,as,rfl⟩:=Vq h1;cases hc
  ·split at hc
   ·rename_i ao h1;obtain⟨k,as,rfl⟩:=WV h1;cases hc
   ·cases hc
section
variable {P:Program} {nt:Nat} {ds:List Deferred} {own:Nat->Prop} {β:Bl} {T:Tm} {h:AH} {a:Act} {w:World}
theorem C_{cl:cI}(hcl:HOk P cl)(hs:Sim nt ds own β T h a w){o:Oper}{ao:AOp}{v:AV}{h':AH}(hc:ud P o.op=ao)(ha:aop cl T h ao=some (v,h'))
  {K:Act->World->Prop} {Q:Exit->Act->World->Prop}
  (hK:∀cv w' β',bV own β' h'.H h'.nx w'->VR w'.heap (LL own β' h'.H) β' v cv->bJ own β h w β' h' w'->K (a.put o.dst cv) w'):o.wp P a w K Q:=by
 by_cases Mx:∃f args,ao =.call f args
 ·obtain⟨f,args,rfl⟩:=Mx;have hop:=Ej (zE hc);obtain⟨c,fo,hop,hco,hf,has⟩:=hop;simp only[aop,aB,aG,cU,fh,aO,aQ,eK,bj,kSt,aq,ae,arJ,NF,pb,kUn,cB,Nf,ah,aF,fv,Nb,dH,kSl,gI,bh,cL,sT,zy,dK,yq,iy,cm,Nn,nZ,wN,<-br]at ha;have hfv:=fT hs hf;cases hfe:f.ev T<;>rw[hfe]at ha hfv<;>(try simp only at ha)<;>try(cases ha;done)
  rename_i fn first captured
  cases fn<;>(try simp only at ha)<;>try(cases ha;done)
  rename_i g;obtain⟨⟨fn,hfn,U3,ET⟩,Jh⟩:=hcl g _ h v h' ha;generalize hce:a.eval fo=cf at hfv;cases hfv;rename_i f2 c2 hl1 h1 hl2 h2;have hR:RL w.heap (LL own β h.H) β (first++args.map (·.ev T)++captured) (f2++c.args.map a.eval++c2).toList:=by
   have r1:RL w.heap (LL own β h.H) β first f2.toList:=⟨by simpa using hl1,λi c v hc hv=>h1 i c v hc (by simpa using hv)⟩
   have r2:RL w.heap (LL own β h.H) β captured c2.toList:=⟨by simpa using hl2,λi c v hc hv=>h2 i c v hc (by simpa using hv)⟩;have r3:=vH hs has;have:=(r1.append r3).append r2;simpa using this
  have fc:(execOp a.eval o).run P w =.ok (.enter g (f2++c.args.map a.eval++c2)) w:=by
   have hb:fn.body.isNone=false:=by cases hq:fn.body<;>simp_all
   simp only[execOp,hop,resolve,hco,hce,Deferred.ofValue,anq,anG,ani,invoke,callFunc,run_program,hfn];simp[ET,hb]
  unfold Oper.wp;rw[fc];show Calls P g _ w _
  refine(Jh own β w _ hs.hp hR).mono ?_;rintro e w' ⟨cv,β',rfl,h3,h4,h5⟩;exact hK cv w' β' h3 h4 h5
 ·obtain⟨cv,w',β',fc,h1,h2,h3⟩:=Zw cl hs hc ha (λf args he=>Mx ⟨f,args,he⟩);have hk:=hK cv w' β' h1 h2 h3;unfold Oper.wp;rcases fc with fc|⟨fc,rfl⟩
  ·rw[fc];exact hk
  ·rw[fc];exact hk
end
def gd(T:Tm):Option (Nat×Bool)->Option Bool
 |none=>some true
 |some (t,b)=>match T.get t with
  |some (.bool c)=>some (c==b)
  |some (.tup [])=>some false
  |_=>none
def MH(cl:cI):List aY->Tm->AH->Option (Tm×AH)
 |[],T,h=>some (T,h)
 |o::r,T,h=>
  match gd T o.guard with
  |some true=>match aop cl T h o.op with
   |some (v,h')=>MH cl r (lh T o.dst v) h'
   |none=>none
  |some false=>MH cl r (lh T o.dst eX) h
  |none=>none
def EC(nt:Nat):Option Nat->Bool
 |none=>true
 |some d=>Nat.blt d nt
def Ef(P:Program)(nt:Nat)(ops:Array Oper)(o:Oper):Option aY:=
  if EC nt o.dst then
   match o.guard with
   |none=>some ⟨o.dst,ud P o.op,none⟩
   |some (j,b)=>match(ops[j]?).bind (·.dst)with
    |some t=>some ⟨o.dst,ud P o.op,some (t,b)⟩
    |none=>none
  else none
def jY(P:Program)(nt:Nat)(ops:Array Oper):List Oper->Option (List aY)
 |[]=>some []
 |o::r=>match Ef P nt ops o,jY P nt ops r with
  |some x,some l=>some (x::l)
  |_,_=>none
section
variable {P:Program} {nt:Nat} {ds:List Deferred} {own:Nat->Prop} {β:Bl} {T:Tm} {h:AH} {a:Act} {w:World}
theorem Sim.put(hs:Sim nt ds own β T h a w){w':World}{β':Bl}{h':AH}{v:AV}{cv:Value}{d:Option Nat}(hd:EC nt d=true)(h1:bV own β' h'.H h'.nx w')(h2:VR w'.heap (LL own β' h'.H) β' v cv)(h3:bJ own β h w β' h' w'):
  Sim nt ds own β' (lh T d v) h' (a.put d cv) w':=by
 have old:∀t u,T.get t=some u->VR w'.heap (LL own β' h'.H) β' u (a.tmps.getD t Go.undef):=λt u hu=>(hs.tm t u hu).later h3.later
 cases d with
 |none=>exact⟨h1,hs.sz,old,hs.df⟩
 |some d=>
  have hd':d<nt:=by simpa[EC]using hd
  refine⟨h1,by simp[Act.put,hs.sz],λt u hu=>?_,hs.df⟩;simp only[lh]at hu;by_cases ht:t=d
  ·subst ht;rw[Tm.cq]at hu;cases hu;have:t<a.tmps.size:=by rw[hs.sz];exact hd'
   simpa[Act.put,this]using h2
  ·rw[Tm.ch _ _ ht]at hu;have:=old t u hu;simpa[Act.put,anU (Ne.symm ht)]using this
theorem gk(hs:Sim nt ds own β T h a w){ops:Array Oper}{o:Oper}{ao:aY}(hc:Ef P nt ops o=some ao){b:Bool}(hg:gd T ao.guard=some b):Region.wanted o (yielded ops a.tmps)=b:=by
 unfold Ef at hc;split at hc;case isFalse=>cases hc
 split at hc
 ·rename_i hgd;cases hc;simp[gd]at hg;simp[Region.wanted,hgd,hg]
 ·rename_i j want hgd;split at hc
  ·rename_i t ht;cases hc;simp only[gd]at hg;have hy:yielded ops a.tmps j=match a.tmps[t]? with|some (.bool b)=>some b|_=>none:=by unfold yielded;rw[ht];rfl
   cases hT:T.get t with
   |none=>simp[hT]at hg
   |some u=>
    have hv:=hs.tm t u hT;cases u<;>simp[hT]at hg
    ·rename_i c;have:a.tmps[t]?=some (.bool c):=by
      generalize hz:a.tmps.getD t Go.undef=z at hv;cases hv;by_cases hlt:t<a.tmps.size
      ·simp[hlt]at hz ⊢; exact hz
      ·simp[hlt,Go.undef]at hz
     simp only[Region.wanted,hgd,hy,this];rw[<-hg];cases c<;>cases want<;>rfl
    ·rename_i vs;cases vs with
     |cons x y=>simp at hg
     |nil=>
      simp at hg;obtain⟨cs,hcs,hR⟩:=VR.Mu hv;have hne:∀q,a.tmps[t]?≠some (.bool q):=by
       intro q hq;have:a.tmps.getD t Go.undef =.bool q:=by simp[hq]
       rw[this]at hcs;cases hcs
      have hyn:yielded ops a.tmps j=none:=by
       rw[hy];split
       ·rename_i q hq;exact absurd hq (hne q)
       ·rfl
      simp only[Region.wanted,hgd,hyn];rw[hg];rfl
  ·cases hc
theorem pH{ops:Array Oper}{o:Oper}{ao:aY}(hc:Ef P nt ops o=some ao):ud P o.op=ao.op/\EC nt o.dst=true/\ao.dst=o.dst:=by
 unfold Ef at hc;split at hc
 ·rename_i hd;split at hc
  ·cases hc;exact⟨rfl,hd,rfl⟩
  ·split at hc
   ·cases hc;exact⟨rfl,hd,rfl⟩
   ·cases hc
 ·cases hc
theorem Bn{cl:cI}(hcl:HOk P cl){ops:Array Oper}{Q:Exit->Act->World->Prop}:∀(l:List Oper) (al:List aY) (T:Tm) (h:AH) (T':Tm) (h':AH) (a:Act) (w:World) (β:Bl),jY P nt ops l=some al->MH cl al T h=some (T',h')->Sim nt ds own β T h a w->
  (∀β' a' w',Sim nt ds own β' T' h' a' w'->bJ own β h w β' h' w'->Q .normal a' w')->wpList P ops Q l a w
 |[],al,T,h,T',h',a,w,β,hc,ha,hs,hQ=>by
  simp[jY]at hc;subst hc;simp[MH]at ha;obtain⟨rfl,rfl⟩:=ha;exact hQ β a w hs (.refl _ _ _ _)
 |o::l,al,T,h,T',h',a,w,β,hc,ha,hs,hQ=>by
  unfold jY at hc;split at hc
  ·rename_i ao al' h1 h2;cases hc;obtain⟨q1,q2,q3⟩:=pH h1;unfold MH at ha;cases hg:gd T ao.guard with
   |none=>simp[hg]at ha
   |some b=>
    have hw:=gk hs h1 hg;unfold wpList;rw[hw];cases b with
    |true=>
     simp only[hg]at ha;cases hop:aop cl T h ao.op with
     |none=>simp[hop]at ha
     |some r=>
      obtain⟨v,h2'⟩:=r;simp only[hop]at ha;rw[am1 rfl];refine .inl (C_ hcl hs q1 hop λcv w' β' g1 g2 g3=>?_);rw[q3]at ha;refine Bn hcl l al' _ h2' T' h' _ w' β' h2 ha (hs.put q2 g1 g2 g3) λβ'' a'' w'' k1 k2=>hQ β'' a'' w'' k1 (g3.trans k2)
    |false=>
     simp only[hg]at ha;rw[amU (by simp)];rw[q3]at ha;refine Bn hcl l al' _ h T' h' _ w β h2 ha (hs.put q2 hs.hp (?_:VR _ _ _ eX Go.undef) (.refl _ _ _ _)) λβ'' a'' w'' k1 k2=>hQ β'' a'' w'' k1 k2
     exact .tup [] #[] rfl (λi c v hc=>by simp at hc)
  ·cases hc
