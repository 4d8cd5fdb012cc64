/- Each abstract operation stands for the model's operation: parts, indices, slices, append, copy, make. -/
import Derived.Test.YtndpneieplopaaaGreatDoorEngF
import Derived.Laws.MakeOwn
import Derived.MapKept
import Derived.ChangeKeysEq
import Derived.Laws.Cover4
import Derived.Laws.IdiomStrings
import Derived.Laws.BytesArg
set_option linter.unusedSimpArgs false
set_option linter.unusedVariables false
noncomputable section
namespace Go.Eng
section
variable {P:Program} {hp:Array Obj} {L:Nat->Prop} {β:Bl} {w:World}
theorem VR.SI{d:List AV}{e:Value}(h:VR hp L β (.agg d) e):∃b:Array Value,e =.agg b/\RL hp L β d b.toList:=by
 cases h;rename_i b f h;exact⟨b,rfl,by simpa using f,λi c v g j=>h i c v g (by simpa using j)⟩
theorem VR.SH{d:List AV}{e:Value}(h:VR hp L β (.tup d) e):∃b:Array Value,e =.tuple b/\RL hp L β d b.toList:=by
 cases h;rename_i b f h;exact⟨b,rfl,by simpa using f,λi c v g j=>h i c v g (by simpa using j)⟩
theorem uq{n j:Nat}{v:AV}(h:aix n v=some j):∃k i,v =.int k i/\0<=i/\i<n/\j=i.toNat:=by
 unfold aix at h;cases v<;>simp only[hJ]at h<;>try cases h
 rename_i k i;split at h
 ·rename_i hi;cases h;exact⟨k,i,rfl,hi.1,hi.2,rfl⟩
 cases h
theorem NF{d:Nat}{x v:AV}{j:Value}(k:VR hp L β x j)(h:kC d x=some v):∃b o,j =.pointer (some ⟨b,o,none⟩)/\VR hp L β v (.pointer (some ⟨b,o+d,none⟩)):=by
 cases k<;>simp only[kC]at h<;>try cases h
 case c_.refl g o=>exact⟨g,o,rfl,.c_ g (o+d)⟩
 case ptr id o b base f=>exact⟨b,base+o,rfl,by rw[pZ];exact .ptr _ _ _ _ f⟩
 case ai cs b o cur e l f m hs n=>
  split at h
  ·cases h;exact⟨b,o,rfl,.ai _ b (o+d) cur e l f m (by simp;omega) λi c v p q=>n (d+i) c v (by rwa [ew]at p) (by rw[<-q];congr 1;omega)⟩
  cases h
theorem N'{s:TypeId}{d:Array Field}{f n:Nat}{g:Field}{x v:AV}{e:Value}(j:P.underlying s=some (.struct d))(k:d[f]?=some g)(c:eJ P g.type=some n)(l:n≠0)(m:VR hp L β x e)(h:kC g.offset x=some v):
  ∃i,(Instr.fieldAt s e f).run P w =.ok i w/\VR hp L β v i:=by
 obtain⟨b,o,rfl,p⟩:=NF m h;refine⟨_,?_,p⟩;simp[Instr.fieldAt,dy,fK j,k,Instr.sureAddr,fieldPlace,lL c,l,nN]
theorem J!{t e:TypeId}{n z j:Nat}{x i v:AV}{d f:Value}(l:P.underlying t=some (.array n e))(c:eJ P e=some z)(p:VR hp L β x d)(q:VR hp L β i f)(r:aix n i=some j)(h:kC (j*z) x=some v):
  ∃g,(Instr.indexAt t d f).run P w =.ok g w/\VR hp L β v g:=by
 obtain⟨k,m,rfl,s,h2,rfl⟩:=uq r;cases q;obtain⟨b,o,rfl,u⟩:=NF p h;refine⟨_,?_,u⟩;simp[Instr.indexAt,asIntOf,Instr.sureAddr,dy,fK l,lL c,nN,s,h2]
theorem acS{t e:TypeId}{z:Nat}{x i v:AV}{y A:Value}(B:P.underlying t=some (.slice e))(m:eJ P e=some z)(M:VR hp L β x y)(C:VR hp L β i A)(h:sW z x i=some v):
  ∃G,(Instr.indexAt t y A).run P w =.ok G w/\VR hp L β v G:=by
 cases M<;>simp only[sW]at h<;>try cases h
 case eu a cap=>
  split at h
  ·rename_i d;obtain⟨_,_,_,l,h2,_⟩:=uq d;simp at h2;omega
  cases h
 case psl xs f b o cap cur H J K N hs p Q R=>
  cases g:aix xs.length i with
  |none=>simp[g]at h
  |some j=>
   obtain⟨k,n,rfl,l,h2,rfl⟩:=uq g;simp only[g]at h;cases C;cases d:xs[n.toNat]? with
   |none=>simp[d]at h
   |some c=>
    simp only[d]at h;split at h
    ·rename_i q;cases h;have r:f=z:=by rw[<-p _ _ d];exact q
     subst r;have s:n.toNat<xs.length:=(aL.1 d).1;refine⟨.pointer (some ⟨b,o+n.toNat*f,none⟩),?_,?_⟩
     ·simp[Instr.indexAt,asIntOf,dy,fK B,lL m,nN,l,h2]
     have hmul:(n.toNat+1)*f<=xs.length*f:=kJ _ s;rw[ie,pX]at hmul;exact .ai c b _ cur H J K N (by omega) λj S v u U=>R n.toNat c j S v d u U
    cases h
 case rsl id off len f b base cap cur H J hβ K Q hm hs=>
  split at h
  ·rename_i p;subst p;cases g:aix len i with
   |none=>simp[g]at h
   |some j=>
    obtain⟨k,n,rfl,l,h2,rfl⟩:=uq g;simp only[g]at h;cases h;cases C;refine⟨.pointer (some ⟨b,base+(off+n.toNat*f),none⟩),?_,.ptr _ _ _ _ hβ⟩;simp[Instr.indexAt,asIntOf,dy,fK B,lL m,nN,l,h2,pZ]
  cases h
 case gi id off f b base o hβ=>
  split at h
  ·split at h
   ·rename_i d;obtain⟨_,_,_,l,h2,_⟩:=uq d;omega
   cases h
  cases h
theorem acY{t:TypeId}{s:List UInt8}{j:Nat}{c:UInt8}{i:AV}{d:Value}(e:P.underlying t=some .string)(f:VR hp L β i d)(g:aix s.length i=some j)(l:s[j]?=some c):
  (Instr.index t (.string ⟨s.toArray⟩) d).run P w =.ok (.int .u8 c.toNat) w:=by
 obtain⟨k,m,rfl,n,h2,rfl⟩:=uq g;cases f;have o:(⟨s.toArray⟩:ByteArray)[m.toNat]?=some c:=by
  obtain⟨b,p⟩:=aL.1 l;rw[getElem?_pos (⟨s.toArray⟩:ByteArray) m.toNat (by rw[lJ];exact b)];congr 1
 simp[Instr.index,asIntOf,dy,fK e,n,o]
theorem uu{n d r:Nat}{v:Option AV}(h:abd n v d=some r):(v=none/\r=d)\/∃k i,v=some (.int k i)/\0<=i/\i<=n/\r=i.toNat:=by
 cases v with
 |none=>simp[abd]at h;exact .inl ⟨rfl,h.symm⟩
 |some v=>
  right;cases v<;>simp only[abd,hJ]at h<;>try cases h
  rename_i k i;split at h
  ·rename_i hi;cases h;exact⟨k,i,rfl,hi.1,hi.2,rfl⟩
  cases h
def VRO(hp:Array Obj)(L:Nat->Prop)(β:Bl):Option AV->Option Value->Prop
 |none,none=>True
 |some a,some v=>VR hp L β a v
 |_,_=>False
theorem Mt{isS:Bool}{n cap m j l:Nat}{r p mx:Option AV}{d e cmx:Option Value}(v:n<=cap)(b:VRO hp L β r d)(f:VRO hp L β p e)(g:VRO hp L β mx cmx)
  (x:abd n mx n=some m) (h2:abd m p n=some j) (q:abd j r 0=some l) (z:(mx.isSome&&p.isNone)=false):
  ∃o,(Instr.sliceBounds isS n cap d e cmx).run P w =.ok (l,j,o) w/\l<=j/\j<=o/\j<=n/\o<=cap/\(mx.isSome=true->o=m)/\(mx=none->o=cap):=by
 have c:∀(k:IntKind) (i:Int) (y:Nat) (code:BoundsCode),0<=i->i<=y->(Instr.sliceBound (.int k i) y code).run P w =.ok i.toNat w:=by
  intro k i y code A B;simp[Instr.sliceBound,asIntOf,A,B]
 rcases uu x with⟨rfl,rfl⟩|⟨k1,i1,rfl,s,a2,rfl⟩
 ·cases cmx<;>simp only[VRO]at g;rcases uu h2 with⟨rfl,rfl⟩|⟨k2,i2,rfl,b1,b2,rfl⟩
  ·cases e<;>simp only[VRO]at f;rcases uu q with⟨rfl,rfl⟩|⟨t,i3,rfl,c1,c2,rfl⟩
   ·cases d<;>simp only[VRO]at b;exact⟨cap,by simp[Instr.sliceBounds],by omega,by omega,by omega,by omega,by simp,by simp⟩
   cases d<;>simp only[VRO]at b;cases b;exact⟨cap,by simp[Instr.sliceBounds,c _ _ _ _ c1 c2],by omega,by omega,by omega,by omega,by simp,by simp⟩
  cases e<;>simp only[VRO]at f;cases f;have u:i2<=(cap:Int):=by omega
  rcases uu q with⟨rfl,rfl⟩|⟨t,i3,rfl,c1,c2,rfl⟩
  ·cases d<;>simp only[VRO]at b;exact⟨cap,by simp[Instr.sliceBounds,c _ _ _ _ b1 u],by omega,by omega,by omega,by omega,by simp,by simp⟩
  cases d<;>simp only[VRO]at b;cases b;exact⟨cap,by simp[Instr.sliceBounds,c _ _ _ _ b1 u,c _ _ _ _ c1 c2],by omega,by omega,by omega,by omega,by simp,by simp⟩
 cases cmx<;>simp only[VRO]at g;cases g;have a3:i1<=(cap:Int):=by omega
 rcases uu h2 with⟨rfl,rfl⟩|⟨k2,i2,rfl,b1,b2,rfl⟩
 ·simp at z
 cases e<;>simp only[VRO]at f;cases f;rcases uu q with⟨rfl,rfl⟩|⟨t,i3,rfl,c1,c2,rfl⟩
 ·cases d<;>simp only[VRO]at b;exact⟨i1.toNat,by simp[Instr.sliceBounds,c _ _ _ _ s a3,c _ _ _ _ b1 b2],by omega,by omega,by omega,by omega,by simp,by simp⟩
 cases d<;>simp only[VRO]at b;cases b;exact⟨i1.toNat,by simp[Instr.sliceBounds,c _ _ _ _ s a3,c _ _ _ _ b1 b2,c _ _ _ _ c1 c2],by omega,by omega,by omega,by omega,by simp,by simp⟩
theorem z1{x:AV}{n:Nat}{b:Value}(c:VR hp L β x b)(h:cj x=some n):∃a cap,b =.slice a n cap/\n<=cap:=by
 cases c<;>simp only[cj]at h<;>try cases h
 case D=>exact⟨_,_,rfl,ay _⟩
 case esl a=>exact⟨_,_,rfl,ay _⟩
 case eu a cap=>exact⟨_,_,rfl,fJ _⟩
 case psl=>exact⟨_,_,rfl,by assumption⟩
 case rsl=>exact⟨_,_,rfl,by assumption⟩
 case gi=>exact⟨_,_,rfl,ay _⟩
theorem abT{t e:TypeId}{z:Nat}{x v:AV}{cx:Value}{lo hi mx:Option AV}{H J K:Option Value}(hu:P.underlying t=some (.slice e))(U:eJ P e=some z)(hx:VR hp L β x cx)(V:VRO hp L β lo H)(W:VRO hp L β hi J)(ad:VRO hp L β mx K)
  (h:mH z x lo hi mx=some v):∃cv,(Instr.sliceAt t cx H J K).run P w =.ok cv w/\VR hp L β v cv:=by
 unfold mH at h;split at h;case h_2=>cases h
 rename_i n s;split at h;case h_2=>cases h
 rename_i m hm;split at h;case h_2=>cases h
 rename_i k hh;split at h;case h_2=>cases h
 rename_i l hl;split at h
 ·cases h
 rename_i h4;obtain⟨a,cap,rfl,M⟩:=z1 hx s;obtain⟨f,N,b1,b2,b3,b4,R,b6⟩:=Mt (P:=P) (w:=w) (isS:=true) M V W ad hm hh hl (by simpa only[Bool.not_eq_true]using h4);refine⟨.slice (if f=l then a else a.map (·.add (l*z))) (k-l) (f-l),?_,?_⟩
 ·simp only[Instr.sliceAt,Instr.slice,dy,fK hu,ey,N,lL U,fC]
 cases hx<;>simp only[asl]at h<;>try(cases h;done)
 case D=>
  split at h
  ·rename_i G;cases h;simp only[cj]at s;cases s;have q:f=0:=by omega
   have d:l=0:=by omega
   subst q;subst d;subst G;exact .D
  cases h
 case esl=>
  split at h
  ·rename_i G;cases h;have q:f=0:=by omega
   have d:l=0:=by omega
   subst q;subst d;subst G;exact .esl _
  cases h
 case eu=>
  simp only[cj,bz]at s;cases s;have A:k=0:=by omega
  have d:l=0:=by omega
  subst A;subst d;simp only[List.all_nil,bt]at h;cases h;split
  ·rename_i u;simp only[aI,fR]at u;have:=R u.1;rw[show f=0 by omega];exact .esl _
  simp only[List.drop_nil,List.take_nil];exact .eu _ _
 case psl xs g b o cur S fz B hL hs C hr hc=>
  simp only[cj]at s;split at h
  ·rename_i Q;cases h;split
   ·rename_i u;simp only[aI,fR]at u;have:=R u.1;rw[show f-l=0 by omega,show k-l=0 by omega];exact .esl _
   by_cases G:k-l=0
   ·rw[G,vH];exact .eu _ _
   have r:¬(f=l):=by omega
   rw[O r];have af:g=z:=by
    have h6:0<xs.length:=by omega
    have h7:=C 0 xs[0] (by simp[h6]);have h8:=fi.1 Q xs[0] (gG h6);rw[<-h7];simpa using h8
   subst af;have hlen:((xs.drop l).take (k-l)).length=k-l:=by simp;omega
   simp only[zR,nN];have key:=VR.psl (hp:=hp) (L:=L) (β:=β) ((xs.drop l).take (k-l)) g b (o+l*g) (f-l) cur S fz B hL (by
     rw[hlen];have h9:l*g+(k-l)*g<=xs.length*g:=by rw[<-ie];exact kJ _ (by omega)
     omega) (λi y p=>by
     rw[gN]at p;split at p
     ·rw[ew]at p;exact C _ _ p
     ·cases p) (by omega) (λi y j c v p aj hv=>by
     rw[gN]at p;split at p
     ·rw[ew]at p;refine hr (l+i) y j c v p aj ?_;rw[<-hv];congr 1;rw[ie];omega
     cases p)
   rw[hlen]at key;exact key
  cases h
 case rsl id off g b base cur S fz hβ B hc al hs=>
  split at h
  ·rename_i C;subst C;cases h;split
   ·rename_i u;simp only[aI,fR]at u;have:=R u.1;rw[show f-l=0 by omega,show k-l=0 by omega];exact .esl _
   by_cases r:f=l
   ·rw[Z r,show k-l=0 by omega,show f-l=0 by omega];exact .gi _ _ _ _ _ _ hβ
   rw[O r];simp only[zR,nN];have h9:l*g+(f-l)*g<=cap*g:=by rw[<-ie];exact kJ _ (by omega)
   have key:=VR.rsl (hp:=hp) (L:=L) (β:=β) id (off+l*g) (k-l) g b base (f-l) cur S _ hβ B (by omega) (by omega) (by omega);rw[<-pZ]at key;exact key
  cases h
 case gi id off g b base o hβ=>
  simp only[cj]at s;cases s;have q:f=0:=by omega
  have d:l=0:=by omega
  have A:k=0:=by omega
  subst q;subst d;subst A;split at h
  ·rename_i C;subst C;cases h;split
   ·exact .esl _
   exact .gi _ _ _ _ _ _ hβ
  cases h
theorem X?{t:TypeId}{s r:List UInt8}{i j:Option AV}{c d:Option Value}(k:P.underlying t=some .string)(e:VRO hp L β i c)(f:VRO hp L β j d)(h:qh s i j=some r):
  (Instr.sliceAt t (.string ⟨s.toArray⟩) c d none).run P w =.ok (.string ⟨r.toArray⟩) w:=by
 unfold qh at h;split at h;case h_2=>cases h
 rename_i p m;split at h;case h_2=>cases h
 rename_i l o;cases h;obtain⟨q,b,b1,b2,u,v,x,y⟩:=Mt (P:=P) (w:=w) (hp:=hp) (L:=L) (β:=β) (isS:=false) (n:=s.length) (cap:=s.length) (ay _) e f (mx:=none) (cmx:=none) trivial rfl m o rfl;have g:=lJ s;simp only[Instr.sliceAt,Instr.slice,dy,fK k,ey,g,b,fC];simp[k?,b]
end
theorem H'{w w':World}(h:w'.heap=w.heap)(a:Addr):w'.cell? a=w.cell? a:=by simp[World.cell?,h]
section
variable {P:Program} {own:Nat->Prop} {β:Bl} {h:AH} {w:World}
theorem Sa{hp:Array Obj}{L:Nat->Prop}{β:Bl}{b:Array Value}{z:Nat}:∀(xs:List (List AV)) (o:Nat),(∀(i:Nat) (x:List AV),xs[i]?=some x->x.length=z)->
  (∀(i:Nat) (x:List AV) (j:Nat) (c:AV) (v:Value),xs[i]?=some x->x[j]?=some c->b[o+i*z+j]?=some v->VR hp L β c v)->o+xs.length*z<=b.size->RL hp L β xs.flatten ((b.toList.drop o).take (xs.length*z))
 |[],o,_,_,_=>by simpa using RL.nil
 |x::xs,o,k,l,hs=>by
  have g:x.length=z:=k 0 x (by simp);have p:o+(z+xs.length*z)<=b.size:=by simp only[aF,ie,pX]at hs;omega
  have m:RL hp L β x ((b.toList.drop o).take z):=by
   rw[<-g];exact xr (by omega) (λj c v d e=>l 0 x j c v (by simp) d (by simpa using e))
  have h2:=Sa xs (o+z) (λi y f=>k (i+1) y (by simpa using f)) (λi y j c v f d e=>l (i+1) y j c v (by simpa using f) d (by rw[<-e];congr 1;rw[ie];omega)) (by omega);have n:=m.append h2;have he:(b.toList.drop o).take ((x::xs).length*z)=(b.toList.drop o).take z++(b.toList.drop (o+z)).take (xs.length*z):=by
   rw[aF,ie,pX,Nat.add_comm (xs.length*z) z,List.take_add,lB]
  rw[he];exact n
theorem uK(V:aB own β h.H h.nx w){z:Nat}{x:AV}{y:Value}{new:List AV}{m:Nat}(c:cU h z x=some new)(l:cj x=some m)(W:VR w.heap (LL own β h.H) β x y):
  ∃a cap A,y =.slice a m cap/\m<=cap/\RL w.heap (LL own β h.H) β new A/\A.length=m*z/\
   ∀n,n<=m->∀w',w'.heap=w.heap->(Builtin.firstCells z n y).run P w' =.ok (A.take (n*z)).toArray w':=by
 have zero:∀(a:Option Addr) (cap n:Nat),n<=0->∀w':World,(Builtin.firstCells z n (.slice a 0 cap)).run P w' =.ok (([]:List Value).take (n*z)).toArray w':=by
  intro a cap n f w';have:n=0:=by omega
  subst this;cases a<;>simp[Builtin.firstCells,loadCells,loadCellsFrom]
 have d:∀(b o n m cap:Nat) (cur:Array Value) (e:TypeId) (u:Nat×Nat),w.heap[b]?=some (.cells cur e u)->n<=m->o+m*z<=cur.size->∀w':World,w'.heap=w.heap->
   (Builtin.firstCells z n (.slice (some ⟨b,o,none⟩) m cap)).run P w' =.ok (((cur.toList.drop o).take (m*z)).take (n*z)).toArray w':=by
  intro b o n m cap cur e u s f p w' hw;have C:n*z<=m*z:=kJ _ f;rw[List.take_take,Nat.min_eq_left C];have hl:((cur.toList.drop o).take (n*z)).length=n*z:=by simp;omega
  exact run_firstCells_some w' z n ⟨b,o,none⟩ m cap _ hl (λj v hv=>by rw[H' hw];exact Ac s j v hv)
 cases W<;>simp only[cU]at c<;>simp only[cj]at l<;>try(cases c;done)
 case D=>cases c;cases l;exact⟨_,_,[],rfl,ay _,RL.nil,by simp,λn f w' _=>zero _ _ n f w'⟩
 case esl a=>cases c;cases l;exact⟨_,_,[],rfl,ay _,RL.nil,by simp,λn f w' _=>zero _ _ n f w'⟩
 case eu a cap=>simp at c l;subst c;subst l;exact⟨_,_,[],rfl,fJ _,RL.nil,by simp,λn f w' _=>zero _ _ n f w'⟩
 case psl xs q b o cap cur e u s hL p r g B=>
  cases l;split at c
  ·rename_i t;cases c;have G:∀(i:Nat) (x:List AV),xs[i]?=some x->x.length=z:=λi x J=>by
    have:=fi.1 t x (cQ J);simpa using this
   by_cases K:xs.length=0
   ·have:xs=[]:=fQ K;subst this;exact⟨_,_,[],rfl,g,RL.nil,by simp,λn f w' _=>zero _ _ n (by simpa using f) w'⟩
   have M:q=z:=by
    have Q:0<xs.length:=by omega
    rw[<-r 0 xs[0] (by simp[Q])];exact G 0 xs[0] (by simp[Q])
   subst M;exact⟨_,_,_,rfl,g,Sa xs o r B p,by simp;omega,λn f w' hw=>d b o n xs.length cap cur e u s f p w' hw⟩
  cases c
 case rsl id off len q b base cap S e0 ad hβ af g U p=>
  simp only[cJ]at l;subst l;split at c
  ·rename_i r;subst r;cases k:h.E id with
   |none=>simp[k]at c
   |some cs=>
    simp only[k]at c;obtain⟨h1,rfl⟩:=rI c;obtain⟨b',N,cur,e,hg,hβ',s,hlen,B⟩:=V.row k;rw[hβ]at hβ';cases hβ';have R:=((xr hlen B).drop off).take (len*q);have heq:(((cur.toList.drop base).take cs.length).drop off).take (len*q)=(cur.toList.drop (base+off)).take (len*q):=by
     rw[List.drop_take,List.take_take,lB,Nat.min_eq_left (by omega)]
    rw[heq]at R;refine⟨_,_,_,rfl,g,R,?_,λn f w' hw=>d b (base+off) n len cap cur e (0,0) s f (by omega) w' hw⟩;simp;omega
  cases c
 case gi id off q b base o hβ=>
  cases l;split at c
  ·rename_i r;subst r;cases k:h.E id with
   |none=>simp[k]at c
   |some cs=>
    simp only[k,Nat.zero_mul]at c;obtain⟨h1,rfl⟩:=rI c;exact⟨_,_,[],rfl,ay _,by simpa using RL.nil,by simp,λn f w' _=>zero _ _ n f w'⟩
  cases c
theorem Zn{t ty e:TypeId}{i:TypeInfo}(l:P.underlying t=some (.slice e))(n:P.info? e=some i)(b a:Option Addr)(d f m c:Nat)(j:Array Value)
  (k:(Builtin.firstCells i.size m (.slice a m c)).run P w =.ok j w) (g:d+m<=f):
  (Builtin.append_ #[t,t] ty #[.slice b d f,.slice a m c]).run P w =
   (match b with|some o=>(storeCells (o.add (d*i.size)) j.toList).run P w|none=>.ok () w).andThen λ_ w'=>.ok (.slice b (d+m) f) w':=by
 cases b<;>simp[Builtin.append_,fK l,sizeOf,typeInfo,n,Builtin.lenOf,g,k]
theorem Zl{t ty e:TypeId}{i:TypeInfo}{p:Value}(q:P.underlying t=some (.slice e))(r:P.info? e=some i)(s:i.zero=some p)(f a:Option Addr)(b d m c:Nat)(old j:Array Value)
  (k:(Builtin.firstCells i.size b (.slice f b d)).run P w.drew =.ok old w.drew) (l:(Builtin.firstCells i.size m (.slice a m c)).run P w.drew =.ok j w.drew) (g:¬(b+m<=d))
  (v:b+m<=9223372036854775807) (u:(b+m)*i.bytes<=140737488355328):
  (Builtin.append_ #[t,t] ty #[.slice f b d,.slice a m c]).run P w =
   .ok (.slice (some ⟨w.heap.size,0,none⟩) (b+m) (grownCap w (b+m) d e)) (w.drew.alloc (.cells (old++j++Builtin.zeroCells p.cells (grownCap w (b+m) d e-(b+m))) e)):=by
 have n:¬(9223372036854775807<((b:Int)+(m:Int))):=by omega
 have o:¬(281474976710656<Builtin.nextslicecap (b+m) d*i.bytes):=by
  have:=growslice_fits (need:=b+m) (old:=d) (bytes:=i.bytes) (by omega) u;omega
 simp[Builtin.append_,fK q,sizeOf,typeInfo,zeroValue,r,s,Builtin.lenOf,g,n,o,Question.forced,k,l,newRow,grownCap]
theorem ZZ{n b:Nat}(c:iC n b=true):n*b<=140737488355328/\n<=9223372036854775807:=by
 simpa[iC]using c
theorem ZJ{t:TypeId}{z:List AV}(b:iA P t=some z):∃i v,P.info? t=some i/\i.zero=some v/\v.cells.size=z.length:=by
 unfold iA at b;split at b
 ·rename_i i hi;split at b
  ·rename_i v c;exact⟨i,v,hi,c,by have:=(AB (hp:= #[]) (L:=λ_=>True) (β:=λ_=>none) b).1;simp at this;omega⟩
  cases b
 cases b
theorem Bt(o:aB own β h.H h.nx w){e:TypeId}{z:Nat}{i:TypeInfo}{zv:Value}(g:zv.cells.size=z)(n b:Nat)(y:n<=9223372036854775807){as:List AV}{vs:Array Value}(p:RL w.heap (LL own β h.H) β as vs.toList)(t:as.length=n*z):
  ∃β',aB own β' (h.add (.cells as)).H (h.add (.cells as)).nx (w.drew.alloc (.cells (vs++Builtin.zeroCells zv.cells (grownCap w n b e-n)) e))/\
   VR (w.drew.alloc (.cells (vs++Builtin.zeroCells zv.cells (grownCap w n b e-n)) e)).heap (LL own β' (h.add (.cells as)).H) β' (.rsl h.nx 0 n z) (.slice (some ⟨w.heap.size,0,none⟩) n (grownCap w n b e))/\
   aX own β h w β' (h.add (.cells as)) (w.drew.alloc (.cells (vs++Builtin.zeroCells zv.cells (grownCap w n b e-n)) e)):=by
 have k:=grownCap_ge w n b e;have l:grownCap w n b e<=maxLen:=zJ w n b e (by simp only[maxLen];omega);have d:vs.size=n*z:=by have:=p.1;simp at this;omega
 obtain⟨q,h2,_⟩:=o.Oq (w':=w.drew.alloc (.cells (vs++Builtin.zeroCells zv.cells (grownCap w n b e-n)) e)) h.nx (o.fresh _ (ay _)) as (vs++Builtin.zeroCells zv.cells (grownCap w n b e-n)) e rfl rfl rfl rfl (by simp;omega) (λj c v r s=>by
  refine p.2 j c v r ?_;have u:j<vs.size:=by rw[d,<-t];exact(aL.1 r).1
  rw[Array.getElem?_append,Z u]at s;simpa using s)
 have m:max h.nx (h.nx+1)=h.nx+1:=by omega
 have f:=h2 (ay _);rw[m]at q f;refine⟨_,q,?_,f⟩;have x:(w.drew.alloc (.cells (vs++Builtin.zeroCells zv.cells (grownCap w n b e-n)) e)).heap[w.heap.size]?=some (.cells (vs++Builtin.zeroCells zv.cells (grownCap w n b e-n)) e (0,0)):=vI w.drew _;refine VR.rsl h.nx 0 n z w.heap.size 0 _ _ e _ (fL _ _ _ _) x k l ?_;simp only[zM,size_zeroCells,g,d,<-ie];have:n+(grownCap w n b e-n)=grownCap w n b e:=by omega
 rw[this];omega
theorem Z?(S:aB own β h.H h.nx w){t ty e:TypeId}{z A:Nat}{ad:List AV}{s x v:AV}{cs cx:Value}{h':AH}(ht:P.underlying t=some (.slice e))(hz:iA P e=some ad)(af:eJ P e=some z)(aw:ad.length=z)(cd:z≠0)(aS:tp P e=some A)
  (C:VR w.heap (LL own β h.H) β s cs) (b0:VR w.heap (LL own β h.H) β x cx) (g:vg h z A s x=some (v,h')):
  gk P own β h w (do pure (.value (<-Builtin.append_ #[t,t] ty #[cs,cx]))) v h':=by
 unfold vg at g;split at g;case h_2=>cases g
 rename_i new m bb hm;split at g
 ·cases g
 rename_i an;have V:aM new=true:=by simpa using an
 obtain⟨i,zv,hi,aT,a1⟩:=ZJ hz;have bd:i.size=z:=by simp[eJ,hi]at af;exact af
 have bk:i.bytes=A:=by simp[tp,hi]at aS;exact aS
 subst bd;subst bk;obtain⟨xa,xc,q,rfl,cf,J,b1,W⟩:=uK (P:=P) S bb hm b0;have f:∀w',w'.heap=w.heap->(Builtin.firstCells i.size m (.slice xa m xc)).run P w' =.ok q.toArray w':=λw' hw=>by
  have:=W m (ay _) w' hw;rwa [dH (by omega)]at this
 have M:new.length=m*i.size:=by rw[J.1];exact b1
 have fresh:∀(b:Option Addr),m≠0->iC m i.bytes=true->gk P own β h w (do pure (.value (<-Builtin.append_ #[t,t] ty #[.slice b 0 0,.slice xa m xc]))) (.rsl h.nx 0 m i.size) (h.add (.cells new)):=by
  intro b d hr;obtain⟨r1,r2⟩:=ZZ hr;have h0:(Builtin.firstCells i.size 0 (.slice b 0 0)).run P w.drew =.ok #[] w.drew:=by
   cases b<;>simp[Builtin.firstCells,loadCells,loadCellsFrom]
  have p:=Zl (P:=P) (w:=w) (ty:=ty) ht hi aT b xa 0 0 m xc #[] q.toArray h0 (f w.drew rfl) (by omega) (by omega) (by rw[j4];exact r1);obtain⟨β',g1,g2,g3⟩:=Bt (e:=e) (i:=i) S (a1.trans aw) m 0 r2 (as:=new) (vs:=q.toArray) (by simpa using J) M;refine⟨_,_,β',.inl ?_,g1,g2,g3⟩;simp only[j4,Array.empty_append]at p;simp only[dy,p,ey,fC]
 have nothing:∀(b:Option Addr) (n cap:Nat),n<=cap->m=0->(Builtin.append_ #[t,t] ty #[.slice b n cap,.slice xa m xc]).run P w =.ok (.slice b n cap) w:=by
  intro b n cap hn d;subst d;have aj:q=[]:=fQ (by omega);subst aj;rw[Zn ht hi b xa n cap 0 xc _ (f w rfl) (by omega)];cases b<;>simp[storeCells]
 split at g;case h_1=>
  cases C;split at g
  ·rename_i d;cases g;exact .still S (by simp only[dy,nothing _ 0 0 (ay _) d,ey,fC]) .D
  rename_i d;split at g
  ·rename_i hr;cases g;exact fresh none d hr
  cases g
 case h_2=>
  cases C;rename_i b;split at g
  ·rename_i d;cases g;exact .still S (by simp only[dy,nothing _ 0 0 (ay _) d,ey,fC]) (.esl b)
  rename_i d;split at g
  ·rename_i hr;cases g;exact fresh b d hr
  cases g
 case h_3 xs=>
  split at g
  ·rename_i d;cases g;obtain⟨b,cap,rfl,u⟩:=z1 C (n:=xs.length) rfl;exact .still S (by simp only[dy,nothing b xs.length cap u d,ey,fC]) C
  cases g
 case h_4 id off len z'=>
  split at g;case isFalse=>cases g
  rename_i N;simp only[aI,ck]at N;obtain⟨b2,hr⟩:=N;subst b2;obtain⟨r1,r2⟩:=ZZ hr;cases U:h.E id with
  |none=>simp[U]at g
  |some cells=>
   simp only[U]at g;cases B:cut cells off (len*i.size)with
   |none=>simp[B]at g
   |some y=>
    simp only[B]at g;cases g;obtain⟨sa,l,ov,b3,ca,a6,b4,R⟩:=uK (P:=P) S (z:=i.size) (x:=.rsl id off len i.size) (new:=y) (m:=len) (by simp[cU,U,B]) rfl C;subst b3;have ao:y.length=len*i.size:=by rw[a6.1];exact b4
    obtain⟨b',Q,cur,e',hg,hβ',hb,hlen,bp⟩:=S.row U;by_cases r:len+m<=l
    ·have p:=Zn (P:=P) (w:=w) (ty:=ty) ht hi sa xa len l m xc _ (f w rfl) r;obtain⟨cb,ar⟩:=rI B;cases C with
     |rsl _ _ _ _ b base cap bs e0 b5 hβ a7 cc bx af=>
      obtain⟨rfl,rfl⟩:b=b'/\base=Q:=by rw[hβ]at hβ';simpa using hβ'
      obtain⟨rfl,rfl,rfl⟩:cur=bs/\e'=e0/\(0,0)=b5:=by rw[hb]at a7;simpa using a7
      have hmul:len*i.size+m*i.size<=l*i.size:=by rw[<-ie];exact kJ _ r
      have a8:=run_storeCells_at P b (base+off+len*i.size) e' q 0 cur w hb (by omega) (J.aM V);simp only[p6]at a8;have K:(cur.toList.take (base+off+len*i.size)++q++cur.toList.drop (base+off+len*i.size+q.length)).toArray.size=cur.size:=by simp;omega
      have al:(w.setRow b (cur.toList.take (base+off+len*i.size)++q++cur.toList.drop (base+off+len*i.size+q.length)).toArray).heap[b]?=some (.cells (cur.toList.take (base+off+len*i.size)++q++cur.toList.drop (base+off+len*i.size+q.length)).toArray e' (0,0)):=setRow_heap w b cur _ e' _ hb;have hw:=S.Eb (w':=w.setRow b (cur.toList.take (base+off+len*i.size)++q++cur.toList.drop (base+off+len*i.size+q.length)).toArray) hg hβ h.nx (base+off) (.inr rfl) (.cells (y++new)) (by simp) (λk hk=>vF w b k _ hk)
       (λc1 e1 fz u=>by rw[hb]at u;cases u;exact⟨_,_,al,K,rfl⟩) rfl rfl rfl
       (λL' β' ba=>⟨_,e',al,by rw[K];simp;omega,λj c v u hv=>by
        refine VR.later ba ?_;have G:(cur.toList.take (base+off+len*i.size)++q++cur.toList.drop (base+off+len*i.size+q.length))[base+off+j]?=some v:=by simpa using hv
        rw[Jx _ _ _ _ (by simp;omega)]at G;rw[i_]at u;split at u
        ·rename_i hj;rw[Z (by omega)]at G;rw[ar,gN]at u;split at u
         ·rw[ew]at u;exact bp _ c v u (by rw[<-pZ];simpa using G)
         cases u
        rename_i hj;rw[O (by omega)]at G;have cl:j-y.length<new.length:=(aL.1 u).1;rw[Z (by omega)]at G;refine J.2 _ c v u ?_;rw[<-G];congr 1;omega⟩)
      rw[Z rfl]at hw;refine⟨.slice (some ⟨b,base+off,none⟩) (len+m) l,_,_,.inl ?_,hw.1,?_,hw.2⟩
      ·simp only[nN,a8,ey]at p;simp only[dy,p,ey,fC]
      have:=VR.rsl (hp:=(w.setRow b (cur.toList.take (base+off+len*i.size)++q++cur.toList.drop (base+off+len*i.size+q.length)).toArray).heap) (L:=LL own (upd β h.nx b (base+off)) ((h.kill id).add (.cells (y++new))).H) (β:=upd β h.nx b (base+off)) h.nx 0 (len+m) i.size b (base+off) l _ e' _ (fL _ _ _ _) al r bx (by rw[K];omega);exact this
     |gi _ _ _ b base o hβ=>
      obtain⟨rfl,rfl⟩:b=b'/\base=Q:=by rw[hβ]at hβ';simpa using hβ'
      have d:m=0:=by omega
      subst d;have aj:q=[]:=fQ (by omega);have b6:new=[]:=fQ (by omega);have bY:y=[]:=fQ (by omega);subst aj;subst b6;subst bY;have hw:=S.Eb (w':=w) hg hβ h.nx base (.inr rfl) (.cells []) rfl (λ_ _=>rfl) (λc1 e1 fz u=>⟨c1,fz,u,rfl,rfl⟩) rfl rfl rfl
       (λL' β' ba=>⟨cur,e',hb,by simp;omega,λj c v u hv=>by simp at u⟩)
      rw[Z rfl]at hw;refine⟨.slice (some ⟨b,o,none⟩) 0 0,w,_,.inl ?_,hw.1,VR.gi _ _ _ _ _ _ (fL _ _ _ _),hw.2⟩;simp only[dy,nothing (some ⟨b,o,none⟩) 0 0 (ay _) rfl,ey,fC]
    have av:(Builtin.firstCells i.size len (.slice sa len l)).run P w.drew =.ok ov.toArray w.drew:=by
     have:=R len (ay _) w.drew rfl;rwa [dH (by omega)]at this
    have p:=Zl (P:=P) (w:=w) (ty:=ty) ht hi aT sa xa len l m xc ov.toArray q.toArray av (f w.drew rfl) r r2 r1;obtain⟨d1,d2⟩:=S.drop id;have b7:=(a6.append J).later d2.later;obtain⟨β',g1,g2,g3⟩:=Bt (h:=h.kill id) (e:=e) (i:=i) d1 (a1.trans aw) (len+m) l r2 (as:=y++new) (vs:=ov.toArray++q.toArray) (by rw[zI];exact b7) (by simp;rw[ao,M,ie]);refine⟨_,_,β',.inl ?_,g1,g2,d2.trans g3⟩;simp only[dy,p,ey,fC]
 case h_5=>cases g
end
section
variable {P:Program} {own:Nat->Prop} {β:Bl} {h:AH} {w:World}
theorem gk.val{s:Sem Value}{v:AV}{cv:Value}(b:aB own β h.H h.nx w)(c:s.run P w =.ok cv w)(d:VR w.heap (LL own β h.H) β v cv):gk P own β h w (do pure (.value (<-s))) v h:=
 .still b (by simp only[dy,c,ey,fC]) d
theorem adT(x:aB own β h.H h.nx w){t ty e:TypeId}{z:Nat}{d s v:AV}{y M:Value}{N:AH}(Q:P.underlying t=some (.slice e))(p:eJ P e=some z)
  (q:VR w.heap (LL own β h.H) β d y) (C:VR w.heap (LL own β h.H) β s M) (c:yY h z d s=some (v,N)):
  gk P own β h w (do pure (.value (<-Builtin.copy_ #[t,t] ty #[y,M]))) v N:=by
 unfold yY at c;split at c;case h_2=>cases c
 rename_i src m n r hm A;simp only at c;obtain⟨sa,sc,nv,rfl,af,G,aj,f⟩:=uK (P:=P) x r hm C;split at c
 ·rename_i j;cases c;have J:∃a cap,y =.slice a n cap:=by
   obtain⟨a,cap,B,_⟩:=z1 q A;exact⟨a,cap,B⟩
  obtain⟨a,cap,rfl⟩:=J;have R:=f 0 (fJ _) w rfl;refine .val x (cv:=.int .i64 0) ?_ (.int _ _);have g:Nat.min m n=0:=j;have K:∀S:Addr,(storeCells S []).run P w =.ok () w:=λS=>rfl
  cases a<;>simp[Builtin.copy_,fK Q,lL p,Builtin.lenOf,g,goInt]<;>simp at R<;>simp[R,K]
 rename_i j;split at c
 ·cases c
 rename_i o;have i:aM (src.take (min m n*z))=true:=by simpa using o
 split at c;case h_2=>cases c
 rename_i id off len V;split at c;case isFalse=>cases c
 rename_i W;subst W;cases k:h.E id with
 |none=>simp[k]at c
 |some cells=>
  simp only[k]at c;cases l:aP cells off (src.take (min m n*V))with
  |none=>simp[l]at c
  |some u=>
   simp only[l]at c;cases c;simp only[cj,cJ]at A;subst A;cases q with
   |rsl _ _ _ _ b base cap cur e0 al hβ hb hc U an=>
    obtain⟨w',B,h2,h3⟩:=ZA (P:=P) x k hβ l (G.take _) i;have hf:=f (min m len) (Nat.min_le_left _ _) w rfl;refine⟨.int .i64 (min m len:Nat),w',β,.inl ?_,h2,.int _ _,h3⟩;have g:Nat.min m len=min m len:=rfl;simp[Builtin.copy_,fK Q,lL p,Builtin.lenOf,g,hf,B,goInt]
   |gi=>simp at j
theorem n!{H:Hp}{y:Nat}(C:aB own β H y w)(r:Nat)(G:β r=none){t e:TypeId}{z b:Nat}{c:List AV}{n m:Int}(J:P.underlying t=some (.slice e))(A:iA P e=some c)(g:eJ P e=some z)(q:c.length=z)(Q:z≠0)(j:tp P e=some b)
  (K:0<=n) (h2:n<=m) (M:m<=9223372036854775807) (S:m.toNat*b<=140737488355328):
  pR P own β H y w (do pure (.value (<-Instr.makeSlice t (.int .i64 n) (.int .i64 m)))) (.rsl r 0 n.toNat z) (.cells (fI m.toNat c)) r:=by
 obtain⟨N,k,s⟩:=uf (P:=P) (w:=w) A (hp:=w.heap) (L:=LL own β H) (β:=β);obtain⟨i,d,hi,l,R⟩:=ZJ A;have u:d=N:=by simp[zeroValue,typeInfo,hi,l]at k;exact k
 subst u;have o:i.size=z:=by simp[eJ,hi]at g;exact g
 have p:i.bytes=b:=by simp[tp,hi]at j;exact j
 have B:=Qs s (by omega) m.toNat;rw[q]at B;have v:(i.bytes:Int)*m<=281474976710656:=by
  have:((m.toNat*b:Nat):Int)<=140737488355328:=by omega
  rw[Int.natCast_mul,Int.toNat_of_nonneg (by omega)]at this;rw[p,Int.mul_comm];omega
 have f:=run_make (P:=P) w t e i d J hi l .i64 .i64 n m K h2 v M;rw[o]at f;obtain⟨w',g1,g2,g3,g4,g5⟩:=xB (P:=P) C r G e (cs:=fI m.toNat c) (cur:=madeCells d.cells (m.toNat*z)) B;have x:w'=w.alloc (.cells (madeCells d.cells (m.toNat*z)) e):=by
  have:(newRow e (madeCells d.cells (m.toNat*z))).run P w =.ok ⟨w.heap.size,0,none⟩ (w.alloc (.cells (madeCells d.cells (m.toNat*z)) e)):=rfl;rw[this]at g1;cases g1;rfl
 refine⟨.slice (some ⟨w.heap.size,0,none⟩) n.toNat m.toNat,w',?_,g2,VR.rsl r 0 n.toNat z w.heap.size 0 m.toNat _ e _ g3 g5 (by omega) (by simp only[maxLen];omega) (by rw[size_madeCells];omega),g4⟩;simp only[dy,f,ey,fC,x]
end
section
variable {P:Program} {nt:Nat} {ds:List Deferred} {own:Nat->Prop} {β:Bl} {T:Tm} {h:AH} {a:Act} {w:World}
theorem wE(c:Sim nt ds own β T h a w){x:Option Operand}{y:Option Opd}(b:qR x=some y):VRO w.heap (LL own β h.H) β (y.map (·.ev T)) (x.map a.eval):=by
 cases x with
 |none=>simp[qR]at b;subst b;trivial
 |some x=>
  simp[qR]at b;obtain⟨z,d,rfl⟩:=b;exact bJ c d
def xal:XK->List AV->Option (bg×(Nat->AV))
 |.sL,[]=>some (.map [],λr=>.fh r)
 |.nB t z,[]=>some (.typ (2*t+1) z,λr=>.ptr r 0)
 |.sL,[.int _ _]=>some (.map [],λr=>.fh r)
 |_,_=>none
def fZ(T:Tm):AOp->Option (bg×(Nat->AV))
 |.new zero=>some (.cells zero,λr=>.ptr r 0)
 |.box x=>if dG (x.ev T)then some (.cells (x.ev T).cells,λr=>.ptr r 0)else none
 |.xd z len zero parts=>match iB T zero parts with
  |some cs=>some (.cells cs,λr=>.rsl r 0 len z)
  |none=>none
 |.vt z bytes zero l c=>match l.ev T,c.ev T with
  |.int .i64 n,.int .i64 m=>
   if 0<=n/\n<=m/\m<=9223372036854775807 then
    if m.toNat*bytes<=140737488355328 then some (.cells (fI m.toNat zero),λr=>.rsl r 0 n.toNat z)else none
   else none
  |_,_=>none
 |.xo k as=>xal k (as.map (·.ev T))
 |_=>none
def xA:XK->Bool
 |.sL=>true
 |.nB _ _=>true
 |_=>false
def aA:AOp->Bool
 |.new _ |.box _ |.xd _ _ _ _ |.vt _ _ _ _ _=>true
 |.xo k _=>xA k
 |_=>false
def oA:Op->Bool
 |.alloc _ |.box _ _ |.buildSlice _ _ _ |.makeSlice _ _ _=>true
 |_=>false
theorem LN{c:Bool}{t:TypeId}{x y:Opd}{d:AOp}(b:cEq P c t x y=some d):aA d=false:=by
 unfold cEq at b;split at b;case h_8=>
  split at b
  ·cases b
  simp only[jy]at b;obtain⟨_,_,rfl⟩:=b;rfl
 case h_9=>cases b
 all_goals (cases b;try rfl)
 all_goals (cases c<;>rfl)
theorem Mp{d:Op}{e:AOp}(b:cOp P d=some e):aA e=oA d:=by
 cases d<;>simp only[cOp]at b<;>try(cases b;done)
 case call c=>
  split at b
  ·simp only[bind,aZ,pure,cJ]at b;obtain⟨_,_,_,_,rfl⟩:=b;rfl
  ·(repeat' (split at b))<;>simp[bind,aZ]at b
   ·obtain⟨_,_,rfl⟩:=b;rfl
   obtain⟨_,_,rfl⟩:=b;rfl
  ·(repeat' (split at b))<;>simp[bind,aZ]at b
   obtain⟨_,_,_,_,_,_,_,_,_,_,_,rfl⟩:=b;rfl
  ·(repeat' (split at b))<;>simp[bind,aZ]at b
   obtain⟨_,_,_,_,_,_,_,rfl⟩:=b;rfl
  ·(repeat' (split at b))<;>simp[bind,aZ]at b
   obtain⟨_,_,_,_,rfl⟩:=b;rfl
  ·(repeat' (split at b))<;>simp[bind,aZ]at b
   obtain⟨_,_,_,_,rfl⟩:=b;rfl
  cases b
 case binOp d t x y ty=>
  simp only[bind,aZ]at b;obtain⟨_,_,_,_,b⟩:=b;cases d<;>simp at b;case eql=>exact LN b
  case neq=>exact LN b
  all_goals (subst b;rfl)
 case load t x=>
  simp only[bind,aZ]at b;obtain⟨n,_,b⟩:=b;cases n<;>simp[aZ]at b<;>obtain⟨_,_,rfl⟩:=b<;>rfl
 case buildSlice t len g=>
  split at b
  ·simp only[bind,aZ]at b;obtain⟨_,_,b⟩:=b;split at b
   ·cases b
   simp only[aZ]at b;obtain⟨_,_,b⟩:=b;split at b
   ·cases b
   simp only[aZ,pure,cJ]at b;obtain⟨_,_,rfl⟩:=b;rfl
  cases b
 case makeSlice t l c=>
  split at b
  ·simp only[bind,aZ]at b;obtain⟨_,_,_,_,b⟩:=b;split at b
   ·cases b
   simp only[aZ,pure,cJ]at b;obtain⟨_,_,_,_,_,_,rfl⟩:=b;rfl
  cases b
 case fieldAddr s x f=>
  split at b
  ·simp only[bind,aZ]at b;obtain⟨_,_,_,_,b⟩:=b;split at b
   ·cases b
   simp only[aZ,pure,cJ]at b;obtain⟨_,_,rfl⟩:=b;rfl
  cases b
 case slice t x lo hi i=>
  split at b
  ·simp only[bind,aZ]at b;obtain⟨_,_,b⟩:=b;split at b
   ·cases b
   simp only[aZ,pure,cJ]at b;obtain⟨_,_,_,_,_,_,_,_,rfl⟩:=b;rfl
  ·split at b
   ·cases b
   simp only[bind,aZ,pure,cJ]at b;obtain⟨_,_,_,_,_,_,rfl⟩:=b;rfl
  cases b
 case build t g=>
  split at b
  ·split at b
   ·simp only[bind,aZ,pure,cJ]at b;obtain⟨_,_,_,_,rfl⟩:=b;rfl
   cases b
  ·simp only[bind,aZ,pure,cJ]at b;obtain⟨_,_,_,_,_,_,rfl⟩:=b;rfl
  cases b
 case pick=>simp[bind,aZ]at b;obtain⟨_,_,_,_,_,_,rfl⟩:=b;rfl
 case store=>simp[bind,aZ]at b;obtain⟨_,_,_,_,_,_,rfl⟩:=b;rfl
 case convert=>(repeat' (split at b))<;>simp[bind,aZ]at b<;>obtain⟨_,_,rfl⟩:=b<;>rfl
 case indexAddr=>
  split at b
  ·simp only[bind,aZ,pure,cJ]at b;obtain⟨_,_,_,_,_,_,rfl⟩:=b;rfl
  ·simp only[bind,aZ,pure,cJ]at b;obtain⟨_,_,_,_,_,_,rfl⟩:=b;rfl
  cases b
 case index=>
  split at b
  ·simp only[bind,aZ,pure,cJ]at b;obtain⟨_,_,_,_,rfl⟩:=b;rfl
  cases b
 case extract=>simp[bind,aZ]at b;obtain⟨_,_,rfl⟩:=b;rfl
 case alloc=>(split at b; · cases b);simp only[jy]at b;obtain⟨_,_,rfl⟩:=b;rfl
 all_goals (simp only[jy]at b;obtain⟨_,_,rfl⟩:=b;rfl)
theorem W!{T:Tm}{b:AOp}{r:bg×(Nat->AV)}(h:fZ T b=some r):aA b=true:=by
 cases b<;>simp only[fZ]at h<;>first|(cases h;done)|rfl|skip
 rename_i k as;cases k<;>first|(simp[xal]at h;done)|rfl
theorem Oa{H:Hp}{U:Nat}(q:aB own β H U w)(hρ:∀x y,bj x=some y->VR w.heap (LL own β H) β (y.ev T) (a.eval x)){o:Oper}{v:AOp}{V:bg}{mk:Nat->AV}(b:cOp P o.op=some v)(d:fZ T v=some (V,mk))(r:Nat)(u:β r=none):
  pR P own β H U w (execOp a.eval o) (mk r) V r:=by
 have j:=Mp b;have W:aA v=true:=W! d;rw[W]at j;cases f:o.op<;>rw[f]at j<;>simp only[oA]at j<;>(try(cases j;done))<;>rw[f]at b<;>simp only[cOp]at b;case alloc e=>
  split at b
  ·cases b
  simp only[jy]at b;obtain⟨z,p,rfl⟩:=b;simp only[fZ]at d;cases d;simp only[execOp,f];exact aa4 q r u p
 case box e x=>
  simp only[jy]at b;obtain⟨y,hy,rfl⟩:=b;simp only[fZ]at d;split at d
  ·rename_i G;cases d;simp only[execOp,f];exact ad6 q r u e G (hρ _ _ hy)
  cases d
 case buildSlice t len ps=>
  split at b
  ·rename_i e hu;simp only[bind,aZ]at b;obtain⟨s,k,b⟩:=b;split at b
   ·cases b
   rename_i i;simp only[aZ]at b;obtain⟨z,p,b⟩:=b;split at b
   ·cases b
   rename_i g;simp only[aZ,pure,cJ]at b;obtain⟨J,K,rfl⟩:=b;simp only[fZ]at d;cases A:iB T (fI len z) J with
   |none=>simp[A]at d
   |some ad=>
    simp only[A]at d;cases d;simp only[iY,ck,fR,not_or]at i;simp only[ne_eq,tS]at g;simp only[execOp,f];exact aiS q r u hρ hu k i.1 i.2 p g K A
  cases b
 case makeSlice t l c=>
  split at b
  ·rename_i e hu;simp only[bind,aZ]at b;obtain⟨s,k,z,p,b⟩:=b;split at b
   ·cases b
   rename_i g;simp only[aZ,pure,cJ]at b;obtain⟨af,M,l',N,c',Q,rfl⟩:=b;simp only[iY,ck,fR,not_or,ne_eq,tS]at g;simp only[fZ]at d;have B:=hρ _ _ N;have h2:=hρ _ _ Q;split at d
   ·rename_i n m hn hm;rw[hn]at B;rw[hm]at h2;split at d
    ·rename_i C;split at d
     ·rename_i R;cases d;generalize hle:a.eval l=aj at B;generalize S:a.eval c=al at h2;cases B;cases h2;simp only[execOp,f,hle,S];exact n! q r u hu p k g.1 g.2 M C.1 C.2.1 C.2.2 R
     cases d
    cases d
   cases d
  cases b
theorem aal{j:iM}{c:AOp}{v:AV}{g:AH}(d:aA c=true)(b:aop j T h c=some (v,g)):∃ob mk,fZ T c=some (ob,mk)/\v=mk h.nx/\g=h.add ob:=by
 cases c<;>simp only[aA]at d<;>(try(cases d;done))<;>simp only[aop,nq,mb,pJ,cL,l9,o8,jw,gh,kSt,k_,aG,oK,lx,nu,kUn,lg,tu,gZ,aC,gv,tJ,jl,kSl,iD,bn,mO,uF,sX,fy,od,jk,ml,tD,kz,sN,<-dw]at b<;>simp only[fZ]
 ·cases b;exact⟨_,_,rfl,rfl,rfl⟩
 ·split at b
  ·rename_i e;cases b;exact⟨_,_,by rw[Z e],rfl,rfl⟩
  cases b
 ·split at b
  ·rename_i cs o;cases b;exact⟨_,_,by rw[o],rfl,rfl⟩
  cases b
 ·split at b
  ·rename_i n m p hm;split at b
   ·rename_i q;split at b
    ·rename_i f;cases b;exact⟨.cells (fI m.toNat _),λr=>.rsl r 0 n.toNat _,by rw[p,hm];simp only[Z q,Z f],rfl,rfl⟩
    cases b
   cases b
  cases b
 rename_i k as;cases k<;>simp only[xA]at d<;>(try(cases d;done));case sL=>
  generalize as.map (·.ev T)=i at b ⊢;unfold kX at b;split at b<;>(try(cases b;done));all_goals (rename_i heq;cases heq)
  ·cases b;exact⟨_,_,rfl,rfl,rfl⟩
  cases b;exact⟨_,_,rfl,rfl,rfl⟩
 case nB t z=>
  generalize as.map (·.ev T)=i at b ⊢;cases i with
  |nil=>simp only[kX]at b;cases b;exact⟨_,_,rfl,rfl,rfl⟩
  |cons x l=>simp[kX]at b
theorem agW(cl:iM)(J:Sim nt ds own β T h a w){o:Oper}{ao:AOp}{v:AV}{h':AH}(p:cOp P o.op=some ao)(l:aop cl T h ao=some (v,h'))(b2:∀f args,ao ≠ .call f args):
  gk P own β h w (execOp a.eval o) v h':=by
 have hp:=J.hp;by_cases hA:aA ao=true
 ·obtain⟨cs,mk,q,rfl,rfl⟩:=aal hA l;exact(Oa hp (λx y aw=>bJ J aw) p q h.nx (hp.fresh _ (ay _))).ok
 have M:=Mp p;have b3:aA ao=false:=by simpa using hA
 rw[b3]at M;cases A:o.op<;>rw[A]at p<;>simp only[cOp]at p<;>try(cases p;done)
 case alloc=>rw[A]at M;cases M
 case box=>rw[A]at M;cases M
 case buildSlice=>rw[A]at M;cases M
 case makeSlice=>rw[A]at M;cases M
 case move x=>
  simp only[jy]at p;obtain⟨y,K,rfl⟩:=p;simp only[aop,nq,<-dw]at l;cases l;simp only[execOp,A];exact .still hp (by simp) (bJ J K)
 case assign x=>
  simp only[jy]at p;obtain⟨y,K,rfl⟩:=p;simp only[aop,nq,<-dw]at l;cases l;simp only[execOp,A];exact .still hp (by simp) (bJ J K)
 case pick c x y=>
  simp only[bind,aZ,pure,cJ]at p;obtain⟨c',b4,R,G,y',W,rfl⟩:=p;simp only[aop,mb,<-dw]at l;have q:=bJ J b4;cases b5:c'.ev T<;>rw[b5]at l q<;>(try simp only at l)<;>try(cases l;done)
  rename_i b;generalize N:a.eval c=cv at q;cases q;cases l;simp only[execOp,A];refine .still hp (cv:=if b then a.eval x else a.eval y) (by simp[N,asBool]) ?_;cases b
  ·exact bJ J W
  exact bJ J G
 case build t ps=>
  split at p
  ·rename_i fs hu;split at p
   ·rename_i b6;simp only[bind,aZ,pure,cJ]at p;obtain⟨z,hz,ba,bb,rfl⟩:=p;simp only[aop,l9,<-dw]at l;cases hf:iB T z ba with
    |none=>simp[hf]at l
    |some cs=>
     simp only[hf]at l;cases l;obtain⟨cv,q,h2⟩:=aiJ (P:=P) (h:=h) (own:=own) (β:=β) (w:=w) (λx y aw=>bJ J aw) hu b6 hz bb hf;simp only[execOp,A];exact .val hp q h2
   cases p
  ·rename_i n e hu;simp only[bind,aZ,pure,cJ]at p;obtain⟨s,al,z,hz,ba,bb,rfl⟩:=p;simp only[aop,l9,<-dw]at l;cases hf:iB T z ba with
   |none=>simp[hf]at l
   |some cs=>
    simp only[hf]at l;cases l;obtain⟨cv,q,h2⟩:=aiV (P:=P) (h:=h) (own:=own) (β:=β) (w:=w) (λx y aw=>bJ J aw) hu al hz bb hf;simp only[execOp,A];exact .val hp q h2
  cases p
 case load t x=>
  simp only[bind,aZ]at p;obtain⟨n,hn,p⟩:=p;cases n with
  |none=>
   simp only[aZ,pure,cJ]at p;obtain⟨y,K,rfl⟩:=p;simp only[aop,jw,<-dw]at l;cases hl:lh h (y.ev T)with
   |none=>simp[hl]at l
   |some u=>
    simp only[hl]at l;cases l;obtain⟨cv,q,h2⟩:=NJ (P:=P) hp hn hl (bJ J K);simp only[execOp,A];exact .val hp q h2
  |some n=>
   simp only[aZ,pure,cJ]at p;obtain⟨y,K,rfl⟩:=p;simp only[aop,gh,<-dw]at l;cases hl:iP h n (y.ev T)with
   |none=>simp[hl]at l
   |some u=>
    simp only[hl]at l;cases l;obtain⟨cv,q,h2⟩:=Nq (P:=P) hp hn hl (bJ J K);simp only[execOp,A];exact .val hp q h2
 case store t x y=>
  simp only[bind,aZ,pure,cJ]at p;obtain⟨n,hn,R,G,y',W,rfl⟩:=p;simp only[aop,kSt,<-dw]at l;split at l
  ·rename_i b7;split at l
   ·rename_i hlen;simp only[aI,ck]at hlen;have q:=bJ J G;cases ad:R.ev T<;>rw[ad]at l q<;>(try simp only at l)<;>try(cases l;done)
    rename_i id off;cases aS:h.E id with
    |none=>simp[aS]at l
    |some cs=>
     simp only[aS]at l;cases bd:aP cs off (y'.ev T).cells with
     |none=>simp[bd]at l
     |some c8=>
      simp only[bd]at l;cases l;obtain⟨w',h2,h3,h4⟩:=aaH (P:=P) hp hn b7 hlen.1 hlen.2 aS bd q (bJ J W);simp only[execOp,A];exact⟨Go.undef,w',β,.inr ⟨by simp only[dy,h2,ey,fC],rfl⟩,h3,.undef _,h4⟩
   cases l
  cases l
 case nilCheck x=>
  simp only[jy]at p;obtain⟨y,K,rfl⟩:=p;simp only[aop,k_,<-dw]at l;have q:=bJ J K;generalize N:a.eval x=cv at q;simp only[execOp,A,N];cases Q:y.ev T<;>rw[Q]at l q<;>(try simp only at l)<;>try(cases l;done)
  ·cases l;have an:=q;cases q;exact .still hp (by simp) an
  ·cases l;have an:=q;cases q;exact .still hp (by simp) an
  ·cases l;have an:=q;cases q;exact .still hp (by simp) an
  rename_i fn f1 c1;cases fn<;>(try simp only at l)<;>try(cases l;done)
  cases l;have an:=q;cases q;exact .still hp (by simp) an
 case binOp op t x y ty=>
  simp only[bind,aZ]at p;obtain⟨R,G,y',W,p⟩:=p;have hx:=bJ J G;have K:=bJ J W;have plain:∀a7,ao =.arith a7 R y'->a7=op->gk P own β h w (execOp a.eval o) v h':=by
   intro a7 he ho;subst he;subst ho;simp only[aop,aG,<-dw]at l;cases B:eG a7 (R.ev T) (y'.ev T)with
   |none=>simp[B]at l
   |some u=>
    simp only[B]at l;cases l;obtain⟨cv,q,h2⟩:=abC (P:=P) (w:=w) (t:=t) (ox:=x) (oy:=y) B hx K;simp only[execOp,A];exact .val hp q h2
  have eqs:∀neg,(op=if neg then .neq else .eql)->cEq P neg t R y'=some ao->gk P own β h w (execOp a.eval o) v h':=by
   intro neg ho B;unfold cEq at B;have nn:∀(k:NK) (d:TypeDesc),P.underlying t=some d->k.fits d->ao =.eqn k neg R y'->gk P own β h w (execOp a.eval o) v h':=by
    intro k d hu hf he;subst he;simp only[aop,lx,<-dw]at l;cases ar:vj k (R.ev T) (y'.ev T)with
    |none=>simp[ar]at l
    |some r=>
     simp only[ar]at l;cases l;simp only[execOp,A,ho];exact .val hp (ad3 hu hf ar hx K) (.bool _)
   split at B
   ·rename_i hu;cases B;simp only[aop,oK,<-dw]at l;cases ad:R.ev T<;>rw[ad]at l hx<;>(try simp only at l)<;>try(cases l;done)
    cases Q:y'.ev T<;>rw[Q]at l K<;>(try simp only at l)<;>try(cases l;done)
    cases l;simp only[execOp,A,ho];generalize a.eval x=cx at hx;generalize a.eval y=cy at K;cases hx;cases K;exact .val hp (aeQ hu) (.bool _)
   ·exact plain _ (by cases B;rfl) (by rw[ho])
   ·exact plain _ (by cases B;rfl) (by rw[ho])
   ·rename_i e hu;exact nn .ptr _ hu trivial (by cases B;rfl)
   ·rename_i e hu;exact nn .sl _ hu trivial (by cases B;rfl)
   ·rename_i k e hu;exact nn .mp _ hu trivial (by cases B;rfl)
   ·rename_i q1 q2 q3 hu;exact nn .fn _ hu trivial (by cases B;rfl)
   ·rename_i fs hu;split at B
    ·cases B
    rename_i ca;simp only[jy]at B;obtain⟨ks,cb,rfl⟩:=B;simp only[aop,nu,<-dw]at l;cases ad:R.ev T<;>rw[ad]at l hx<;>(try simp only at l)<;>try(cases l;done)
    cases Q:y'.ev T<;>rw[Q]at l K<;>(try simp only at l)<;>try(cases l;done)
    rename_i xs ys;cases ar:bo ks xs ys with
    |none=>simp[ar]at l
    |some r=>
     simp only[ar]at l;cases l;obtain⟨vx,cc,cd⟩:=VR.SI hx;obtain⟨vy,cf,cn⟩:=VR.SI K;simp only[execOp,A,ho,cc,cf];have b0:∃m,gx P t=some m/\m.isSome:=by
      have:(P.info? t).isSome:=by
       unfold Program.underlying at hu;cases hi:P.info? t with
       |none=>simp[hi]at hu
       |some i=>rfl
      cases hi:P.info? t with
      |none=>simp[hi]at this
      |some i=>exact⟨some i.size,by simp[gx,hu,eJ,hi],rfl⟩
     have heq:=(afu (P:=P) (w:=w) (hp:=w.heap) (L:=LL own β h.H) (β:=β) 50 t ks cb 10000 xs ys r (by omega) ar).2 vx vy b0 cd cn;have cr:=run_eqGuard_agg (P:=P) w (if neg then .neq else .eql) t x y vx vy (by simpa using ca);refine .val hp (cv:=.bool (if neg then !r else r)) ?_ (.bool _);simp only[dy,cr,ey];cases neg
     ·simp only[dT,bH,run_eql_struct,heq,ey]
     simp only[bt,run_neq_struct,heq,ey]
   cases B
  cases op<;>simp only[pure,cJ]at p;case eql=>exact eqs false rfl p
  case neq=>exact eqs true rfl p
  all_goals exact plain _ p.symm rfl
 case unOp op t x=>
  simp only[jy]at p;obtain⟨y,K,rfl⟩:=p;simp only[aop,kUn,<-dw]at l;have q:=bJ J K;generalize N:a.eval x=cv at q;simp only[execOp,A,N];cases Q:y.ev T<;>rw[Q]at l q<;>simp only[aun]at l<;>try(cases l;done)
  ·cases q;cases op<;>(try simp only at l)<;>try(cases l;done)
   cases l;exact .val hp (by simp[Op.unary]) (.bool _)
  cases q;cases op<;>(try simp only at l)<;>try(cases l;done)
  ·cases l;refine .val hp ?_ (.int _ _);simp only[Op.unary,Op.intArith];rfl
  cases l;refine .val hp ?_ (.int _ _);simp only[Op.unary,Op.intBits];rfl
 case convert src dst x=>
  split at p
  ·rename_i d k ct cu;simp only[bind,aZ,pure,cJ]at p;obtain⟨y,K,rfl⟩:=p;simp only[aop,lg,<-dw]at l;have q:=bJ J K;generalize N:a.eval x=cv at q;simp only[execOp,A,N];cases Q:y.ev T<;>rw[Q]at l q<;>(try simp only at l)<;>try(cases l;done)
   cases l;cases q;exact .val hp (by simp[convert,fK ct,fK cu,Conv.intToInt]) (.int _ _)
  cases p
 case fieldAddr s x f=>
  split at p
  ·rename_i fs hu;simp only[bind,aZ]at p;obtain⟨g,hg,n,hn,p⟩:=p;split at p
   ·cases p
   rename_i cN;simp only[aZ,pure,cJ]at p;obtain⟨y,K,rfl⟩:=p;simp only[aop,gZ,<-dw]at l;cases B:kC g.offset (y.ev T)with
   |none=>simp[B]at l
   |some u=>
    simp only[B]at l;cases l;obtain⟨cv,q,h2⟩:=N' (P:=P) (w:=w) hu hg hn cN (bJ J K) B;simp only[execOp,A];exact .val hp q h2
  cases p
 case indexAddr t x i=>
  split at p
  ·rename_i e hu;simp only[bind,aZ,pure,cJ]at p;obtain⟨z,hz,R,G,i',af,rfl⟩:=p;simp only[aop,aC,<-dw]at l;cases B:sW z (R.ev T) (i'.ev T)with
   |none=>simp[B]at l
   |some u=>
    simp only[B]at l;cases l;obtain⟨cv,q,h2⟩:=acS (P:=P) (w:=w) hu hz (bJ J G) (bJ J af) B;simp only[execOp,A];exact .val hp q h2
  ·rename_i n e hu;simp only[bind,aZ,pure,cJ]at p;obtain⟨z,hz,R,G,i',af,rfl⟩:=p;simp only[aop,gv,<-dw]at l;cases hj:aix n (i'.ev T)with
   |none=>simp[hj]at l
   |some j=>
    simp only[hj]at l;cases B:kC (j*z) (R.ev T)with
    |none=>simp[B]at l
    |some u=>
     simp only[B]at l;cases l;obtain⟨cv,q,h2⟩:=J! (P:=P) (w:=w) hu hz (bJ J G) (bJ J af) hj B;simp only[execOp,A];exact .val hp q h2
  cases p
 case index t x i=>
  split at p
  ·rename_i hu;simp only[bind,aZ,pure,cJ]at p;obtain⟨R,G,i',af,rfl⟩:=p;simp only[aop,jl,<-dw]at l;have q:=bJ J G;cases ad:R.ev T<;>rw[ad]at l q<;>(try simp only at l)<;>try(cases l;done)
   rename_i s;cases hj:aix s.length (i'.ev T)with
   |none=>simp[hj]at l
   |some j=>
    simp only[hj]at l;cases B:s[j]? with
    |none=>simp[B]at l
    |some c=>
     simp only[B]at l;cases l;have h2:=acY (P:=P) (w:=w) hu (bJ J af) hj B;generalize N:a.eval x=cx at q;cases q;simp only[execOp,A,N];exact .val hp h2 (.int _ _)
  cases p
 case slice t x lo hi mx=>
  split at p
  ·rename_i e hu;simp only[bind,aZ]at p;obtain⟨s,al,p⟩:=p;split at p
   ·cases p
   simp only[aZ,pure,cJ]at p;obtain⟨R,G,bk,a1,af,a6,cR,b1,rfl⟩:=p;simp only[aop,kSl,<-dw]at l;cases B:mH s (R.ev T) (bk.map (·.ev T)) (af.map (·.ev T)) (cR.map (·.ev T))with
   |none=>simp[B]at l
   |some u=>
    simp only[B]at l;cases l;obtain⟨cv,q,h2⟩:=abT (P:=P) (w:=w) hu al (bJ J G) (wE J a1) (wE J a6) (wE J b1) B;simp only[execOp,A];exact .val hp q h2
  ·rename_i hu;split at p
   ·cases p
   rename_i dc;have cT:mx=none:=by cases mx<;>simp_all
   subst cT;simp only[bind,aZ,pure,cJ]at p;obtain⟨R,G,bk,a1,af,a6,rfl⟩:=p;simp only[aop,iD,<-dw]at l;have q:=bJ J G;cases ad:R.ev T<;>rw[ad]at l q<;>(try simp only at l)<;>try(cases l;done)
   rename_i s;cases B:qh s (bk.map (·.ev T)) (af.map (·.ev T))with
   |none=>simp[B]at l
   |some r=>
    simp only[B]at l;cases l;have h2:=X? (P:=P) (w:=w) hu (wE J a1) (wE J a6) B;generalize N:a.eval x=cx at q;cases q;simp only[execOp,A,N];exact .val hp h2 (.str _)
  cases p
 case extract x i=>
  simp only[bind,aZ,pure,cJ]at p;obtain⟨y,K,rfl⟩:=p;simp only[aop,ml,<-dw]at l;have q:=bJ J K;cases Q:y.ev T<;>rw[Q]at l q<;>(try simp only at l)<;>try(cases l;done)
  rename_i vs;cases B:vs[i]? with
  |none=>simp[B]at l
  |some u=>
   simp only[B]at l;cases l;obtain⟨cs,aS,hR⟩:=VR.SH q;obtain⟨cv,h2,h3⟩:=hR.get B;simp only[execOp,A,aS];refine .val hp (cv:=cv) ?_ h3;have h4:cs[i]?=some cv:=by simpa using h2
   simp[Instr.extract,h4]
 case call c=>
  obtain⟨callee,args,av⟩:=c;simp only at p;split at p
  ·simp only[bind,aZ,pure,cJ]at p;obtain⟨f',dd,df,c7,rfl⟩:=p;exact absurd rfl (b2 _ _)
  ·split at p
   ·rename_i x t aj a8;have C:args = #[x]:=by cases args;simp_all
    have V:av = #[t]:=by cases av;simp_all
    subst C;subst V;split at p
    ·rename_i hu;simp only[bind,aZ,pure,cJ]at p;obtain⟨y,K,rfl⟩:=p;simp only[aop,mO,<-dw]at l;have q:=bJ J K;generalize N:a.eval x=cv at q;cases Q:y.ev T<;>rw[Q]at l q<;>(try simp only at l)<;>try(cases l;done)
     cases l;cases q;simp only[execOp,A];rename_i s;refine .still hp (cv:=.int .i64 s.length) ?_ (.int _ _);simp[resolve,invoke,builtin,Builtin.len_,fK hu,goInt,N,lJ]
    ·rename_i e hu;simp only[bind,aZ,pure,cJ]at p;obtain⟨y,K,rfl⟩:=p;simp only[aop,bn,<-dw]at l;have q:=bJ J K;cases B:cj (y.ev T)with
     |none=>simp[B]at l
     |some n=>
      simp only[B]at l;cases l;obtain⟨b,cap,hb,_⟩:=z1 q B;simp only[execOp,A];refine .still hp (cv:=.int .i64 n) ?_ (.int _ _);simp[resolve,invoke,builtin,Builtin.len_,fK hu,goInt,hb]
    cases p
   cases p
  ·split at p
   ·rename_i s x t u aj a8;have C:args = #[s,x]:=by cases args;simp_all
    have V:av = #[t,u]:=by cases av;simp_all
    subst C;subst V;split at p
    ·cases p
    rename_i aT;simp only[ne_eq,tS]at aT;subst aT;split at p
    ·rename_i e hu;simp only[bind,aZ]at p;obtain⟨z,hz,sz,al,p⟩:=p;split at p
     ·cases p
     rename_i bp;simp only[aZ,pure,cJ]at p;obtain⟨dk,c6,s',bs,R,G,rfl⟩:=p;simp only[iY,ck,fR,not_or,ne_eq,tS]at bp;simp only[aop,fy,<-dw]at l;have:=Z? (P:=P) (ty:=o.type) hp hu hz al bp.1 bp.2 c6 (bJ J bs) (bJ J G) l;simp only[execOp,A];simpa[resolve,invoke,builtin]using this
    cases p
   cases p
  ·split at p
   ·rename_i s x t u aj a8;have C:args = #[s,x]:=by cases args;simp_all
    have V:av = #[t,u]:=by cases av;simp_all
    subst C;subst V;split at p
    ·cases p
    rename_i aT;simp only[ne_eq,tS]at aT;subst aT;split at p
    ·rename_i e hu;simp only[bind,aZ]at p;obtain⟨sz,al,p⟩:=p;split at p
     ·cases p
     simp only[aZ,pure,cJ]at p;obtain⟨s',bs,R,G,rfl⟩:=p;simp only[aop,od,<-dw]at l;have:=adT (P:=P) (ty:=o.type) hp hu al (bJ J bs) (bJ J G) l;simp only[execOp,A];simpa[resolve,invoke,builtin]using this
    cases p
   cases p
  ·split at p
   ·rename_i x y aj;have C:args = #[x,y]:=by cases args;simp_all
    subst C;simp only[bind,aZ,pure,cJ]at p;obtain⟨R,G,y',W,rfl⟩:=p;simp only[aop,jk,<-dw]at l;have q:=bJ J G;have h2:=bJ J W;split at l
    ·rename_i k m k' n hm hn;cases l;rw[hm]at q;rw[hn]at h2;generalize S:a.eval x=cx at q;generalize U:a.eval y=cy at h2;cases q;cases h2;simp only[execOp,A];refine .still hp (cv:=.int k (if n<m then n else m)) ?_ (.int _ _);simp[resolve,invoke,builtin,Builtin.min_,Builtin.min2,S,U]
    split at l
    ·rename_i v' bx;cases l;obtain⟨k,m,n,S,U,bY⟩:=Uf bx q h2;simp only[execOp,A];refine .still hp ?_ bY;simp[resolve,invoke,builtin,Builtin.min_,Builtin.min2,S,U]
    cases l
   cases p
  ·split at p
   ·rename_i x y aj;have C:args = #[x,y]:=by cases args;simp_all
    subst C;simp only[bind,aZ,pure,cJ]at p;obtain⟨R,G,y',W,rfl⟩:=p;simp only[aop,jk,<-dw]at l;have q:=bJ J G;have h2:=bJ J W;split at l
    ·rename_i k m k' n hm hn;cases l;rw[hm]at q;rw[hn]at h2;generalize S:a.eval x=cx at q;generalize U:a.eval y=cy at h2;cases q;cases h2;simp only[execOp,A];refine .still hp (cv:=.int k (if m<n then n else m)) ?_ (.int _ _);simp[resolve,invoke,builtin,Builtin.max_,Builtin.max2,S,U]
    split at l
    ·rename_i v' bx;cases l;obtain⟨k,m,n,S,U,bY⟩:=Uf bx q h2;simp only[execOp,A];refine .still hp ?_ bY;simp[resolve,invoke,builtin,Builtin.max_,Builtin.max2,S,U]
    cases l
   cases p
  cases p
end
open MapKept
section
variable {P:Program}
end
section
variable {hp:Array Obj} {L:Nat->Prop} {β:Bl}
end
section
variable {P:Program} {hp:Array Obj} {L:Nat->Prop} {β:Bl}
end
section
variable {P:Program} {own:Nat->Prop} {β:Bl} {h:AH} {w:World}
theorem Ol{H:Hp}{b:Nat}(e:aB own β H b w)(r:Nat)(f:β r=none){t:TypeId}{z:List AV}(g:iA P t=some z):∃v:Value,(do pure (Next.value (<-Instr.alloc t true (.tuple #[]))):Sem Next).run P w =.ok (.value (.pointer (some ⟨w.heap.size,0,none⟩))) { w with heap:=w.heap.push (.cells v.cells t) }/\
  aB own (upd β r w.heap.size 0) (H.put r (.typ (2*t+1) z)) (max b (r+1)) { w with heap:=w.heap.push (.cells v.cells t) }/\(b<=r->aX own β ⟨H,b⟩ w (upd β r w.heap.size 0) ⟨H.put r (.typ (2*t+1) z),max b (r+1)⟩ { w with heap:=w.heap.push (.cells v.cells t) })/\aX own β ⟨H,0⟩ w (upd β r w.heap.size 0) ⟨H.put r (.typ (2*t+1) z),0⟩ { w with heap:=w.heap.push (.cells v.cells t) }:=by
 obtain⟨v,j,h2⟩:=uf (P:=P) (w:=w) g (hp:=w.heap) (L:=LL own β H) (β:=β);have n:z.length=v.cells.size:=by simpa using h2.1
 refine⟨v,?_,e.newObj (w':={ w with heap:=w.heap.push (.cells v.cells t) }) r f (.typ (2*t+1) z) (.cells v.cells t) rfl rfl rfl rfl
  (λm o β' d k=>⟨rfl,v.cells,by rw[wA];exact k,⟨by omega,λ_=>by omega⟩,λi c u l hu=>(h2.2 i c u l (by simpa using hu)).later d⟩)⟩
 simp only[Instr.alloc,newVar,dy,j,ey,fC];rfl
theorem adq(c:aB own β h.H h.nx w){t:TypeId}{z:List AV}(e:iA P t=some z):
  gk P own β h w (do pure (.value (<-Instr.alloc t true (.tuple #[])))) (.ptr h.nx 0) (h.add (.typ (2*t+1) z)):=by
 obtain⟨v,f,h2,d,_⟩:=Ol c h.nx (c.fresh _ (ay _)) e;have b:max h.nx (h.nx+1)=h.nx+1:=by omega
 rw[b]at h2 d;exact⟨_,_,_,.inl f,h2,.ptr _ 0 _ 0 (fL _ _ _ _),d (ay _)⟩
theorem Q7(d:aB own β h.H h.nx w){t:TypeId}{i:Array (String×TypeId)}(e:P.underlying t=some (.interface i)){neg:Bool}{x v:AV}{f:AH}{c:Value}{ox:Operand}(b:kX h (.nz neg) [x]=some (v,f))(g:VR w.heap (LL own β h.H) β x c):
  gk P own β h w (do pure (Next.value (<-(do eqGuard (if neg then .neq else .eql) t ox (.const .nilIface) c .nilIface;binOp (if neg then .neq else .eql) t c .nilIface:Sem Value)))) v f:=by
 have j:∀n,(Op.equalIn (n+1) t .nilIface .nilIface).run P w =.ok true w:=λn=>by simp[Op.equalIn,fK e]
 have k:∀n t2 u,(Op.equalIn (n+1) t (.iface t2 u) .nilIface).run P w =.ok false w:=λn t2 u=>by simp[Op.equalIn,fK e]
 have l:(Op.equal t .nilIface .nilIface).run P w =.ok true w:=j 9999;have m:∀t2 u,(Op.equal t (.iface t2 u) .nilIface).run P w =.ok false w:=λt2 u=>k 9999 t2 u
 cases x<;>simp only[kX]at b<;>try(cases b;done)
 ·cases b;cases g;refine .val d (cv:=.bool (!neg)) ?_ (.bool _);cases neg<;>simp[eqGuard,binOp,l]
 cases b;cases g;refine .val d (cv:=.bool neg) ?_ (.bool _);cases neg<;>simp[eqGuard,binOp,m]
end
section
variable {P:Program} {own:Nat->Prop} {β:Bl} {h:AH} {w:World}
end
section
variable {P:Program} {nt:Nat} {ds:List Deferred} {own:Nat->Prop} {β:Bl} {T:Tm} {h:AH} {a:Act} {w:World}
theorem aeD(k:iM)(f:Sim nt ds own β T h a w){o:Oper}{i:AOp}{v:AV}{j:AH}(b:cM P o.op=some i)(d:aop k T h i=some (v,j)):gk P own β h w (execOp a.eval o) v j:=by
 have hp:=f.hp;unfold cM at b;split at b
 ·rename_i t x ty c;split at b
  ·rename_i ms y hu g;cases b;have e:=bJ f g;simp only[aop,da,h_]at d;generalize y.ev T=l at d e;simp only[execOp,c];exact Q7 hp hu (neg:=false) (ox:=x) d e
  cases b
 ·rename_i t x ty c;split at b
  ·rename_i ms y hu g;cases b;have e:=bJ f g;simp only[aop,da,h_]at d;generalize y.ev T=l at d e;simp only[execOp,c];exact Q7 hp hu (neg:=true) (ox:=x) d e
  cases b
 ·rename_i t c;simp only[execOp,c];split at b
  ·simp only[jy]at b;obtain⟨z,m,rfl⟩:=b;simp only[aop,h_,kX]at d;cases d;exact adq hp m
  cases b
 cases b
end
section
variable {P:Program} {own:Nat->Prop} {β:Bl} {T:Tm} {a:Act} {w:World}
theorem P!{H:Hp}{g:Nat}(i:aB own β H g w)(hρ:∀x y,bj x=some y->VR w.heap (LL own β H) β (y.ev T) (a.eval x)){o:Oper}{j:AOp}{k:bg}{mk:Nat->AV}(c:mo P o.op=j)(d:fZ T j=some (k,mk))(r:Nat)(l:β r=none):
  pR P own β H g w (execOp a.eval o) (mk r) k r:=by
 unfold mo at c;split at c
 ·rename_i e b;subst c;exact Oa i hρ b d r l
 split at c
 ·rename_i e b;subst c;unfold cX at b;repeat' (split at b)
  all_goals first|(cases b;done)|(cases b;simp[fZ,xal]at d;done)
 split at c
 ·rename_i e b;subst c;unfold cM at b;split at b
  ·split at b
   ·cases b;simp[fZ,xal]at d
   cases b
  ·split at b
   ·cases b;simp[fZ,xal]at d
   cases b
  ·rename_i t f;split at b
   ·simp only[jy]at b;obtain⟨z,m,rfl⟩:=b;simp only[execOp,f];simp only[fZ,h_,xal]at d;cases d;obtain⟨v,k1,k2,n⟩:=Ol i r l m;exact⟨_,_,k1,k2,.ptr _ 0 _ 0 (fL _ _ _ _),n⟩
   cases b
  all_goals (repeat' (split at b))
  all_goals first|(cases b;done)|(cases b;simp[fZ,xal]at d;done)
 subst c;simp[fZ]at d
end
theorem j?(l:List UInt8)(d:∀b∈l,b.toNat<128):∀(bound i:Nat) (acc:Array Value),i<=l.length->l.length-i<=bound->
  Conv.runesFrom ⟨l.toArray⟩ bound i acc=acc++((l.drop i).map λb=>Value.int .i32 (b.toNat:Int)).toArray:=by
 intro bound;induction bound with
 |zero=>
  intro i acc hi e;have:l.drop i=[]:=gp (by omega);simp[Conv.runesFrom,this]
 |succ n f=>
  intro i acc hi e;unfold Conv.runesFrom;have hs:(⟨l.toArray⟩:ByteArray).size=l.length:=lJ l;by_cases h:i<l.length
  ·rw[Z (by rw[hs];exact h)];have c:((⟨l.toArray⟩:ByteArray).get! (i+0))=l[i]:=by
    simp[ByteArray.get!,getElem!_def,bF h]
   have g:Utf8.decode ⟨l.toArray⟩ i=(l[i].toNat,1):=by
    unfold Utf8.decode;simp only[c];rw[Z (d _ (gG h))]
   rw[g];simp only;rw[f (i+1) _ (by omega) (by omega),ig h,da];generalize(List.map (λb=>Value.int IntKind.i32 (b.toNat:Int)) (List.drop (i+1) l))=r;simp
  rw[O (by rw[hs];exact h)];have:l.drop i=[]:=gp (by omega);simp[this]
theorem Z!(s:List UInt8)(i:Nat):Utf8.decode ⟨s.toArray⟩ i=Utf8.decode ⟨(s.drop i).toArray⟩ 0:=by
 have b:∀k,((⟨(s.drop i).toArray⟩:ByteArray).get! (0+k))=((⟨s.toArray⟩:ByteArray).get! (i+k)):=by
  intro k;simp[ByteArray.get!,getElem!_def,ew]
 have hs:∀k,decide (0+k<(⟨(s.drop i).toArray⟩:ByteArray).size)=decide (i+k<(⟨s.toArray⟩:ByteArray).size):=by
  intro k;rw[lJ,lJ,bW];exact pY.2 (by omega)
 unfold Utf8.decode;simp only[b,hs]
theorem Zu(s:ByteArray)(i:Nat):1<=(Utf8.decode s i).2:=by
 unfold Utf8.decode;repeat' (first|split|(simp only[];split))
 all_goals simp
theorem k!(l:List UInt8):∀(bound i:Nat) (acc:Array Value) (n:Nat),l.length-i<=bound->l.length-i<=n->
  Conv.runesFrom ⟨l.toArray⟩ bound i acc=acc++((iL n (l.drop i)).map λr=>Value.int .i32 r).toArray:=by
 intro bound;induction bound with
 |zero=>
  intro i acc n c d;have:l.drop i=[]:=gp (by omega);rw[this];cases n<;>simp[Conv.runesFrom,iL]
 |succ m e=>
  intro i acc n c d;unfold Conv.runesFrom;have hs:(⟨l.toArray⟩:ByteArray).size=l.length:=lJ l;by_cases h:i<l.length
  ·rw[Z (by rw[hs];exact h)];obtain⟨n,rfl⟩:∃k,n=k+1:=⟨n-1,by omega⟩;have hw:=Zu ⟨l.toArray⟩ i;have b:=Z! l i;rw[ig h]at b;rw[ig h];simp only[iL];rw[<-b];generalize Utf8.decode ⟨l.toArray⟩ i=p at hw;obtain⟨r,w⟩:=p;simp only at hw ⊢;rw[e (i+w) _ n (by omega) (by omega),<-ig h,lB];simp
  rw[O (by rw[hs];exact h)];have:l.drop i=[]:=gp (by omega);rw[this];cases n<;>simp[iL]
theorem aiF(l:List UInt8):Conv.runesFrom ⟨l.toArray⟩ (⟨l.toArray⟩:ByteArray).size 0 #[]=((ak l).map λr=>Value.int .i32 r).toArray:=by
 rw[k! l _ 0 #[] l.length (by rw[lJ];omega) (by omega)];simp[ak]
theorem vV:∀(n:Nat) (l:List UInt8),(iL n l).length<=l.length
 |0,l=>by simp[iL]
 |n+1,[]=>by simp[iL]
 |n+1,b::l=>by
  simp only[iL,aF];have c:=vV n ((b::l).drop (Utf8.decode ⟨(b::l).toArray⟩ 0).2);have h2:=Zu ⟨(b::l).toArray⟩ 0;rw[bW,aF]at c;omega
theorem aa2{l:List UInt8}(h:asc l=true):∀b∈l,b.toNat<128:=by
 intro b c;have:=fi.1 h b c;simpa[Nat.blt_eq]using this
section
variable {hp:Array Obj} {L:Nat->Prop} {β:Bl}
theorem b?:∀(l:List UInt8),RL hp L β (pg l) (l.map λb=>Value.int .i32 (b.toNat:Int))
 |[]=>RL.nil
 |b::l=>RL.cons (.int _ _) (b? l)
theorem Rr:∀(l:List Int),RL hp L β (l.map az) (l.map λn=>Value.int .i32 n)
 |[]=>RL.nil
 |_::l=>RL.cons (.int _ _) (Rr l)
theorem OM:∀ {cs:List AV} {b:List Int},mY cs=some b->cs=b.map az
 |[],b,h=>by simp[mY]at h;subst h;rfl
 |c::cs,b,h=>by
  unfold mY at h;split at h
  ·cases ‹_::_=[]›
  ·rename_i n r he;cases he;split at h
   ·rename_i l d;cases h;rw[OM d];rfl
   cases h
  cases h
theorem adw{e:List AV}{d:List Int}{c:List Value}(h:mY e=some d)(b:RL hp L β e c):c=d.map (Value.int .i32):=by
 have f:=OM h;subst f;clear h;induction d generalizing c with
 |nil=>have:=b.1;simp at this;exact mu.1 this.symm
 |cons n d g=>
  match c,b with
  |[],b=>exact absurd b.1 (by simp)
  |v::c,b=>
   have i:=b.head;rw[g b.tail];cases i;rfl
theorem aiP(b:List Int):runesBytes b=⟨(bD b).toArray⟩:=by
 have c:∀(b:List Int) (x:ByteArray),b.foldl (λr n=>r++Utf8.encode n) x=x++⟨(bD b).toArray⟩:=by
  intro b;induction b with
  |nil=>intro x;show x=x++ByteArray.empty;simp
  |cons m b d=>
   intro x;rw[mq,d,ByteArray.append_assoc];congr 1
 unfold runesBytes;rw[c];simp
theorem Jz:∀(l:List UInt8),(pg l).length=l.length
 |[]=>rfl
 |_::l=>by simp[pg,Jz l]
theorem Rq:∀ {cs:List AV} {s:List UInt8} {e:List Value},nd cs=some s->RL hp L β cs e->∃b:List Int,e=b.map (Value.int .i32)/\runesBytes b=⟨s.toArray⟩
 |[],s,e,h,d=>by
  simp[nd]at h;subst h;have:e=[]:=by have:=d.1;simp at this;exact mu.1 this.symm
  subst this;exact⟨[],rfl,rfl⟩
 |c::cs,s,e,h,d=>by
  match e,d with
  |[],d=>exact absurd d.1 (by simp)
  |v::e,d=>
  have i:=d.head;have j:=d.tail;unfold nd at h;split at h
  ·cases ‹_::_=[]›
  ·rename_i n r he;cases he;split at h
   ·rename_i q;split at h
    ·rename_i l o;cases h;obtain⟨b,p,h2⟩:=Rq o j;cases i;refine⟨n::b,by simp[p],?_⟩;have g:Utf8.encode n=⟨#[UInt8.ofNat n.toNat]⟩:=by
      have i:Utf8.valid n=true:=by unfold Utf8.valid;simp;omega
      unfold Utf8.encode;simp only[i,bt];rw[Z (by omega)]
     have f:∀(b:List Int) (x:ByteArray),b.foldl (λr n=>r++Utf8.encode n) x=x++b.foldl (λr n=>r++Utf8.encode n) ByteArray.empty:=by
      intro b;induction b with
      |nil=>intro x;simp
      |cons m b k=>intro x;rw[mq,k,mq,k (ByteArray.empty++_)];simp[ByteArray.append_assoc]
     unfold runesBytes at h2 ⊢;rw[mq,f,h2,g];simp only[ByteArray.empty_append];have:=Zr [UInt8.ofNat n.toNat] l;simpa using this
    cases h
   cases h
  cases h
theorem Lm:∀ {cs:List AV} {s:List UInt8} {d:List Value},mK cs=some s->RL hp L β cs d->∃e:List Int,d=e.map (Value.int .u8)/\(e.map λn=>UInt8.ofNat n.toNat)=s
 |[],s,d,h,b=>by
  simp[mK]at h;subst h;have:d=[]:=by have:=b.1;simp at this;exact mu.1 this.symm
  subst this;exact⟨[],rfl,rfl⟩
 |c::cs,s,d,h,b=>by
  match d,b with
  |[],b=>exact absurd b.1 (by simp)
  |v::d,b=>
  have g:=b.head;have f:=b.tail;unfold mK at h;split at h
  ·cases ‹_::_=[]›
  ·rename_i n r he;cases he;split at h
   ·rename_i l i;cases h;obtain⟨e,j,h2⟩:=Lm i f;cases g;exact⟨n::e,by simp[j],by simp[h2]⟩
   cases h
  cases h
end
section
variable {P:Program} {own:Nat->Prop} {β:Bl} {h:AH} {w:World}
theorem JJ{a:Addr}{m c:Nat}{b:List Value}(e:b.length=m*1)(d:∀n,n<=m->∀w',w'.heap=w.heap->(Builtin.firstCells 1 n (.slice (some a) m c)).run P w' =.ok (b.take (n*1)).toArray w'):
  (loadCells a m).run P w =.ok b.toArray w:=by
 have:=d m (ay _) w rfl;rw[dH (by omega)]at this;simpa[Builtin.firstCells]using this
theorem aeo(l:aB own β h.H h.nx w){d f e:TypeId}{s:List UInt8}(j:P.underlying d=some .string)(h2:P.underlying f=some (.slice e))(m:P.underlying e=some (.int .i32))
  (n:asc s=true) (p:s.length<=1000000000):gk P own β h w (do pure (.value (<-convert d f (.string ⟨s.toArray⟩)))) (.rsl h.nx 0 s.length 1) (h.add (.cells (pg s))):=by
 have k:Conv.runesFrom ⟨s.toArray⟩ (⟨s.toArray⟩:ByteArray).size 0 #[]=(s.map λb=>Value.int .i32 (b.toNat:Int)).toArray:=by
  rw[j? s (aa2 n) _ 0 #[] (fJ _) (by rw[lJ];omega)];simp
 have c:=run_runes_of_string (P:=P) w d f e ⟨s.toArray⟩ j h2 m (by rw[k];simp;omega);rw[k]at c;obtain⟨β',g1,g2,g3⟩:=Bt (w:=w) l (e:=e) (z:=1) (i:=default) (zv:=.int .i32 0) rfl s.length 0 (by omega) (as:=pg s) (vs:=(s.map λb=>Value.int .i32 (b.toNat:Int)).toArray) (by simpa using b? s) (by rw[Jz];omega);have o:Builtin.zeroCells (Value.int .i32 0).cells (grownCap w s.length 0 e-s.length)=Array.replicate (grownCap w s.length 0 e-s.length) (.int .i32 0):=by
  have g:(Value.int .i32 0).cells = #[Value.int .i32 0]:=rfl;rw[g];apply Array.ext
  ·simp[Builtin.zeroCells]
  intro i j h2;simp[Builtin.zeroCells,Nat.mod_one]
 rw[o]at g1 g2 g3;refine⟨_,_,β',.inl ?_,g1,g2,g3⟩;simp only[dy,c,ey,fC];simp
theorem ae1(d:aB own β h.H h.nx w){b c e:TypeId}{x:AV}{f:Value}{g:List AV}{m:Nat}{s:List UInt8}(o:P.underlying b=some (.slice e))(h2:P.underlying c=some .string)(p:P.underlying e=some (.int .i32))
  (i:VR w.heap (LL own β h.H) β x f) (q:cU h 1 x=some g) (j:cj x=some m) (r:nd g=some s):gk P own β h w (do pure (.value (<-convert b c f))) (.str s) h:=by
 obtain⟨a,cap,y,rfl,_,t,k,u⟩:=uK (P:=P) d q j i;obtain⟨l,rfl,n⟩:=Rq r t;refine .still d (cv:=.string ⟨s.toArray⟩) ?_ (.str s);simp only[dy,run_convert_runes_string w b c e a m cap o p h2];cases a with
 |none=>
  have:m=0:=by
   cases i<;>simp[cj]at j<;>omega
  subst this;have:l=[]:=by simpa using k
  subst this;have:(⟨s.toArray⟩:ByteArray) =.empty:=n.symm;rw[this];rfl
 |some v=>
  rw[run_runesToString w v m cap l (JJ k u),n];simp
theorem acN(l:aB own β h.H h.nx w){c d e:TypeId}{s:List UInt8}(j:P.underlying c=some .string)(h2:P.underlying d=some (.slice e))(m:P.underlying e=some (.int .i32))
  (o:s.length<=1000000000):gk P own β h w (do pure (.value (<-convert c d (.string ⟨s.toArray⟩)))) (.rsl h.nx 0 (ak s).length 1) (h.add (.cells ((ak s).map az))):=by
 have k:=aiF s;have hlen:=vV s.length s;have b:=run_runes_of_string (P:=P) w c d e ⟨s.toArray⟩ j h2 m (by rw[k];simp[ak];omega);rw[k]at b;have f:(List.map (λr=>Value.int IntKind.i32 r) (ak s)).toArray.size=(ak s).length:=by simp
 rw[f]at b;obtain⟨β',g1,g2,g3⟩:=Bt (w:=w) l (e:=e) (z:=1) (i:=default) (zv:=.int .i32 0) rfl (ak s).length 0 (by unfold ak;omega) (as:=(ak s).map az) (vs:=((ak s).map λr=>Value.int .i32 r).toArray) (by simpa using Rr (ak s)) (by simp);have n:Builtin.zeroCells (Value.int .i32 0).cells (grownCap w (ak s).length 0 e-(ak s).length)=Array.replicate (grownCap w (ak s).length 0 e-(ak s).length) (.int .i32 0):=by
  have g:(Value.int .i32 0).cells = #[Value.int .i32 0]:=rfl;rw[g];apply Array.ext
  ·simp[Builtin.zeroCells]
  intro i j h2;simp[Builtin.zeroCells,Nat.mod_one]
 rw[n]at g1 g2 g3;refine⟨_,_,β',.inl ?_,g1,g2,g3⟩;simp only[dy,b,ey,fC]
theorem aB.aha{own:Nat->Prop}{β:Bl}{H:Hp}{c:Nat}{w w':World}(d:aB own β H c w)(k:Obj)(g:w'.heap=w.heap.push k)(l:w'.os=w.os)(h2:w'.tape=w.tape)(m:w'.output=w.output):
  aB own β H c w'/\aX own β ⟨H,c⟩ w β ⟨H,c⟩ w':=by
 have q:w'.heap.size=w.heap.size+1:=by rw[g];simp
 have hold:∀b,b<w.heap.size->w'.heap[b]?=w.heap[b]?:=λb f=>by rw[g,Array.getElem?_push,O (by omega)]
 have i:aX own β ⟨H,c⟩ w β ⟨H,c⟩ w':=
  ⟨λ_ _ h=>h,λ_ _=>rfl,ay _,by omega,λb f _=>hold b f,λ_ h=>.inl h,λb cur e n j=>⟨cur,n,by rw[hold b (gR j)];exact j,rfl,λ_=>rfl⟩,l,h2,m⟩
 refine⟨⟨d.fresh,λid b base f=>by have:=d.lt id b base f;omega,λb f=>by have:=d.iU b f;omega,λid o p=>?_,d.inj⟩,i⟩;obtain⟨b,base,q1,q2,q3⟩:=d.obj id o p;exact⟨b,base,q1,q2,q3.later i.later (hold b (d.lt id b base q1))⟩
theorem aeh(q:aB own β h.H h.nx w){g k e:TypeId}{s:List UInt8}(A:P.underlying g=some .string)(h2:P.underlying k=some (.slice e))(B:P.underlying e=some (.int .u8)):
  gk P own β h w (do pure (.value (<-convert g k (.string ⟨s.toArray⟩)))) (.psl (s.map λc=>[.int .u8 c.toNat])) h:=by
 have f:=run_bytes_of_string (P:=P) w g k e ⟨s.toArray⟩ A h2 B;have r:(⟨s.toArray⟩:ByteArray).size=(s.map λc=>[AV.int .u8 (c.toNat:Int)]).length:=by rw[lJ,kK]
 generalize p:grownCap w (⟨s.toArray⟩:ByteArray).size 0 e=cap at f;have n:(⟨s.toArray⟩:ByteArray).size<=cap:=by rw[<-p];exact grownCap_ge w _ 0 e
 obtain⟨g1,g2⟩:=q.aha (w':=w.drew.alloc (.cells (bytesRow ⟨s.toArray⟩ cap) e ((bytesRow ⟨s.toArray⟩ cap).size,(bytesRow ⟨s.toArray⟩ cap).size+1))) _ rfl rfl rfl rfl;refine⟨.slice (some ⟨w.heap.size,0,none⟩) (⟨s.toArray⟩:ByteArray).size cap,_,β,.inl (by simp only[dy,f,ey,fC]),g1,?_,g2⟩;have C:(w.drew.alloc (.cells (bytesRow ⟨s.toArray⟩ cap) e ((bytesRow ⟨s.toArray⟩ cap).size,(bytesRow ⟨s.toArray⟩ cap).size+1))).heap[w.heap.size]?=some (.cells (bytesRow ⟨s.toArray⟩ cap) e ((bytesRow ⟨s.toArray⟩ cap).size,(bytesRow ⟨s.toArray⟩ cap).size+1)):=vI w.drew _;rw[r]at n ⊢;refine .psl _ 1 w.heap.size 0 _ _ _ _ C ?_ ?_ ?_ n ?_
 ·rintro(G|⟨id,o,base,J,t⟩)
  ·exact absurd (q.iU _ G) (Nat.lt_irrefl _)
  exact absurd (q.lt _ _ _ t) (Nat.lt_irrefl _)
 ·rw[kK];simp[bytesRow]
 ·intro i x b;rw[cA]at b;cases m:s[i]? with
  |none=>rw[m]at b;cases b
  |some c=>rw[m]at b;cases b;rfl
 intro i x j c v b m z;rw[cA]at b;cases l:s[i]? with
 |none=>rw[l]at b;cases b
 |some d=>
  rw[l]at b;cases b;match j with
  |0=>
   simp at m;subst m;obtain⟨u,he⟩:=aL.1 l;have y:=bytesRow_at ⟨s.toArray⟩ cap i (by simpa using u);rw[show 0+i*1+0=i by omega,y]at z;cases z;subst he;simp only[List.getElem_toArray];exact .int _ _
  |j+1=>simp at m
theorem acz(g:aB own β h.H h.nx w){b c e:TypeId}{x:AV}{i:Value}{j:List AV}{m:Nat}{d:List Int}(o:P.underlying b=some (.slice e))(h2:P.underlying c=some .string)(p:P.underlying e=some (.int .i32))
  (k:VR w.heap (LL own β h.H) β x i) (q:cU h 1 x=some j) (l:cj x=some m) (r:mY j=some d):gk P own β h w (do pure (.value (<-convert b c i))) (.str (bD d)) h:=by
 obtain⟨a,cap,v,rfl,_,s,n,t⟩:=uK (P:=P) g q l k;have f:=adw r s;subst f;refine .still g (cv:=.string ⟨(bD d).toArray⟩) ?_ (.str _);simp only[dy,run_convert_runes_string w b c e a m cap o p h2];cases a with
 |none=>
  have:m=0:=by
   cases k<;>simp[cj]at l<;>omega
  subst this;have:d=[]:=by simpa using n
  subst this;rfl
 |some u=>
  rw[run_runesToString w u m cap d (JJ n t),aiP];simp
theorem ad_(g:aB own β h.H h.nx w){b c e:TypeId}{x:AV}{i:Value}{j:List AV}{m:Nat}{s:List UInt8}(p:P.underlying b=some (.slice e))(h2:P.underlying c=some .string)(q:P.underlying e=some (.int .u8))
  (k:VR w.heap (LL own β h.H) β x i) (r:cU h 1 x=some j) (l:cj x=some m) (t:mK j=some s):gk P own β h w (do pure (.value (<-convert b c i))) (.str s) h:=by
 obtain⟨a,cap,z,rfl,_,u,n,v⟩:=uK (P:=P) g r l k;obtain⟨o,rfl,d⟩:=Lm t u;refine .still g (cv:=.string ⟨s.toArray⟩) ?_ (.str s);simp only[dy,run_convert_bytes_string w b c e a m cap p q h2];cases a with
 |none=>
  have:m=0:=by
   cases k<;>simp[cj]at l<;>omega
  subst this;have:o=[]:=by simpa using n
  subst this;simp at d;subst d;rfl
 |some y=>
  rw[run_bytesToString w y m cap o (JJ n v),foldl_push_bytes,d];have f:ByteArray.empty.data = #[]:=rfl;rw[f];simp
end
section
variable {P:Program} {nt:Nat} {ds:List Deferred} {own:Nat->Prop} {β:Bl} {T:Tm} {h:AH} {a:Act} {w:World}
theorem afD(C:iM)(l:Sim nt ds own β T h a w){o:Oper}{A:AOp}{v:AV}{B:AH}(f:cX P o.op=some A)(b:aop C T h A=some (v,B)):gk P own β h w (execOp a.eval o) v B:=by
 have hp:=l.hp;unfold cX at f;split at f;case h_3=>cases f
 case h_2=>
  rename_i t x p;simp only[execOp,p];split at f
  ·cases f
  ·rename_i u z g;split at f
   ·rename_i y i;cases f;have d:=bJ l i;simp only[aop,da,h_,kX]at b;cases b;refine .still hp (cv:=.iface t (a.eval x)) ?_ (.iface _ _ _ d);cases u<;>first|exact absurd rfl (z _)|simp[Instr.makeInterface,fK g]
   cases f
  cases f
 rename_i src dst x p;simp only[execOp,p];split at f
 ·rename_i e g h2;split at f
  ·rename_i y j i;cases f;have d:=bJ l i;simp only[aop,da,h_]at b;generalize y.ev T=q at b d;generalize a.eval x=r at d;unfold kX at b;split at b<;>try(cases ‹XK.s2r=_›)
   ·rename_i s he;cases he;split at b
    ·rename_i c;cases b;simp only[aI,Nat.ble_eq]at c;cases d;exact aeo hp g h2 j c.1 c.2
    split at b
    ·rename_i c;cases b;simp only[Nat.ble_eq]at c;cases d;exact acN hp g h2 j c
    cases b
   cases b
  ·rename_i y j i;cases f;have d:=bJ l i;simp only[aop,da,h_]at b;generalize y.ev T=q at b d;generalize a.eval x=r at d;cases q<;>simp[kX]at b;obtain⟨H,rfl,rfl⟩:=b;cases d;exact aeh hp g h2 j
  cases f
 ·rename_i e g h2;split at f
  ·rename_i y j i;cases f;have d:=bJ l i;simp only[aop,da,h_]at b;generalize y.ev T=q at b d;generalize a.eval x=r at d;simp only[kX]at b;split at b
   ·rename_i cs m q1 q2;split at b
    ·rename_i s q3;cases b;exact ae1 hp g h2 j d q1 q2 q3
    split at b
    ·rename_i J G;cases b;exact acz hp g h2 j d q1 q2 G
    cases b
   cases b
  ·rename_i y j i;cases f;have d:=bJ l i;simp only[aop,da,h_]at b;generalize y.ev T=q at b d;generalize a.eval x=r at d;simp only[kX]at b;split at b
   ·rename_i cs m q1 q2;split at b
    ·rename_i s q3;cases b;exact ad_ hp g h2 j d q1 q2 q3
    cases b
   cases b
  cases f
 ·rename_i k g h2;split at f
  ·rename_i y i;cases f;have d:=bJ l i;simp only[aop,da,h_]at b;generalize y.ev T=q at b d;generalize a.eval x=r at d;cases q<;>simp[kX]at b;obtain⟨rfl,rfl⟩:=b;cases d;rename_i K n;have he:Utf8.encode n=⟨(e_ n).toArray⟩:=by simp[e_]
   refine .still hp (cv:=.string ⟨(e_ n).toArray⟩) ?_ (.str _);rw[<-he];simp[convert,fK g,fK h2,Conv.intToString]
  cases f
 cases f
theorem afA(e:iM)(i:Sim nt ds own β T h a w){o:Oper}{j:AOp}{v:AV}{l:AH}(b:mo P o.op=j)(g:aop e T h j=some (v,l))(k:∀f args,j ≠ .call f args):
  gk P own β h w (execOp a.eval o) v l:=by
 unfold mo at b;split at b
 ·rename_i d c;subst b;exact agW e i c g k
 split at b
 ·rename_i d c;subst b;exact afD e i c g
 split at b
 ·rename_i d c;subst b;exact aeD e i c g
 subst b;simp[aop]at g
end
def HOk(P:Program)(b:iM):Prop:=
 ∀f args h v h',b f args h=some (v,h')->
  (∃fn,P.funcs[f]?=some fn/\fn.body.isSome=true/\fn.name ≠ "runtime.NumGoroutine")/\
  ∀(own:Nat->Prop) (β:Bl) (w:World) (cargs:Array Value),aB own β h.H h.nx w->RL w.heap (LL own β h.H) β args cargs.toList->
   Calls P f cargs w λe w'=>∃cv β',e =.returned cv/\aB own β' h'.H h'.nx w'/\VR w'.heap (LL own β' h'.H) β' v cv/\aX own β h w β' h' w'
def jX(T:Tm)(d:Option Nat)(v:AV):Tm:=
 match d with
 |some d=>T.put d v
 |none=>T
def la:AV:=.tup []
theorem MT{P:Program}{e:Bool}{t:TypeId}{a b f:Opd}{d:List Opd}(c:cEq P e t a b=some (.call f d)):False:=by
 unfold cEq at c;split at c<;>first|(cases c;done)|skip
 split at c
 ·cases c
 simp at c
theorem N0{P:Program}{e:Op}{f:Opd}{d:List Opd}(b:cOp P e=some (.call f d)):∃c i,e =.call c/\c.callee =.value i/\bj i=some f/\sR c.args.toList=some d:=by
 cases e<;>simp only[cOp]at b<;>try(cases b;done)
 case call c=>
  refine⟨c,?_⟩;split at b
  ·rename_i i j;simp only[bind,aZ,pure,cJ]at b;obtain⟨m,k,l,g,he⟩:=b;cases he;exact⟨i,rfl,j,k,g⟩
  all_goals first|(cases b;done)|skip
  all_goals (repeat' (split at b))<;>simp[bind,aZ]at b
  all_goals (obtain⟨_,_,_,_,b⟩:=b;split at b<;>simp at b)
 case binOp e t x y ty=>
  simp only[bind,aZ]at b;obtain⟨_,_,_,_,b⟩:=b;cases e<;>simp at b
  ·exact(MT b).elim
  exact(MT b).elim
 all_goals (repeat' (split at b))<;>simp[bind,aZ]at b
 case load t x=>
  obtain⟨n,_,b⟩:=b;cases n<;>simp[aZ]at b
theorem acG{P:Program}{d:Op}{c:AOp}(b:cX P d=some c):∃k as,c =.xo k as:=by
 unfold cX at b;repeat' (split at b)
 all_goals first|(cases b;done)|(cases b;exact⟨_,_,rfl⟩)
theorem ac0{P:Program}{d:Op}{c:AOp}(b:cM P d=some c):∃k as,c =.xo k as:=by
 unfold cM at b;repeat' (split at b)
 all_goals first|(cases b;done)|(cases b;exact⟨_,_,rfl⟩)|(simp only[jy]at b;obtain⟨_,_,rfl⟩:=b;exact⟨_,_,rfl⟩)
theorem Lv{P:Program}{e:Op}{f:Opd}{c:List Opd}(b:mo P e =.call f c):cOp P e=some (.call f c):=by
 unfold mo at b;split at b
 ·rename_i g d;subst b;exact d
 split at b
 ·rename_i g d;obtain⟨k,as,rfl⟩:=acG d;cases b
 split at b
 ·rename_i g d;obtain⟨k,as,rfl⟩:=ac0 d;cases b
 cases b
section
variable {P:Program} {nt:Nat} {ds:List Deferred} {own:Nat->Prop} {β:Bl} {T:Tm} {h:AH} {a:Act} {w:World}
theorem y9{t:iM}(A:HOk P t)(s:Sim nt ds own β T h a w){o:Oper}{u:AOp}{v:AV}{p:AH}(q:mo P o.op=u)(k:aop t T h u=some (v,p))
  {K:Act->World->Prop} {Q:Exit->Act->World->Prop}
  (S:∀r w' β',aB own β' p.H p.nx w'->VR w'.heap (LL own β' p.H) β' v r->aX own β h w β' p w'->K (a.put o.dst r) w'):o.wp P a w K Q:=by
 by_cases d:∃f args,u =.call f args
 ·obtain⟨f,args,rfl⟩:=d;have l:=N0 (Lv q);obtain⟨c,V,l,B,W,has⟩:=l;simp only[aop,nq,mb,pJ,cL,l9,o8,jw,gh,kSt,k_,aG,oK,lx,nu,kUn,lg,tu,gZ,aC,gv,tJ,jl,kSl,iD,bn,mO,uF,sX,fy,od,jk,ml,tD,kz,sN,<-dw]at k;have m:=bJ s W;cases C:f.ev T<;>rw[C]at k m<;>(try simp only at k)<;>try(cases k;done)
  rename_i fn first captured
  cases fn<;>(try simp only at k)<;>try(cases k;done)
  rename_i g;obtain⟨⟨fn,G,R,n⟩,j⟩:=A g _ h v p k;generalize J:a.eval V=cf at m;cases m;rename_i f2 c2 M x N h2;have hR:RL w.heap (LL own β h.H) β (first++args.map (·.ev T)++captured) (f2++c.args.map a.eval++c2).toList:=by
   have r1:RL w.heap (LL own β h.H) β first f2.toList:=⟨by simpa using M,λi c v q y=>x i c v q (by simpa using y)⟩
   have r2:RL w.heap (LL own β h.H) β captured c2.toList:=⟨by simpa using N,λi c v q y=>h2 i c v q (by simpa using y)⟩;have r3:=Kw s has;have:=(r1.append r3).append r2;simpa using this
  have b:(execOp a.eval o).run P w =.ok (.enter g (f2++c.args.map a.eval++c2)) w:=by
   have hb:fn.body.isNone=false:=by cases hq:fn.body<;>simp_all
   simp only[execOp,l,resolve,B,J,Deferred.ofValue,dy,fC,ey,invoke,callFunc,run_program,G];simp[n,hb]
  unfold Oper.wp;rw[b];show Calls P g _ w _
  refine(j own β w _ s.hp hR).mono ?_;rintro e w' ⟨r,β',rfl,z,h4,h5⟩;exact S r w' β' z h4 h5
 obtain⟨r,w',β',b,x,h2,z⟩:=afA t s q k (λf args he=>d ⟨f,args,he⟩);have U:=S r w' β' x h2 z;unfold Oper.wp;rcases b with b|⟨b,rfl⟩
 ·rw[b];exact U
 rw[b];exact U
end
def gd(T:Tm):Option (Nat×Bool)->Option Bool
 |none=>some true
 |some (t,b)=>match T.get t with
  |some (.bool c)=>some (c==b)
  |some (.tup [])=>some false
  |_=>none
def pQ(nt:Nat):Option Nat->Bool
 |none=>true
 |some d=>Nat.blt d nt
def pS(P:Program)(nt:Nat)(c:Array Oper)(o:Oper):Option aq:=
  if pQ nt o.dst then
   match o.guard with
   |none=>some ⟨o.dst,mo P o.op,none⟩
   |some (j,b)=>match(c[j]?).bind (·.dst)with
    |some t=>some ⟨o.dst,mo P o.op,some (t,b)⟩
    |none=>none
  else none
def oh(P:Program)(nt:Nat)(b:Array Oper):List Oper->Option (List aq)
 |[]=>some []
 |o::r=>match pS P nt b o,oh P nt b r with
  |some x,some l=>some (x::l)
  |_,_=>none
section
variable {P:Program} {nt:Nat} {ds:List Deferred} {own:Nat->Prop} {β:Bl} {T:Tm} {h:AH} {a:Act} {w:World}
theorem Sim.put(b:Sim nt ds own β T h a w){w':World}{β':Bl}{c:AH}{v:AV}{i:Value}{d:Option Nat}(k:pQ nt d=true)(j:aB own β' c.H c.nx w')(h2:VR w'.heap (LL own β' c.H) β' v i)(l:aX own β h w β' c w'):
  Sim nt ds own β' (jX T d v) c (a.put d i) w':=by
 have e:∀t u,T.get t=some u->VR w'.heap (LL own β' c.H) β' u (a.tmps.getD t Go.undef):=λt u hu=>(b.tm t u hu).later l.later
 cases d with
 |none=>exact⟨j,b.sz,e,b.df⟩
 |some d=>
  have g:d<nt:=by simpa[pQ]using k
  refine⟨j,by simp[Act.put,b.sz],λt u hu=>?_,b.df⟩;simp only[jX]at hu;by_cases f:t=d
  ·subst f;rw[Tm.kN]at hu;cases hu;have:t<a.tmps.size:=by rw[b.sz];exact g
   simpa[Act.put,this]using h2
  rw[Tm.jb _ _ f]at hu;have:=e t u hu;simpa[Act.put,vE (lI f)]using this
theorem rH(B:Sim nt ds own β T h a w){e:Array Oper}{o:Oper}{v:aq}(g:pS P nt e o=some v){b:Bool}(d:gd T v.guard=some b):Region.wanted o (yielded e a.tmps)=b:=by
 unfold pS at g;split at g;case isFalse=>cases g
 split at g
 ·rename_i f;cases g;simp[gd]at d;simp[Region.wanted,f,d]
 rename_i j want f;split at g
 ·rename_i t C;cases g;simp only[gd]at d;have A:yielded e a.tmps j=match a.tmps[t]? with|some (.bool b)=>some b|_=>none:=by unfold yielded;rw[C];rfl
  cases l:T.get t with
  |none=>simp[l]at d
  |some u=>
   have m:=B.tm t u l;cases u<;>simp[l]at d
   ·rename_i c;have:a.tmps[t]?=some (.bool c):=by
     generalize n:a.tmps.getD t Go.undef=z at m;cases m;by_cases i:t<a.tmps.size
     ·simp[i]at n ⊢; exact n
     simp[i,Go.undef]at n
    simp only[Region.wanted,f,A,this];rw[<-d];cases c<;>cases want<;>rfl
   rename_i G;cases G with
   |cons x y=>simp at d
   |nil=>
    simp at d;obtain⟨cs,k,H⟩:=VR.SH m;have r:∀q,a.tmps[t]?≠some (.bool q):=by
     intro q p;have:a.tmps.getD t Go.undef =.bool q:=by simp[p]
     rw[this]at k;cases k
    have s:yielded e a.tmps j=none:=by
     rw[A];split
     ·rename_i q p;exact absurd p (r q)
     rfl
    simp only[Region.wanted,f,s];rw[d];rfl
 cases g
theorem Mf{d:Array Oper}{o:Oper}{c:aq}(b:pS P nt d o=some c):mo P o.op=c.op/\pQ nt o.dst=true/\c.dst=o.dst:=by
 unfold pS at b;split at b
 ·rename_i e;split at b
  ·cases b;exact⟨rfl,e,rfl⟩
  split at b
  ·cases b;exact⟨rfl,e,rfl⟩
  cases b
 cases b
end
def Opd.use:Opd->List Nat
 |.tmp t=>[t]
 |.const _=>[]
def sT:Option Opd->List Nat
 |some x=>x.use
 |none=>[]
def qN:List Opd->List Nat
 |[]=>[]
 |x::r=>x.use++qN r
def u_:List (Nat×Nat×Opd)->List Nat
 |[]=>[]
 |(_,_,x)::r=>x.use++u_ r
def AOp.gL:AOp->List Nat
 |.mov x |.box x |.ld1 x |.ldn _ x |.yJ x |.un _ x |.zk _ x |.fld _ _ x |.Ji _ x |.len x |.zF x |.I1 x |.ext x _=>x.use
 |.pick c a b=>c.use++a.use++b.use
 |.new _ |.Y4 _=>[]
 |.build _ ps |.xd _ _ _ ps=>u_ ps
 |.st _ x y |.arith _ x y |.eqs _ x y |.eqn _ _ x y |.eqf _ _ x y |.Jh _ x y |.BK _ _ x y |.idx _ _ _ x y |.zH x y |.app _ _ x y |.copy _ x y |.vz _ x y |.vt _ _ _ x y=>x.use++y.use
 |.sl _ x lo hi mx=>x.use++sT lo++sT hi++sT mx
 |.slS x lo hi=>x.use++sT lo++sT hi
 |.mkf _ f c=>qN f++qN c
 |.call f as=>f.use++qN as
 |.xo _ as=>qN as
 |.stuck=>[]
def aq.gL(o:aq):List Nat:=
 match o.guard with
 |some (t,_)=>t::o.op.gL
 |none=>o.op.gL
def xE:XK->Bool
 |.yH _ _ _ |.yI |.sL |.nB _ _ |.nz _ |.i2s |.s2b |.ni _ |.b2s |.r2s=>false
 |_=>true
def aE:AOp->Bool
 |.st _ _ _ |.app _ _ _ _ |.copy _ _ _ |.call _ _=>true
 |.xo k _=>xE k
 |_=>false
def xRd:XK->List AV->Option Nat
 |.yH _ _ _,.fh id::_=>some id
 |.yI,.fh id::_=>some id
 |.b2s,.rsl id _ _ _::_=>some id
 |.r2s,.rsl id _ _ _::_=>some id
 |_,_=>none
def aRd(T:Tm):AOp->Option Nat
 |.ld1 a |.ldn _ a=>match a.ev T with
  |.ptr id _=>some id
  |.c_ g _=>some g
  |_=>none
 |.xo k as=>xRd k (as.map (·.ev T))
 |_=>none
inductive Rec where
 |pure
 |read (x:Nat)
 |alloc (r:Nat) (ob:bg)
 |eff (V C:AH)
structure bZ where
 T:Tm
 h:AH
 v:AV
 k:Rec
def bZ.h'(s:bZ):AH:=
 match s.k with
 |.pure |.read _=>s.h
 |.alloc r ob=>⟨s.h.H.put r ob,s.h.nx⟩
 |.eff _ C=>C
def oc(b:iM)(o:aq)(r:Nat)(T:Tm)(h:AH):Option bZ:=
 match gd T o.guard with
 |some false=>some ⟨T,h,la,.pure⟩
 |some true=>
  if aA o.op then match fZ T o.op with
   |some (cs,mk)=>some ⟨T,h,mk r,.alloc r cs⟩
   |none=>none
  else match aop b T h o.op with
   |some (v,h')=>
    if aE o.op then(if Nat.ble h.nx h'.nx then some ⟨T,h,v,.eff h h'⟩else none)
    else match aRd T o.op with
     |some x=>some ⟨T,h,v,.read x⟩
     |none=>some ⟨T,h,v,.pure⟩
   |none=>none
 |none=>none
mutual
def AV.beq:AV->AV->Bool
 |.undef,.undef=>true
 |.bool a,.bool b=>a==b
 |.int k a,.int l b=>decide (k=l)&&a==b
 |.str a,.str b=>a==b
 |.agg a,.agg b=>AV.jM a b
 |.tup a,.tup b=>AV.jM a b
 |.ptr a b,.ptr c d=>a==c&&b==d
 |.dh,.dh=>true
 |.ai a,.ai b=>AV.jM a b
 |.c_ a b,.c_ c d=>a==c&&b==d
 |.D,.D=>true
 |.esl,.esl=>true
 |.psl a,.psl b=>AV.qM a b
 |.rsl a b c d,.rsl e f g i=>a==e&&b==f&&c==g&&d==i
 |.fh a,.fh b=>a==b
 |.fp,.fp=>true
 |.func f a b,.func g c d=>decide (f=g)&&AV.jM a c&&AV.jM b d
 |.fX,.fX=>true
 |.bR,.bR=>true
 |.iface t a,.iface u b=>t==u&&AV.beq a b
 |.ly k m r i j l lo hi,.ly k' m' r' i' j' l' lo' hi'=>decide (k=k')&&m==m'&&r==r'&&i==i'&&j==j'&&l==l'&&lo==lo'&&hi==hi'
 |.sint k m i c lo hi,.sint k' m' i' c' lo' hi'=>decide (k=k')&&m==m'&&i==i'&&c==c'&&lo==lo'&&hi==hi'
 |.jZ k rs,.jZ k' rs'=>decide (k=k')&&decide (rs=rs')
 |_,_=>false
def AV.jM:List AV->List AV->Bool
 |[],[]=>true
 |a::as,b::bs=>AV.beq a b&&AV.jM as bs
 |_,_=>false
def AV.qM:List (List AV)->List (List AV)->Bool
 |[],[]=>true
 |a::as,b::bs=>AV.jM a b&&AV.qM as bs
 |_,_=>false
end
def pC:List (AV×AV)->List (AV×AV)->Bool
 |[],[]=>true
 |(a,b)::r,(c,d)::s=>AV.beq a c&&AV.beq b d&&pC r s
 |_,_=>false
def pP:Option bg->Option bg->Bool
 |none,none=>true
 |some (.cells a),some (.cells b)=>AV.jM a b
 |some (.map a),some (.map b)=>pC a b
 |some (.pG s p),some (.pG t q)=>s.data.toList==t.data.toList&&p==q
 |some (.dN g a),some (.dN k b)=>g==k&&AV.jM a b
 |some (.typ g a),some (.typ k b)=>g==k&&AV.jM a b
 |_,_=>false
def pI(t:Nat):List Nat->Bool
 |[]=>false
 |x::r=>Nat.beq t x||pI t r
def x9(d:Option Nat)(l:List Nat):Bool:=
 match d with
 |some t=> !pI t l
 |none=>true
def mQ(x y:aq):Bool:=
 x9 x.dst y.gL&&x9 y.dst x.gL&&(match x.dst,y.dst with|some a,some b=> !Nat.beq a b|_,_=>true)
def bT:Rec->Rec->Bool
 |.eff _ _,.eff _ _=>false
 |.alloc _ _,.eff _ _=>false
 |.alloc r _,.read x=> !Nat.beq r x
 |.read x,.alloc r _=> !Nat.beq r x
 |.read x,.eff V C=>pP (V.H.get x) (C.H.get x)
 |.eff V C,.read x=>pP (V.H.get x) (C.H.get x)
 |_,_=>true
inductive jU where
 |skip
 |reg (ops:List aq)
 |draw (ops:List (aq×Nat))
 |seq (a b:jU)
 |cond (c:Opd) (t e:jU)
 |block (id:Nat) (b:jU)
 |loop (b:jU)
 |exit (id:Nat)
 |ret
 |stuck
 |rng (g:Opd) (ps:List Nat) (a b:jU)
 deriving Inhabited
inductive AX where
 |nrm
 |exit (id:Nat)
 |ret
 deriving DecidableEq
def FA:List (aq×Nat)->Nat->List Nat->Bool
 |[],_,_=>false
 |(o,bits)::r,i,als=>(aE o.op&&als.any (λk=> !Nat.testBit bits k))||FA r (i+1) (cond (aA o.op) (i::als) als)
def C3(n:Nat):List (aq×Nat)->Nat->List Nat->List Nat
 |[],_,out=>out++(List.range n).filter (λk=> !pI k out)
 |(o,bits)::r,i,out=>cond (aE o.op) (let o1:=out++(List.range n).filter (λk=>Nat.testBit bits k && !pI k out)
   C3 n r (i+1) (cond (pI i o1) o1 (o1++[i]))) (C3 n r (i+1) out)
def sE(p:List Nat)(b:Nat):List Nat->Nat->Nat
 |[],s=>s
 |j::js,s=>sE p b js (cond (Nat.testBit b (p.getD j 0)) (s ||| 2^j) s)
def D8(l:List (aq×Nat))(p:List Nat):Bool:=
 (List.range l.length).all λi=>Nat.blt (p.getD i 0) l.length&&(List.range l.length).any (λj=>Nat.beq (p.getD j 0) i) &&
  (List.range l.length).all λj=>(Nat.beq i j || !Nat.beq (p.getD i 0) (p.getD j 0))&&(!Nat.testBit ((l.getD (p.getD i 0) default).2) (p.getD j 0)||Nat.blt j i)
def sY(l:List (aq×Nat))(p:List Nat):List (aq×Nat):=
 (List.range l.length).map λi=>((l.getD (p.getD i 0) default).1,sE p (l.getD (p.getD i 0) default).2 (List.range l.length) 0)
def tH:aq->Bool
 |⟨_,.st _ _ _,none⟩=>true
 |_=>false
def ta:List (aq×Nat)->Nat->Nat->Nat
 |[],_,m=>m
 |(o,_)::r,i,m=>cond (Nat.beq r.length 0) m (ta r (i+1) (cond (aE o.op) i m))
def ah0(l:List (aq×Nat)):Bool:=
 cond (Nat.blt (ta l 0 l.length+2) l.length) (cond (tH (l.getD (ta l 0 l.length) default).1) (tH (l.getD (l.length-1) default).1 && !Nat.testBit (l.getD (l.length-1) default).2 (ta l 0 l.length)) false) false
def ado(l:List (aq×Nat)):List Nat:=
 (List.range l.length).filter (λk=> !Nat.beq k (ta l 0 l.length) && !Nat.beq k (l.length-1))++[ta l 0 l.length,l.length-1]
def XR(l:List (aq×Nat)):Bool:=cond (FA l 0 []) true (ah0 l)
def y7(l:List (aq×Nat)):List Nat:=cond (FA l 0 []) (C3 l.length l 0 []) (ado l)
def zh(l:List (aq×Nat)):List (aq×Nat):=
 cond (XR l) (cond (D8 l (y7 l)) (sY l (y7 l)) l) l
def Aj(i:Nat):List Oper->Bool
 |[]=>true
 |o::r=>o.after.all (λe=> !Region.binds .any e||Nat.blt e.on i)&&Aj (i+1) r
def CV(b:Array Oper):Bool:=Aj 0 b.toList
def eh(P:Program)(nt:Nat):Code->Option jU
 |.skip=>some .skip
 |.label _=>some .skip
 |.region _ ops draw=>
  match oh P nt ops ops.toList with
  |some l=>if draw then(if P.follows .mixedOrders&&CV ops then some (.draw (zh (l.zip (Region.before ops).toList)))else none)else some (.reg l)
  |none=>none
 |.seq a b=>match eh P nt a,eh P nt b with
  |some x,some y=>some (.seq x y)
  |_,_=>none
 |.cond c a b=>match bj c,eh P nt a,eh P nt b with
  |some c',some x,some y=>some (.cond c' x y)
  |_,_,_=>none
 |.block id a=>match eh P nt a with
  |some x=>some (.block id x)
  |none=>none
 |.loop a=>match eh P nt a with
  |some x=>some (.loop x)
  |none=>none
 |.exit id=>some (.exit id)
 |.ret=>some .ret
 |.rangeFunc g ps a b=>match bj g,eh P nt a,eh P nt b with
  |some g',some x,some y=>if ps.toList.all (λp=>Nat.blt p nt)then some (.rng g' ps.toList x y)else none
  |_,_,_=>none
 |_=>some .stuck
inductive tK where
 |tmp (t:Nat)
 |cell (t:Nat) (n:Option Nat)
structure AFn where
 nt:Nat
 res:List tK
 body:jU
def qT(P:Program):List ResultVar->Option (List tK)
 |[]=>some []
 |.tmp t::r=>match qT P r with
  |some l=>some (.tmp t::l)
  |none=>none
 |.cell t ty::r=>match gx P ty,qT P r with
  |some n,some l=>some (.cell t n::l)
  |_,_=>none
def cFn(P:Program)(d:Func):Option AFn:=
 match d.body with
 |some c=>match eh P d.ntmps c,qT P d.results.toList with
  |some b,some r=>some ⟨d.ntmps,r,b⟩
  |_,_=>none
 |none=>none
def oH(T:Tm)(h:AH):List tK->Option (List AV)
 |[]=>some []
 |.tmp t::r=>match oH T h r with
  |some l=>some ((T.get t).getD .undef::l)
  |none=>none
 |.cell t n::r=>
  match(match n with
   |none=>lh h ((T.get t).getD .undef)
   |some n=>(iP h n ((T.get t).getD .undef)).map .agg),oH T h r with
  |some v,some l=>some (v::l)
  |_,_=>none
def qW:List AV->AV
 |[v]=>v
 |vs=>.tup vs
def th:List AV->Nat->Tm->Tm
 |[],_,T=>T
 |v::r,i,T=>th r (i+1) (T.put i v)
