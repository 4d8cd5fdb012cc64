/- The interpreter in continuation style, over code with live registers noted at joins and loops: definitions. -/
import Derived.Test.YtndpneieplopaaaGreatDoorEngS
import Derived.RangeFuncNested
import Derived.RangeFuncCalls
import Derived.TacticsIn
import Derived.OrdersIn
import Derived.LoopNIn
set_option linter.unusedSimpArgs false
set_option linter.unusedVariables false
noncomputable section
namespace Go.Eng
def aa(cZ:List AV)(i:Nat):AV:=(cZ[i]?).getD .undef
def zq(cZ:List AV):List Nat->Nat->Tm->Tm
 |[],_,T=>T
 |r::rs,i,T=>zq cZ rs (i+1) (T.put r (aa cZ i))
def mkT(live:List Nat)(cZ:List AV):Tm:=zq cZ live 0 .leaf
def rg(T:Tm)(t:Nat):AV:=(T.get t).getD .undef
def re(live:List Nat)(T:Tm):List AV:=live.map (rg T)
structure It where
 f:Nat
 back:Bool
 en:Option Nat
inductive dL where
 |skip
 |draw (ops:List (aq×Nat))
 |seq (a b:dL)
 |cond (c:Opd) (t e:dL)
 |block (id:Nat) (b:dL)
 |loop (li lo:List Nat) (b:dL)
 |join (lo:List Nat) (a:dL)
 |zj (lo:List Nat) (a:dL)
 |zG (ops:List (aq×Option Nat))
 |zi (ops:List ((aq×Nat)×Option Nat))
 |exit (id:Nat)
 |ret
 |stuck
 |rng (its:List It) (g:Opd) (ps:List Nat) (a b:dL)
 deriving Inhabited
def dL.erase:dL->jU
 |.skip=>.skip
 |.draw ops=>.draw ops
 |.seq a b=>.seq a.erase b.erase
 |.cond c t e=>.cond c t.erase e.erase
 |.block id b=>.block id b.erase
 |.loop _ _ b=>.loop b.erase
 |.join _ a=>a.erase
 |.zj _ a=>a.erase
 |.zG ops=>.reg (ops.map (·.1))
 |.zi ops=>.draw (ops.map (·.1))
 |.exit id=>.exit id
 |.ret=>.ret
 |.stuck=>.stuck
 |.rng _ g ps a b=>.rng g ps a.erase b.erase
section
variable {R:Type}
def sjn{α:Type}(r:Option (AX×α×AH))(k:AX->α->AH->Option R):Option R:=
 match r with
 |some (x,v,h)=>k x v h
 |none=>none
end
def pG(f:List AV->AH->Option (AX×(List AV×List AV)×AH)):Nat->List AV->AH->Option (AX×List AV×AH)
 |0,_,_=>none
 |n+1,cZ,h=>sjn (f cZ h) λx vs h'=>
  match x with
  |.nrm=>pG f n vs.1 h'
  |.exit j=>some (.exit j,vs.2,h')
  |.ret=>some (.ret,vs.2,h')
theorem Nj(cZ:List AV):∀(live:List Nat) (i:Nat) (T:Tm) (t:Nat) (u:AV),(zq cZ live i T).get t=some u->(∃j,live[j]?=some t/\u=aa cZ (i+j))\/T.get t=some u
 |[],i,T,t,u,h=>.inr h
 |r::rs,i,T,t,u,h=>by
  simp only[zq]at h;rcases Nj cZ rs (i+1) _ t u h with⟨j,b,h2⟩|b
  ·exact .inl ⟨j+1,by simpa using b,by rw[h2];congr 1;omega⟩
  rw[Tm.lT]at b;split at b
  ·rename_i c;subst c;cases b;exact .inl ⟨0,by simp,rfl⟩
  exact .inr b
section
variable {P:Program} {nt:Nat} {ds:List Deferred} {own:Nat->Prop}
theorem Sim.aY{β:Bl}{T:Tm}{h:AH}{a:Act}{w:World}(b:Sim nt ds own β T h a w)(live:List Nat):Sim nt ds own β (mkT live (re live T)) h a w:=by
 refine⟨b.hp,b.sz,λt u hu=>?_,b.df⟩;rcases Nj _ live 0 .leaf t u hu with⟨j,c,h2⟩|c
 ·have:u=rg T t:=by
   rw[h2];simp[aa,re,c]
  subst this;unfold rg;cases d:T.get t with
  |none=>exact .undef _
  |some v=>exact b.tm t v d
 simp[Tm.K5]at c
theorem L!{c:Code}{x y:jU}(d:eh P nt c=some (.seq x y)):∃a b,c =.seq a b/\eh P nt a=some x/\eh P nt b=some y:=by
 cases c<;>simp only[eh]at d<;>(try(cases d;done));case seq a b=>
  split at d
  ·rename_i e h2;cases d;exact⟨a,b,rfl,e,h2⟩
  cases d
 all_goals (repeat' (split at d))<;>cases d
theorem G!{c:Code}{o:Opd}{x y:jU}(d:eh P nt c=some (.cond o x y)):∃co a b,c =.cond co a b/\bj co=some o/\eh P nt a=some x/\eh P nt b=some y:=by
 cases c<;>simp only[eh]at d<;>(try(cases d;done));case cond co a b=>
  split at d
  ·rename_i e f h2;cases d;exact⟨co,a,b,rfl,e,f,h2⟩
  cases d
 all_goals (repeat' (split at d))<;>cases d
theorem s?{c:Code}{d:Nat}{x:jU}(b:eh P nt c=some (.block d x)):∃a,c =.block d a/\eh P nt a=some x:=by
 cases c<;>simp only[eh]at b<;>(try(cases b;done));case block d a=>
  split at b
  ·rename_i e;cases b;exact⟨a,rfl,e⟩
  cases b
 all_goals (repeat' (split at b))<;>cases b
theorem u?{c:Code}{x:jU}(b:eh P nt c=some (.loop x)):∃a,c =.loop a/\eh P nt a=some x:=by
 cases c<;>simp only[eh]at b<;>(try(cases b;done));case loop a=>
  split at b
  ·rename_i d;cases b;exact⟨a,rfl,d⟩
  cases b
 all_goals (repeat' (split at b))<;>cases b
end
structure SFn where
 nt:Nat
 res:List tK
 body:dL
def SFn.erase(f:SFn):AFn:=⟨f.nt,f.res,f.body.erase⟩
section
variable {P:Program}
end
open Go.RowKit
def idle:Obj->Bool
 |.loop _=>true
 |.deferred _=>true
 |_=>false
structure jH(n0:Nat)(w w':World):Prop where
 size:w.heap.size<=w'.heap.size
 same:∀(b:Nat) (x:Obj),w.heap[b]?=some x->idle x=false->w'.heap[b]?=some x
 low:∀(b:Nat),b<n0->w'.heap[b]?=w.heap[b]?
 os:w'.os=w.os
 tape:w'.tape=w.tape
 output:w'.output=w.output
theorem jH.refl(b:Nat)(w:World):jH b w w:=⟨ay _,λ_ _ h _=>h,λ_ _=>rfl,rfl,rfl,rfl⟩
theorem jH.trans{c:Nat}{d e f:World}(h:jH c d e)(k:jH c e f):jH c d f:=
 ⟨bf h.size k.size,λb x i hi=>k.same b x (h.same b x i hi) hi,λb g=>(k.low b g).trans (h.low b g),k.os.trans h.os,k.tape.trans h.tape,k.output.trans h.output⟩
theorem jH.putObj{f l:Nat}{w:World}{o:Obj}(g:Obj)(h:w.heap[l]?=some o)(i:idle o=true)(j:f<=l):jH f w (w.putObj l g):=by
 refine⟨by simp,λb x d c=>?_,λb k=>World.putObj_heap_other (by omega),rfl,rfl,rfl⟩;have:b≠l:=λe=>by subst e;rw[h]at d;cases d;rw[i]at c;cases c
 rw[World.putObj_heap_other this];exact d
theorem VR.quiet{J:Nat}{w w':World}(u:jH J w w'){L:Nat->Prop}{β:Bl}{a:AV}{v:Value}(h:VR w.heap L β a v):VR w'.heap L β a v:=by
 induction h with
 |undef v=>exact .undef v
 |bool b=>exact .bool b
 |int k n=>exact .int k n
 |str s=>exact .str s
 |agg cs x hlen h d=>exact .agg cs x hlen d
 |tup cs x hlen h d=>exact .tup cs x hlen d
 |ptr id off b base h=>exact .ptr id off b base h
 |dh=>exact .dh
 |ai cs b o cur e f p y hs h d=>exact .ai cs b o cur e f (u.same _ _ p rfl) y hs d
 |c_ g off=>exact .c_ g off
 |D=>exact .D
 |esl a=>exact .esl a
 |eu a cap=>exact .eu a cap
 |psl xs z b o cap cur e f p y hs K A h d=>exact .psl xs z b o cap cur e f (u.same _ _ p rfl) y hs K A d
 |rsl id off len z b base cap cur e f h p A hm hs=>exact .rsl id off len z b base cap cur e f h (u.same _ _ p rfl) A hm hs
 |gi id off z b base o h=>exact .gi id off z b base o h
 |fh id b base h=>exact .fh id b base h
 |fp=>exact .fp
 |func fn f1 c1 f2 c2 B C q h2 G H=>exact .func fn f1 c1 f2 c2 B C G H
 |fX=>exact .fX
 |bR=>exact .bR
 |iface t a v h d=>exact .iface t a v d
 |sint k m i c lo hi b base h q h2=>exact .sint k m i c lo hi b base h q h2
 |ly k m r i j l lo hi b1 n1 b2 M N q h2 Q q1 q2 q3 S=>exact .ly k m r i j l lo hi b1 n1 b2 M N q h2 Q q1 q2 q3 S
 |jZ k rs n h=>exact .jZ k rs n h
theorem aB.quiet{n:Nat}{w w':World}(d:jH n w w'){own:Nat->Prop}{β:Bl}{H:Hp}{m:Nat}(j:aB own β H m w):aB own β H m w':=by
 refine⟨j.fresh,λid b base h=>gq (j.lt id b base h) d.size,λb h=>gq (j.iU b h) d.size,λid o h=>?_,j.inj⟩;obtain⟨b,base,p,h2,f⟩:=j.obj id o h;refine⟨b,base,p,h2,?_⟩;cases o with
 |cells cs=>
  obtain⟨cur,e,q1,q2,q3⟩:=f;exact⟨cur,e,d.same _ _ q1 rfl,q2,λi c v k1 k2=>(q3 i c v k1 k2).quiet d⟩
 |map r=>
  obtain⟨q0,es,q1,q2,q3⟩:=f;exact⟨q0,es,d.same _ _ q1 rfl,q2,λi k e k1 k2=>⟨(q3 i k e k1 k2).1.quiet d,(q3 i k e k1 k2).2.1.quiet d,(q3 i k e k1 k2).2.2⟩⟩
 |pG s pos=>exact⟨f.1,d.same _ _ f.2 rfl⟩
 |typ t cs=>
  obtain⟨q0,cur,q1,q2,q3⟩:=f;exact⟨q0,cur,d.same _ _ q1 rfl,q2,λi c v k1 k2=>(q3 i c v k1 k2).quiet d⟩
 |dN g cs=>
  obtain⟨q0,l,cur,e,q,q1,q2,q3⟩:=f;exact⟨q0,l,cur,e,q,d.same _ _ q1 rfl,q2,λi c v k1 k2=>(q3 i c v k1 k2).quiet d⟩
theorem aX.quiet{own:Nat->Prop}{β β':Bl}{h j:AH}{w k l:World}(c:aX own β h w β' j k)(d:jH w.heap.size k l):aX own β h w β' j l:=by
 refine⟨c.ext,c.low,c.up,bf c.size d.size,λb g m=>(d.low b g).trans (c.aY b g m),c.live,λb cur e n g=>?_,d.os.trans c.os,d.tape.trans c.tape,d.output.trans c.output⟩;obtain⟨f,i,o,h2,p⟩:=c.shape b cur e n g;exact⟨f,i,d.same _ _ o rfl,h2,p⟩
theorem aB.aag{own:Nat->Prop}{β:Bl}{H:Hp}{k:Nat}{w:World}(l:aB own β H k w){b:Nat}{o:Obj}(c:w.heap[b]?=some o)(d:idle o=true):¬Eng.live β H b:=by
 rintro⟨id,ob,base,m,h2⟩;obtain⟨p,i,j,_,f⟩:=l.obj id ob m;rw[h2]at j;cases j;cases ob with
 |cells cs=>obtain⟨cur,e,q1,_⟩:=f;rw[c]at q1;cases q1;cases d
 |map n=>obtain⟨_,es,q1,_⟩:=f;rw[c]at q1;cases q1;cases d
 |pG s pos=>have q1:=f.2;rw[c]at q1;cases q1;cases d
 |typ t cs=>obtain⟨_,cur,q1,_⟩:=f;rw[c]at q1;cases q1;cases d
 |dN g cs=>obtain⟨_,_,cur,e,q,q1,_⟩:=f;rw[c]at q1;cases q1;cases d
theorem aX.idle{own:Nat->Prop}{β β':Bl}{h d:AH}{w w':World}(e:aX own β h w β' d w')(f:aB own β h.H h.nx w){b:Nat}{o:Obj}(c:w.heap[b]?=some o)(g:idle o=true):w'.heap[b]?=some o:=
 (e.aY b (gR c) (f.aag c g)).trans c
def mk(r:Nat):Deferred:={ target:=.collected r,args:= #[] }
def qP(c:Nat)(w:World)(ds b:List Deferred):Prop:=
 ∃ms:List Nat,b=ms.map mk++ds/\ms.Nodup/\∀r∈ms,c<=r/\w.heap[r]?=some (.deferred (some []))
theorem qP.refl(b:Nat)(w:World)(ds:List Deferred):qP b w ds ds:=⟨[],rfl,List.nodup_nil,λr c=>by simp at c⟩
theorem qP.trans{g:Nat}{c i:World}{ds d f:List Deferred}{own:Nat->Prop}{β1 β2:Bl}{j h2:AH}(k:qP g c ds d)(l:g<=c.heap.size)(m:aB own β1 j.H j.nx c)(n:aX own β1 j c β2 h2 i)
  (o:qP c.heap.size i d f):qP g i ds f:=by
 obtain⟨p,rfl,d1,q1⟩:=k;obtain⟨q,rfl,d2,q2⟩:=o;refine⟨q++p,by simp,List.nodup_append.2 ⟨d2,d1,?_⟩,λr s=>?_⟩
 ·intro a t b u e;subst e;have v:=(q2 a t).1;have x:=gR (q1 a u).2;omega
 rcases nC.1 s with h|h
 ·exact⟨bf l (q2 r h).1,(q2 r h).2⟩
 exact⟨(q1 r h).1,n.idle m (q1 r h).2 rfl⟩
def yr(W:World)(b o:Nat):Option Nat->Value->Prop
 |none,v=>W.cell? ⟨b,o,none⟩=some v
 |some n,v=>∃cs:Array Value,v =.agg cs/\cs.size=n/\(∀(j:Nat) (c:Value),cs[j]?=some c->W.cell? ⟨b,o+j,none⟩=some c)/\∀(j:Nat) (c:Value),cs[j]?=some c->c.oneCell'=true
abbrev LA:=List AV
abbrev QT:=AV->AH->Prop
abbrev I(n:Int):AV:=.int .i64 n
abbrev NT:=List AV->AH->Prop
abbrev KT:=AX->List AV->List AV->AH->Prop
abbrev JT:=AX->List AV->AH->Prop
abbrev RT:=AX->AH->Prop
def Fex(P:Program)(f:Nat):Prop:=∃fn,P.funcs[f]?=some fn/\fn.body.isSome=true/\fn.name ≠ "runtime.NumGoroutine"
def ah(P:Program)(f:Nat)(b:List AV)(h:AH)(Q:AV->AH->Prop):Prop:=
 Fex P f/\∀(own:Nat->Prop) (β:Bl) (w:World) (cargs:Array Value),aB own β h.H h.nx w->RL w.heap (LL own β h.H) β b cargs.toList->
  Calls P f cargs w λe w'=>∃cv v h' β',e =.returned cv/\Q v h'/\aB own β' h'.H h'.nx w'/\VR w'.heap (LL own β' h'.H) β' v cv/\aX own β h w β' h' w'
def ab(P:Program)(f:Nat)(b:List AV)(h:AH)(v:AV)(c:AH):Prop:=ah P f b h λv1 h1=>v1=v/\h1=c
theorem ah.mono{P:Program}{f:Nat}{b:List AV}{h:AH}{Q R:AV->AH->Prop}(g:ah P f b h Q)(i:∀v d,Q v d->R v d):ah P f b h R:=
 ⟨g.1,λown β w c hs j=>(g.2 own β w c hs j).mono λe w' ⟨k,v,d,β',l,h2,m⟩=>⟨k,v,d,β',l,i _ _ h2,m⟩⟩
theorem ab.calls{P:Program}{f:Nat}{b:List AV}{h c:AH}{v:AV}{Q:AV->AH->Prop}(d:ab P f b h v c)(e:Q v c):ah P f b h Q:=
 d.mono λv1 g he=>by obtain⟨rfl,rfl⟩:=he;exact e
open Classical in
noncomputable def vr(f:Nat)(b:List AV)(h:AH)(v:AV)(c:AH):iM:=λf1 args1 h1=>if f1=f/\args1=b/\h1=h then some (v,c)else none
theorem aai(f:Nat)(b:List AV)(h:AH)(v:AV)(c:AH):vr f b h v c f b h=some (v,c):=by simp[vr]
theorem adE{P:Program}{f:Nat}{b:List AV}{h g:AH}{v:AV}(i:ab P f b h v g):HOk P (vr f b h v g):=by
 intro f1 d j v1 q he;unfold vr at he;split at he
 ·rename_i k;obtain⟨rfl,rfl,rfl⟩:=k;cases he;refine⟨i.1,λown β w c hs l=>(i.2 own β w c hs l).mono ?_⟩;rintro e w' ⟨m,v2,h2,β',j,⟨rfl,rfl⟩,n,o,p⟩;exact⟨m,β',j,n,o,p⟩
 cases he
def noH:iM:=λ_ _ _=>none
theorem se{P:Program}:HOk P noH:=λf args h v b he=>by simp[noH]at he
def wk(r:Option (AV×AH))(k:AV->AH->Prop):Prop:=
 match r with
 |some (v,h')=>k v h'
 |none=>False
abbrev CL:=Nat->List AV->AH->(AV->AH->Prop)->Prop
def mm(P:Program)(b:CL):Prop:=∀f args h Q,b f args h Q->∃v h',ab P f args h v h'/\Q v h'
def mR(c:CL)(f:AV)(b:List AV)(h:AH)(k:AV->AH->Prop):Prop:=
 match f with
 |.func (.func g) first captured=>c g (first++b++captured) h k
 |_=>False
def wop(c:CL)(b:AOp)(T:Tm)(h:AH)(k:AV->AH->Prop):Prop:=
 match b with
 |.call f args=>mR c (f.ev T) (args.map (·.ev T)) h k
 |.mov x=>k (x.ev T) h
 |b=>wk (aop noH T h b) k
def wg(g:Option Bool)(A:(AV->AH->Prop)->Prop)(h:AH)(k:AV->AH->Prop):Prop:=
 match g with
 |some b=>(b=true->A k)/\(b=false->k la h)
 |none=>False
def wsp(v:AV)(K:AV->Prop):Prop:=
 match v with
 |.bool b=>(b=true->K (.bool true))/\(b=false->K (.bool false))
 |v=>K v
def tz(o:Option Nat)(T:Tm)(K:Tm->Prop):Prop:=
 match o with
 |none=>K T
 |some r=>match T.get r with
  |some v=>wsp v λv=>K (T.put r v)
  |none=>K T
def sV(b:CL):List (aq×Option Nat)->Tm->AH->(Tm->AH->Prop)->Prop
 |[],T,h,k=>k T h
 |(⟨d,op,none⟩,sp)::r,T,h,k=>tz sp T λT=>wop b op T h λv h'=>sV b r (jX T d v) h' k
 |(⟨d,op,some g⟩,sp)::r,T,h,k=>tz sp T λT=>wg (gd T (some g)) (wop b op T h) h λv h'=>sV b r (jX T d v) h' k
def rdK(o:Option Nat):Rec:=
 match o with
 |some x=>.read x
 |none=>.pure
def wal(r:Option (bg×(Nat->AV)))(k:bg->(Nat->AV)->Prop):Prop:=
 match r with
 |some (cs,mk)=>k cs mk
 |none=>False
def vp(c:CL)(b:AOp)(r:Nat)(T:Tm)(h:AH)(k:AV->Rec->AH->Prop):Prop:=
 cond (aA b) (wal (fZ T b) λcs mk=>k (mk r) (.alloc r cs) (h.set r cs))
  (match b with
  |.call f args=>mR c (f.ev T) (args.map (·.ev T)) h λv h'=>h.nx<=h'.nx/\k v (.eff h h') h'
  |b=>cond (aE b) (wk (aop noH T h b) λv h'=>h.nx<=h'.nx/\k v (.eff h h') h') (wk (aop noH T h b) λv _=>k v (rdK (aRd T b)) h))
def wgd(g:Option Bool)(A:(AV->Rec->AH->Prop)->Prop)(h:AH)(k:AV->Rec->AH->Prop):Prop:=
 match g with
 |some b=>(b=true->A k)/\(b=false->k la .pure h)
 |none=>False
def r_(b:CL):List (aq×Option Nat)->Nat->Tm->AH->(List Rec->Tm->AH->Prop)->Prop
 |[],_,T,h,k=>k [] T h
 |(⟨d,op,none⟩,sp)::l,r,T,h,k=>tz sp T λT=>vp b op r T h λv c h'=>r_ b l (r+1) (jX T d v) h' λks=>k (c::ks)
 |(⟨d,op,some g⟩,sp)::l,r,T,h,k=>tz sp T λT=>wgd (gd T (some g)) (vp b op r T h) h λv c h'=>r_ b l (r+1) (jX T d v) h' λks=>k (c::ks)
def u5(b:CL)(l:List aq):Nat->Tm->AH->(List Rec->Tm->AH->Prop)->Prop:=r_ b (l.map λo=>(o,none))
def stK(b:AOp):Nat:=
 cond (aA b) 2 (cond (aE b) 3 (match b with |.ld1 _=>1 |.ldn _ _=>1 |.xo _ _=>1|_=>0))
def sP(a b:Nat):Bool:=
 Nat.beq a 0||Nat.beq b 0||(Nat.beq a 1&&Nat.beq b 1)||(Nat.beq a 2&&Nat.beq b 2)||(Nat.beq a 3&&Nat.beq b 2)
def uJ(o:aq)(b j:Nat):Nat->List aq->List (Nat×Nat)
 |_,[]=>[]
 |i,p::r=>cond (Nat.testBit b i||sP (stK p.op) (stK o.op)) (uJ o b j (i+1) r) ((i,j)::uJ o b j (i+1) r)
def nL:List (aq×Nat)->Nat->List aq->List (Nat×Nat)
 |[],_,_=>[]
 |(o,bits)::l,j,acc=>uJ o bits j 0 acc++nL l (j+1) (acc++[o])
def xM(o:aq)(b:Nat):Nat->List aq->Bool
 |_,[]=>true
 |i,p::r=>(Nat.testBit b i||mQ p o)&&xM o b (i+1) r
def kV:List (aq×Nat)->List aq->Bool
 |[],_=>true
 |(o,bits)::l,acc=>xM o bits 0 acc&&kV l (acc++[o])
def chk(b:List Rec):List (Nat×Nat)->Prop->Prop
 |[],p=>p
 |(i,j)::r,p=>bT (b.getD i .pure) (b.getD j .pure)=true/\chk b r p
def swp(b:List (aq×Nat)):Bool:=
 match b.drop (b.length-2)with
 |[x,y]=>cond (tH x.1) (cond (tH y.1) (!(Nat.testBit y.2 (b.length-2))&&b.all λz=>Nat.blt z.2 (2^(b.length-2))) false) false
 |_=>false
def pO(b:List (aq×Nat)):List (aq×Nat):=
 match b.drop (b.length-2)with
 |[x,y]=>b.take (b.length-2)++[x,(y.1,y.2 ||| 2^(b.length-2))]
 |_=>b
def zz(b:List (aq×Nat)):List (aq×Nat):=b.take (b.length-2)++(b.drop (b.length-2)).reverse
def U5(c:CL)(b:List (aq×Nat))(T:Tm)(h:AH)(k:Tm->AH->Prop):Prop:=
 cond (kV (pO b) []&&kV (pO (zz b)) []) (u5 c ((b.take (b.length-2)).map (·.1)) h.nx T ⟨h.H,h.nx+b.length⟩ λks T h'=>
  (u5 c ((b.drop (b.length-2)).map (·.1)) (h.nx+(b.length-2)) T h' λks2 T' h'=>chk (ks++ks2) (nL (pO b) 0 []) (k T' h'))/\
  (u5 c ((b.drop (b.length-2)).reverse.map (·.1)) (h.nx+(b.length-2)) T h' λks2 T' h'=>chk (ks++ks2) (nL (pO (zz b)) 0 []) (k T' h'))) False
def Uz(c:CL)(b:List (aq×Nat))(T:Tm)(h:AH)(k:Tm->AH->Prop):Prop:=
 cond (kV b []) (u5 c (b.map (·.1)) h.nx T ⟨h.H,h.nx+b.length⟩ λks T' h'=>chk ks (nL b 0 []) (k T' h')) False
def IU(c:CL)(b:List (aq×Nat))(T:Tm)(h:AH)(k:Tm->AH->Prop):Prop:=
 cond (swp b) (U5 c b T h k) (Uz c b T h k)
def Gh(c:CL)(b:List ((aq×Nat)×Option Nat))(T:Tm)(h:AH)(k:Tm->AH->Prop):Prop:=
 cond (kV (b.map (·.1)) []) (r_ c (b.map λx=>(x.1.1,x.2)) h.nx T ⟨h.H,h.nx+b.length⟩ λks T' h'=>chk ks (nL (b.map (·.1)) 0 []) (k T' h')) False
def wif(c:AV)(x y:Prop):Prop:=
 match c with
 |.bool b=>(b=true->x)/\(b=false->y)
 |_=>False
def zg(A:(AX->List AV->AH->Prop)->Prop)(k:AX->List AV->AH->Prop):Prop:=
 ∃M:AX->List AV->AH->Prop,A M/\∀x vs h,M x vs h->k x vs h
def qz(A:(List AV->AH->Prop)->Prop)(k:List AV->AH->Prop):Prop:=
 ∃M:List AV->AH->Prop,A M/\∀vs h,M vs h->k vs h
def lk(m:Nat)(I:Nat->List AV->AH->Prop)(k:AX->List AV->AH->Prop):AX->List AV->List AV->AH->Prop
 |.nrm,vi,_,h=>∃m',m'<m/\I m' vi h
 |.exit j,_,vo,h=>k (.exit j) vo h
 |.ret,_,vo,h=>k .ret vo h
def uW(B:List AV->AH->(AX->List AV->List AV->AH->Prop)->Prop)(cZ:List AV)(h:AH)(k:AX->List AV->AH->Prop):Prop:=
 ∃(I:Nat->List AV->AH->Prop) (m:Nat),I m cZ h/\∀m vs h,I m vs h->B vs h (lk m I k)
abbrev xs(x:AX)(b:Prop)(c:Nat->Prop)(kr:Prop):Prop:=
 match x with
 |.nrm=>b
 |.exit j=>c j
 |.ret=>kr
def pD(z:Nat):Nat->List AV->List (List AV)
 |0,_=>[]
 |n+1,l=>l.take z::pD z n (l.drop z)
theorem Lx(z:Nat):∀(n:Nat) (l:List AV),(pD z n l).length=n
 |0,_=>rfl
 |n+1,l=>by simp[pD,Lx z n]
theorem LV(z:Nat):∀(n:Nat) (l:List AV) (k:Nat),k<n->(pD z n l)[k]?=some ((l.drop (k*z)).take z)
 |0,_,k,h=>by omega
 |n+1,l,0,h=>by simp[pD]
 |n+1,l,k+1,h=>by
  simp only[pD,Jt];rw[LV z n (l.drop z) k (by omega),lB,oO,Nat.add_comm]
def xF(h:AH)(z:Nat)(v:AV):Option (List (List AV)):=
 match v with
 |.D=>some []
 |.esl=>some []
 |.psl xs=>if xs.all (λx=>Nat.beq x.length z&&aM x)&&Nat.ble xs.length 9223372036854775807 then some xs else none
 |.rsl id off len z'=>if z'=z then match h.E id with
  |some cs=>match cut cs off (len*z)with
   |some l=>if aM l then some (pD z len l)else none
   |none=>none
  |none=>none
  else none
 |_=>none
def elV(b:Option Nat)(x:List AV):AV:=
 match b with
 |none=>x.headD .undef
 |some _=>.agg x
def gg(d:CL):dL->Tm->AH->(AX->Tm->AH->Prop)->Prop
 |.skip,T,h,k=>k .nrm T h
 |.draw ops,T,h,k=>IU d ops T h λT h=>k .nrm T h
 |.zG ops,T,h,k=>sV d ops T h λT h=>k .nrm T h
 |.zi ops,T,h,k=>Gh d ops T h λT h=>k .nrm T h
 |.seq a b,T,h,k=>gg d a T h λx T h=>xs x (gg d b T h k) (λj=>k (.exit j) T h) (k .ret T h)
 |.cond c t e,T,h,k=>wif (c.ev T) (gg d t T h k) (gg d e T h k)
 |.block id b,T,h,k=>gg d b T h λx T h=>xs x (k .nrm T h) (λj=>cond (Nat.beq j id) (k .nrm T h) (k (.exit j) T h)) (k .ret T h)
 |.loop li lo b,T,h,k=>uW (λcZ h k'=>gg d b (mkT li cZ) h λx T h=>k' x (re li T) (re lo T) h) (re li T) h λx cZ h=>k x (mkT lo cZ) h
 |.join lo a,T,h,k=>zg (λk'=>gg d a T h λx T h=>k' x (re lo T) h) λx cZ h=>k x (mkT lo cZ) h
 |.zj lo a,T,h,k=>qz (λk'=>gg d a T h λx T h=>xs x (k' (re lo T) h) (λ_=>False) False) λcZ h=>k .nrm (mkT lo cZ) h
 |.exit id,T,h,k=>k (.exit id) T h
 |.ret,T,h,k=>k .ret T h
 |.stuck,_,_,_=>False
 |.rng _ _ _ _ _,_,_,_=>False
def ou(r:Option (List AV))(h:AH)(Q:AV->AH->Prop):Prop:=
 match r with
 |some vs=>Q (qW vs) h
 |none=>False
def Yk(b:List tK)(Q:AV->AH->Prop)(x:AX)(T:Tm)(h:AH):Prop:=
 xs x (ou (oH T h b) h Q) (λ_=>False) (ou (oH T h b) h Q)
def vh(c:CL)(f:SFn)(b:List AV)(h:AH)(Q:AV->AH->Prop):Prop:=
 cond (Nat.ble b.length f.nt) (gg c f.body (th b 0 .leaf) h (Yk f.res Q)) False
section
variable {P:Program} {nt:Nat} {ds:List Deferred} {own:Nat->Prop} {β:Bl} {T:Tm} {h:AH} {a:Act} {w:World}
theorem adN{N:CL}(y:mm P N)(u:Sim nt ds own β T h a w){o:Oper}{f:Opd}{d:List Opd}(r:mo P o.op =.call f d){k:AV->AH->Prop}(l:mR N (f.ev T) (d.map (·.ev T)) h k)
  {K:Act->World->Prop} {Q:Exit->Act->World->Prop}
  (S:∀v m,k v m->∀t w' β',aB own β' m.H m.nx w'->VR w'.heap (LL own β' m.H) β' v t->aX own β h w β' m w'->K (a.put o.dst t) w'):o.wp P a w K Q:=by
 have n:=N0 (Lv r);obtain⟨c,U,n,z,V,has⟩:=n;have p:=bJ u V;unfold mR at l;cases A:f.ev T<;>rw[A]at l p<;>(try simp only at l)<;>try(cases l;done)
 rename_i fn first captured
 cases fn<;>(try simp only at l)<;>try(cases l;done)
 rename_i g;obtain⟨b,h0,W,B⟩:=y _ _ _ _ l;obtain⟨⟨fn,C,M,q⟩,j⟩:=W.calls B;generalize G:a.eval U=cf at p;cases p;rename_i f2 c2 J h1 L h2;have hR:RL w.heap (LL own β h.H) β (first++d.map (·.ev T)++captured) (f2++c.args.map a.eval++c2).toList:=by
  have r1:RL w.heap (LL own β h.H) β first f2.toList:=⟨by simpa using J,λi c v r x=>h1 i c v r (by simpa using x)⟩
  have r2:RL w.heap (LL own β h.H) β captured c2.toList:=⟨by simpa using L,λi c v r x=>h2 i c v r (by simpa using x)⟩;have r3:=Kw u has;have:=(r1.append r3).append r2;simpa using this
 have s:(execOp a.eval o).run P w =.ok (.enter g (f2++c.args.map a.eval++c2)) w:=by
  have hb:fn.body.isNone=false:=by cases hq:fn.body<;>simp_all
  simp only[execOp,n,resolve,z,G,Deferred.ofValue,dy,fC,ey,invoke,callFunc,run_program,C];simp[q,hb]
 unfold Oper.wp;rw[s];show Calls P g _ w _
 refine(j own β w _ u.hp hR).mono ?_;rintro e w' ⟨t,v,m,β',rfl,h3,h4,h5,h6⟩;exact S v m h3 t w' β' h4 h5 h6
theorem afw{l:CL}(i:mm P l)(d:Sim nt ds own β T h a w){o:Oper}{m:AOp}(e:mo P o.op=m){k:AV->AH->Prop}(b:wop l m T h k)
  {K:Act->World->Prop} {Q:Exit->Act->World->Prop}
  (g:∀v c,k v c->∀n w' β',aB own β' c.H c.nx w'->VR w'.heap (LL own β' c.H) β' v n->aX own β h w β' c w'->K (a.put o.dst n) w'):o.wp P a w K Q:=by
 unfold wop at b;split at b
 ·rename_i f args;exact adN i d e b g
 ·rename_i x;exact y9 se d e (by rfl) (g (x.ev T) h b)
 unfold wk at b;split at b
 ·rename_i v c j;exact y9 se d e j (g v c b)
 exact b.elim
end
section
variable {P:Program} {nt:Nat} {ds:List Deferred} {own:Nat->Prop}
theorem Tm.K6{T:Tm}{r:Nat}{v:AV}(h:T.get r=some v):T.put r v=T:=by
 funext t
 show cond (Nat.beq t r) (some v) (T t)=T t
 cases b:Nat.beq t r with
 |true=>obtain rfl:=vL b;exact h.symm
 |false=>rfl
theorem z_{o:Option Nat}{T:Tm}{K:Tm->Prop}(c:tz o T K):K T:=by
 unfold tz at c;split at c
 ·exact c
 split at c
 ·rename_i r v d;unfold wsp at c;split at c
  ·rename_i b;cases b with
   |true=>have:=c.1 rfl;simp only[Tm.K6 d]at this;exact this
   |false=>have:=c.2 rfl;simp only[Tm.K6 d]at this;exact this
  rwa [Tm.K6 d]at c
 exact c
theorem KB{y:CL}(n:mm P y){p:Array Oper}{Q:Exit->Act->World->Prop}:∀(l:List Oper) (al:List (aq×Option Nat)) (T:Tm) (h:AH) (k:Tm->AH->Prop) (a:Act) (w:World) (β:Bl),oh P nt p l=some (al.map (·.1))->sV y al T h k->Sim nt ds own β T h a w->
  (∀T' j,k T' j->∀β' G w',Sim nt ds own β' T' j G w'->aX own β h w β' j w'->Q .normal G w')->wpList P p Q l a w
 |[],al,T,h,k,a,w,β,e,m,hs,z=>by
  simp[oh]at e;subst e;exact z T h m β a w hs (.refl _ _ _ _)
 |o::l,al,T,h,k,a,w,β,e,m,hs,z=>by
  unfold oh at e;split at e;case h_2=>cases e
  rename_i K J B h2;cases al with
  |nil=>simp at e
  |cons x al=>
  obtain⟨⟨d,op,H⟩,sp⟩:=x;simp at e;obtain⟨rfl,C⟩:=e;rw[C]at h2;obtain⟨q1,q2,q3⟩:=Mf B;have run:∀T,Sim nt ds own β T h a w->wop y op T h (λv j=>sV y al (jX T d v) j k)->gd T H=some true->wpList P p Q (o::l) a w:=by
   intro T hs m A;have hw:=rH hs B A;unfold wpList;rw[hw,Z rfl];refine .inl (afw n hs q1 m λv j u L w' β' g1 g2 g3=>?_);rw[show d=o.dst from q3]at u;exact KB n l al _ j k _ w' β' h2 u (hs.put q2 g1 g2 g3) λT' q r β'' s t k1 k2=>z T' q r β'' s t k1 (g3.trans k2)
  cases H with
  |none=>
   exact run T hs (z_ m) rfl
  |some g=>
   simp only[sV]at m;have f:=z_ m;simp only[wg]at f;split at f;case h_2=>exact f.elim
   rename_i b A;cases b with
   |true=>exact run T hs (f.1 rfl) A
   |false=>
    have hw:=rH hs B A;unfold wpList;rw[hw,O (by simp)];have u:=f.2 rfl;rw[show d=o.dst from q3]at u;refine KB n l al _ h k _ w β h2 u (hs.put q2 hs.hp (?_:VR _ _ _ la Go.undef) (.refl _ _ _ _)) λT' q r β'' s t k1 k2=>z T' q r β'' s t k1 k2
    exact .tup [] #[] rfl (λi c v e=>by simp at e)
end
def nf(n:Nat)(k:Rec):Prop:=
 k =.pure\/(n=1/\∃x,k =.read x)\/(n=2/\∃r cs,k =.alloc r cs)\/(n=3/\∃V C,k =.eff V C)
theorem Qz{a b:Nat}{x y:Rec}(c:sP a b=true)(d:nf a x)(e:nf b y):bT x y=true:=by
 rcases d with rfl|⟨rfl,_,rfl⟩|⟨rfl,_,_,rfl⟩|⟨rfl,_,_,rfl⟩<;>rcases e with rfl|⟨rfl,_,rfl⟩|⟨rfl,_,_,rfl⟩|⟨rfl,_,_,rfl⟩<;>first|rfl|(simp[sP]at c)
theorem aad{P:Program}{m:CL}(p:mm P m){d:Option Nat}{e:AOp}{g:Option (Nat×Bool)}{r:Nat}{T:Tm}{h:AH}{k:AV->Rec->AH->Prop}(n:gd T g=some true)(b:vp m e r T h k):
  ∃m s,HOk P m/\oc m ⟨d,e,g⟩ r T h=some s/\k s.v s.k s.h'/\nf (stK e) s.k:=by
 unfold vp at b;cases c:aA e with
 |true=>
  rw[c]at b;simp only[nD,wal]at b;split at b
  ·rename_i cs mk j;exact⟨noH,⟨T,h,mk r,.alloc r cs⟩,se,by simp[oc,n,c,j],b,.inr (.inr (.inl ⟨by simp[stK,c],_,_,rfl⟩))⟩
  exact b.elim
 |false=>
  rw[c]at b;simp only[cond_false]at b;split at b
  ·rename_i f args;unfold mR at b;split at b
   ·rename_i t first captured q
    obtain⟨v,l,u,hle,y⟩:=p _ _ _ _ b;refine⟨_,⟨T,h,v,.eff h l⟩,adE u,?_,y,.inr (.inr (.inr ⟨rfl,_,_,rfl⟩))⟩;have:aop (vr t (first++args.map (·.ev T)++captured) h v l) T h (.call f args)=some (v,l):=by
     simp only[aop,sN,q,aai]
    simp only[gr]at this ⊢;simp[oc,n,aA,this,aE,hle]
   exact b.elim
  rename_i z;cases i:aE e with
  |true=>
   rw[i]at b;simp only[nD,wk]at b;split at b
   ·rename_i v l j;exact⟨noH,⟨T,h,v,.eff h l⟩,se,by simp[oc,n,c,j,i,b.1],b.2,.inr (.inr (.inr ⟨by simp[stK,c,i],_,_,rfl⟩))⟩
   exact b.elim
  |false=>
   rw[i]at b;simp only[cond_false,wk]at b;split at b
   ·rename_i v l j;cases o:aRd T e with
    |some x=>
     rw[o]at b;refine⟨noH,⟨T,h,v,.read x⟩,se,by simp[oc,n,c,j,i,o],b,.inr (.inl ⟨?_,_,rfl⟩)⟩;cases e<;>simp[aRd]at o<;>first|rfl|simp[stK,c,i]
    |none=>
     rw[o]at b;exact⟨noH,⟨T,h,v,.pure⟩,se,by simp[oc,n,c,j,i,o],b,.inl rfl⟩
   exact b.elim
theorem zZ{P:Program}{q:CL}(n:mm P q):∀(l:List (aq×Option Nat)) (r:Nat) (T:Tm) (h:AH) (k:List Rec->Tm->AH->Prop),r_ q l r T h k->
  ∃f T' j,j3 P (l.map (·.1)) r T h f T' j/\k (f.map (·.k)) T' j/\∀(i:Nat) (o:aq) (s:bZ),(l.map (·.1))[i]?=some o->f[i]?=some s->nf (stK o.op) s.k
 |[],r,T,h,k,hw=>⟨[],T,h,.nil _ _ _,hw,λi o s m=>by simp at m⟩
 |(⟨d,op,t⟩,sp)::l,r,T,h,k,hw=>by
  have run:gd T t=some true->vp q op r T h (λv c j=>r_ q l (r+1) (jX T d v) j λC=>k (c::C))->∃f T' j,j3 P (⟨d,op,t⟩::l.map (·.1)) r T h f T' j/\k (f.map (·.k)) T' j/\∀(i:Nat) (o:aq) (s:bZ),((⟨d,op,t⟩:aq)::l.map (·.1))[i]?=some o->f[i]?=some s->nf (stK o.op) s.k:=by
   intro u hw;obtain⟨B,s,p,hs,G,H⟩:=aad n (d:=d) u hw;obtain⟨f,T',j,x,y,z⟩:=zZ n l (r+1) _ _ _ G;refine⟨s::f,T',j,.cons B p hs x,y,λi o A m e=>?_⟩;cases i with
   |zero=>simp at m e;subst m;subst e;exact H
   |succ i=>
    simp only[Jt]at m e;exact z i o A m e
  cases t with
  |none=>exact run rfl (z_ hw)
  |some g=>
   simp only[r_]at hw;have hw:=z_ hw;simp only[wgd]at hw;split at hw;case h_2=>exact hw.elim
   rename_i b u;cases b with
   |true=>exact run u (hw.1 rfl)
   |false=>
    obtain⟨f,T',j,x,y,z⟩:=zZ n l (r+1) _ _ _ (hw.2 rfl);refine⟨⟨T,h,la,.pure⟩::f,T',j,.cons noH se (by simp[oc,u]) x,y,λi o A m e=>?_⟩;cases i with
    |zero=>simp at m e;subst m;subst e;exact .inl rfl
    |succ i=>
     simp only[da,Jt]at m e;exact z i o A m e
theorem Ah{P:Program}{d:CL}(c:mm P d)(l:List aq)(r:Nat)(T:Tm)(h:AH)(k:List Rec->Tm->AH->Prop)(f:u5 d l r T h k):
  ∃b T' e,j3 P l r T h b T' e/\k (b.map (·.k)) T' e/\∀(i:Nat) (o:aq) (s:bZ),l[i]?=some o->b[i]?=some s->nf (stK o.op) s.k:=by
 have q:=zZ c _ _ _ _ _ f;rw[show(l.map λo=>(o,(none:Option Nat))).map (·.1)=l by simp[Function.comp_def]]at q;exact q
theorem ZI{o:aq}{bits j:Nat}:∀(l:List aq) (k:Nat) (i:Nat) (p:aq),l[i]?=some p->Nat.testBit bits (k+i)=true\/sP (stK p.op) (stK o.op)=true\/(k+i,j)∈uJ o bits j k l
 |[],k,i,p,hi=>by simp at hi
 |p0::l,k,i,p,hi=>by
  cases i with
  |zero=>
   simp at hi;subst hi;cases b:Nat.testBit bits k with
   |true=>exact .inl (by simp)
   |false=>
    cases c:sP (stK p0.op) (stK o.op)with
    |true=>exact .inr (.inl rfl)
    |false=>exact .inr (.inr (by simp[uJ,b,c]))
  |succ i=>
   simp at hi;have:=ZI (o:=o) (bits:=bits) (j:=j) l (k+1) i p hi;rw[show k+1+i=k+(i+1)by omega]at this;rcases this with h|h|h
   ·exact .inl h
   ·exact .inr (.inl h)
   refine .inr (.inr ?_);simp only[uJ];cases(Nat.testBit bits k||sP (stK p0.op) (stK o.op))<;>simp[h]
theorem Jy:∀(l:List (aq×Nat)) (n:Nat) (acc:List aq),acc.length=n->∀(j:Nat) (o:aq) (bits:Nat),l[j]?=some (o,bits)->∀i p,(acc++l.map (·.1))[i]?=some p->i<n+j->
  Nat.testBit bits i=true\/sP (stK p.op) (stK o.op)=true\/(i,n+j)∈nL l n acc
 |[],n,acc,d,j,o,bits,b,i,p,hi,c=>by simp at b
 |(o0,e)::l,n,acc,d,j,o,bits,b,i,p,hi,c=>by
  cases j with
  |zero=>
   simp at b;obtain⟨rfl,rfl⟩:=b;rw[i_,Z (by omega)]at hi;have:=ZI (o:=o0) (bits:=e) (j:=n) acc 0 i p hi;rw[j4]at this;rcases this with h|h|h
   ·exact .inl h
   ·exact .inr (.inl h)
   exact .inr (.inr (by simp[nL,h]))
  |succ j=>
   simp at b;have:=Jy l (n+1) (acc++[o0]) (by simp[d]) j o bits b i p (by simpa using hi) (by omega);rw[show n+1+j=n+(j+1)by omega]at this;rcases this with h|h|h
   ·exact .inl h
   ·exact .inr (.inl h)
   exact .inr (.inr (by simp[nL,h]))
theorem Zz{o:aq}{b:Nat}:∀(l:List aq) (k:Nat),xM o b k l=true->∀(i:Nat) (p:aq),l[i]?=some p->Nat.testBit b (k+i)=true\/mQ p o=true
 |[],k,h,i,p,hi=>by simp at hi
 |p0::l,k,h,i,p,hi=>by
  simp only[xM,aI,iY]at h;cases i with
  |zero=>simp at hi;subst hi;exact h.1
  |succ i=>
   simp at hi;have:=Zz l (k+1) h.2 i p hi;rwa [show k+1+i=k+(i+1)by omega]at this
theorem JB:∀(l:List (aq×Nat)) (acc:List aq),kV l acc=true->∀(j:Nat) (o:aq) (bits:Nat),l[j]?=some (o,bits)->∀i p,(acc++l.map (·.1))[i]?=some p->i<acc.length+j->Nat.testBit bits i=true\/mQ p o=true
 |[],acc,h,j,o,bits,b,i,p,hi,c=>by simp at b
 |(o0,d)::l,acc,h,j,o,bits,b,i,p,hi,c=>by
  simp only[kV,aI]at h;cases j with
  |zero=>
   simp at b;obtain⟨rfl,rfl⟩:=b;rw[i_,Z (by omega)]at hi;have:=Zz acc 0 h.1 i p hi;rwa [j4]at this
  |succ j=>
   simp at b;exact JB l (acc++[o0]) h.2 j o bits b i p (by simpa using hi) (by simp;omega)
theorem KI{b:List Rec}:∀(l:List (Nat×Nat)) (p:Prop),chk b l p->p/\∀i j,(i,j)∈l->bT (b.getD i .pure) (b.getD j .pure)=true
 |[],p,h=>⟨h,λi j hm=>by simp at hm⟩
 |(i0,d)::l,p,h=>by
  obtain⟨c,h2⟩:=KI l p h.2;refine⟨c,λi j hm=>?_⟩;simp at hm;rcases hm with⟨rfl,rfl⟩|hm
  ·exact h.1
  exact h2 i j hm
section
variable {P:Program} {nt:Nat} {ds:List Deferred} {own:Nat->Prop} {β:Bl} {T:Tm} {h:AH} {a:Act} {w:World}
theorem ZP{b:Array Oper}{L:List (aq×Nat)}{π:Nat->Nat}(f:P.follows .mixedOrders=true)(B:DL P nt b L π){k:Tm->AH->Prop}(C:kV L []=true){m:List bZ}{T':Tm}{c:AH}(G:j3 P (L.map (·.1)) h.nx T ⟨h.H,h.nx+L.length⟩ m T' c)(J:chk (m.map (·.k)) (nL L 0 []) (k T' c))(u:∀(i:Nat) (o:aq) (s:bZ),(L.map (·.1))[i]?=some o->m[i]?=some s->nf (stK o.op) s.k)(K:Sim nt ds own β T h a w)
  {Q:Exit->Act->World->Prop} (M:∀T' c,k T' c->∀β' v w',Sim nt ds own β' T' c v w'->aX own β h w β' c w'->Q .normal v w'):wpAny P .any b Q b.size (Array.replicate b.size false) a { w with drawn:=w.drawn+1 }:=by
 obtain⟨N,g⟩:=KI _ _ J;refine aar f B G (λi j p o q s bits S n x h2 y z=>?_) K (M T' c N);have A:L[j]?=some (o,bits):=y;have e:(([]:List aq)++L.map (·.1))[i]?=some p:=by
  rw[cD,cA,x];rfl
 have r:(L.map (·.1))[j]?=some o:=by rw[cA,y];rfl
 have t:(L.map (·.1))[i]?=some p:=by rw[cA,x];rfl
 rcases JB _ _ C j o bits A i p e (by simpa using n)with l|l
 ·exact .inl l
 rcases Jy _ 0 [] rfl j o bits A i p e (by omega)with d|d|d
 ·exact .inl d
 ·exact .inr ⟨l,Qz d (u i p q t h2) (u j o s r z)⟩
 refine .inr ⟨l,?_⟩;have:=g i (0+j) d;rw[j4]at this;simpa[h2,z]using this
theorem JM{P:Program}:∀(b c:List aq) (r:Nat) (T:Tm) (h:AH) (s1:List bZ) (T1:Tm) (d:AH) (s2:List bZ) (T2:Tm) (h2:AH),j3 P b r T h s1 T1 d->j3 P c (r+b.length) T1 d s2 T2 h2->j3 P (b++c) r T h (s1++s2) T2 h2
 |[],c,r,T,h,s1,T1,d,s2,T2,h2,d1,d2=>by cases d1;exact d2
 |o::b,c,r,T,h,s1,T1,d,s2,T2,h2,d1,d2=>by
  cases d1 with
  |cons cl e hs f=>
   refine .cons cl e hs (JM b c _ _ _ _ _ _ _ _ _ f ?_);rw[show r+1+b.length=r+(b.length+1)by omega];exact d2
theorem Av{P:Program}:∀(l:List aq) (r:Nat) (T:Tm) (h:AH) (b:List bZ) (T1:Tm) (c:AH),j3 P l r T h b T1 c->b.length=l.length
 |[],_,_,_,_,_,_,d=>by cases d;rfl
 |o::l,_,_,_,_,_,_,d=>by
  cases d with
  |cons cl f hs e=>simp[Av l _ _ _ _ _ _ e]
theorem M9{L:List (aq×Nat)}{e:List bZ}{p:Prop}(x:kV L []=true)(y:chk (e.map (·.k)) (nL L 0 []) p)(r:∀(i:Nat) (o:aq) (s:bZ),(L.map (·.1))[i]?=some o->e[i]?=some s->nf (stK o.op) s.k):
  p/\∀(i j:Nat) (p o:aq) (q s:bZ) (bits t:Nat),i<j->L[i]?=some (p,t)->e[i]?=some q->L[j]?=some (o,bits)->e[j]?=some s->Nat.testBit bits i=true\/(mQ p o=true/\bT q.k s.k=true):=by
 obtain⟨z,d⟩:=KI _ _ y;refine⟨z,λi j p o q s bits t l u h2 g v=>?_⟩;have c:(([]:List aq)++L.map (·.1))[i]?=some p:=by
  rw[cD,cA,u];rfl
 have m:(L.map (·.1))[j]?=some o:=by rw[cA,g];rfl
 have n:(L.map (·.1))[i]?=some p:=by rw[cA,u];rfl
 rcases JB _ _ x j o bits g i p c (by simpa using l)with f|f
 ·exact .inl f
 rcases Jy _ 0 [] rfl j o bits g i p c (by omega)with b|b|b
 ·exact .inl b
 ·exact .inr ⟨f,Qz b (r i p q n h2) (r j o s m v)⟩
 refine .inr ⟨f,?_⟩;have:=d i (0+j) b;rw[j4]at this;simpa[h2,v]using this
theorem ZB{A B:List aq}{c d:List bZ}(e:c.length=A.length)(f:∀(i:Nat) (o:aq) (s:bZ),A[i]?=some o->c[i]?=some s->nf (stK o.op) s.k)(h2:∀(i:Nat) (o:aq) (s:bZ),B[i]?=some o->d[i]?=some s->nf (stK o.op) s.k):
  ∀(i:Nat) (o:aq) (s:bZ),(A++B)[i]?=some o->(c++d)[i]?=some s->nf (stK o.op) s.k:=by
 intro i o s b hs;by_cases hi:i<A.length
 ·rw[lF hi]at b;rw[lF (by omega)]at hs;exact f i o s b hs
 rw[iZ (by omega)]at b;rw[iZ (by omega),e]at hs;exact h2 _ o s b hs
theorem X'{W:CL}(e:mm P W){d:Array Oper}{L:List (aq×Nat)}{π:Nat->Nat}(v:P.follows .mixedOrders=true)(H:DL P nt d L π)(hc:zr d L π){k:Tm->AH->Prop}(c:IU W L T h k)(hs:Sim nt ds own β T h a w)
  {Q:Exit->Act->World->Prop} (J:∀T' G,k T' G->∀β' a' w',Sim nt ds own β' T' G a' w'->aX own β h w β' G w'->Q .normal a' w'):wpAny P .any d Q d.size (Array.replicate d.size false) a { w with drawn:=w.drawn+1 }:=by
 unfold IU at c;cases b:swp L with
 |false=>
  rw[b]at c;simp only[cond_false]at c;unfold Uz at c;cases K:kV L []with
  |false=>rw[K]at c;exact c.elim
  |true=>
  rw[K]at c;simp only[nD]at c;obtain⟨ss,T',G,e1,e2,e3⟩:=Ah e _ _ _ _ _ c;exact ZP v H K e1 e2 e3 hs J
 |true=>
  rw[b]at c;simp only[nD]at c;unfold U5 at c;obtain⟨R,x,y,rfl,i,A⟩:∃R x y,L=R++[x,y]/\L.length-2=R.length/\∀z∈L,Nat.blt z.2 (2^R.length)=true:=by
   unfold swp at b;split at b;case h_2=>cases b
   rename_i x y s;have hlen:L.length-(L.length-2)=2:=by have:=congrArg List.length s;simpa using this
   refine⟨L.take (L.length-2),x,y,by rw[<-s,pV],by simp,λz M=>?_⟩;cases r:tH x.1 with
   |false=>rw[r]at b;cases b
   |true=>
    cases h2:tH y.1 with
    |false=>rw[r,h2]at b;cases b
    |true=>
     rw[r,h2]at b;simp only[nD,aI]at b;have:=fi.1 b.2 z M;rw[show(L.take (L.length-2)).length=L.length-2 by simp];exact this
  have l:(R++[x,y]).take R.length=R:=by simp
  have m:(R++[x,y]).drop R.length=[x,y]:=by simp
  have B:pO (R++[x,y])=R++[x,(y.1,y.2 ||| 2^R.length)]:=by unfold pO;rw[i,m,l]
  have N:zz (R++[x,y])=R++[y,x]:=by unfold zz;rw[i,m,l];rfl
  have C:(R++[y,x]).length-2=R.length:=by simp
  have p:pO (R++[y,x])=R++[y,(x.1,x.2 ||| 2^R.length)]:=by
   unfold pO;rw[C,show(R++[y,x]).drop R.length=[y,x]by simp,show(R++[y,x]).take R.length=R by simp]
  rw[N,B,p,i,l,m]at c;cases f:kV (R++[x,(y.1,y.2 ||| 2^R.length)]) []with
  |false=>rw[f]at c;exact c.elim
  |true=>
  cases n:kV (R++[y,(x.1,x.2 ||| 2^R.length)]) []with
  |false=>rw[f,n]at c;exact c.elim
  |true=>
  rw[f,n]at c;simp only[Bool.and_self,nD]at c;obtain⟨sr,ad,af,g,⟨eA,eB⟩,t⟩:=Ah e _ _ _ _ _ c;obtain⟨t1,T1,r,a1,a2,a3⟩:=Ah e _ _ _ _ _ eA;obtain⟨t2,T2,h2,b1,b2,b3⟩:=Ah e _ _ _ _ _ eB;have o:=Av _ _ _ _ _ _ _ g;have S:=Av _ _ _ _ _ _ _ a1;have U:=Av _ _ _ _ _ _ _ b1;have q:(R++[x,y]).length=d.size:=H.len;rw[q]at g;have u:(R.map (·.1)).length=R.length:=by simp
  have d1:=JM _ _ _ _ _ _ _ _ _ _ _ g (by rw[u];exact a1);have d2:=JM _ _ _ _ _ _ _ _ _ _ _ g (by rw[u];exact b1);rw[<-mr]at a2 b2;have p1:=M9 (L:=R++[x,(y.1,y.2 ||| 2^R.length)]) f a2 (by
   rw[mr];exact ZB o t a3)
  have p2:=M9 (L:=R++[y,(x.1,x.2 ||| 2^R.length)]) n b2 (by
   rw[mr];exact ZB o t b3)
  refine aaM (R:=R) (x:=x) (y:=y) H hc (λz M j hj=>?_) (by simpa using S) (by simpa using U) (by simpa using o) (by rw[mr];exact d1) (by rw[mr];exact d2) p1.2 p2.2 hs (J T1 r p1.1) (J T2 h2 p2.1);have V:=zU (A z M);rcases nF j R.length with h|h
  ·exact h
  exfalso;have:z.2<2^j:=gq V (Nat.pow_le_pow_right (by omega) h);rw[Nat.testBit_lt_two_pow this]at hj;cases hj
theorem u!{j:CL}(i:mm P j){b:Array Oper}{L:List (aq×Nat)}{π:Nat->Nat}{xs:List ((aq×Nat)×Option Nat)}(f:L=xs.map (·.1))(d:P.follows .mixedOrders=true)(o:DL P nt b L π){k:Tm->AH->Prop}(c:Gh j xs T h k)(p:Sim nt ds own β T h a w)
  {Q:Exit->Act->World->Prop} (q:∀T' e,k T' e->∀β' l w',Sim nt ds own β' T' e l w'->aX own β h w β' e w'->Q .normal l w'):wpAny P .any b Q b.size (Array.replicate b.size false) a { w with drawn:=w.drawn+1 }:=by
 unfold Gh at c;rw[<-f]at c;cases g:kV L []with
 |false=>rw[g]at c;exact c.elim
 |true=>
 rw[g]at c;simp only[nD]at c;obtain⟨t,T',e,m,r,n⟩:=zZ i _ _ _ _ _ c;have hm:(xs.map λx=>(x.1.1,x.2)).map (·.1)=L.map (·.1):=by
  rw[f];simp
 have s:xs.length=L.length:=by rw[f];simp
 rw[hm,s]at m;rw[hm]at n;exact ZP d o g m r n p q
end
theorem aan{own:Nat->Prop}{β1:Bl}{m:AH}{W:World}(hs:aB own β1 m.H m.nx W){sl:AV}{sv:Value}(U:VR W.heap (LL own β1 m.H) β1 sl sv){xl:List (List AV)}{en:Option Nat}(e:xF m (en.getD 1) sl=some xl):
  xl.length<=maxLen/\((xl.length=0/\∃a cap,sv =.slice a 0 cap)\/∃G o cap,sv =.slice (some ⟨G,o,none⟩) xl.length cap/\
   ∀k,k<xl.length->∃v,yr W G (o+k*en.getD 1) en v/\∀x,xl[k]?=some x->VR W.heap (LL own β1 m.H) β1 (elV en x) v):=by
 have key:∀(G o:Nat) (b:Array Value) (J:TypeId) (V:Nat×Nat) (x:List AV),W.heap[G]?=some (.cells b J V)->x.length=en.getD 1->aM x=true->o+en.getD 1<=b.size->
   (∀(j:Nat) (c:AV) (u:Value),x[j]?=some c->b[o+j]?=some u->VR W.heap (LL own β1 m.H) β1 c u)->∃v,yr W G o en v/\VR W.heap (LL own β1 m.H) β1 (elV en x) v:=by
  intro G o b J V x r1 p S L f;cases en with
  |none=>
   simp only[Option.getD_none]at p L;match x,p with
   |[c],_=>
    exact⟨b[o],by simp[yr,World.cell?,r1,show o<b.size by omega],f 0 c _ rfl (by simp[show o<b.size by omega])⟩
  |some n=>
   simp only[Option.getD_some]at p L;refine⟨.agg (b.extract o (o+n)),⟨_,rfl,by simp;omega,λj c d=>?_,λj c d=>?_⟩,.agg _ _ (by simp;omega) λj c u d hu=>?_⟩
   ·rw[Ju]at d;split at d
    ·simp[World.cell?,r1,d]
    cases d
   ·rw[Ju]at d;split at d
    ·rename_i an;have M:j<x.length:=by omega
     have m:x[j].one=true:=fi.1 S _ (gG M);exact(f j x[j] c (by simp[M]) d).one m
    cases d
   rw[Ju]at hu;split at hu
   ·exact f j c u d hu
   cases hu
 unfold xF at e;split at e
 ·cases e;cases U;exact⟨by simp,.inl ⟨rfl,_,_,rfl⟩⟩
 ·cases e;cases U;exact⟨by simp,.inl ⟨rfl,_,_,rfl⟩⟩
 ·rename_i ys;split at e;case isFalse=>cases e
  rename_i g;simp only[aI]at g;obtain rfl:ys=xl:=by simpa using e
  have q:∀(i:Nat) (x:List AV),ys[i]?=some x->x.length=en.getD 1/\aM x=true:=λi x hi=>by
   have hq:=fi.1 g.1 x (cQ hi);rw[aI]at hq;exact⟨vL hq.1,hq.2⟩
  cases U with
  |eu a cap=>exact⟨by simp,.inl ⟨rfl,_,_,rfl⟩⟩
  |psl _ z b2 o2 cap b J V r hL ao hz aj hx=>
   refine⟨zU g.2,.inr ⟨_,_,_,rfl,λk hk=>?_⟩⟩;have K:ys[k]?=some ys[k]:=by simp[hk]
   have s:z=en.getD 1:=by rw[<-hz k _ K];exact(q k _ K).1
   subst s;have ad:k*en.getD 1+en.getD 1<=ys.length*en.getD 1:=by
    have:=kJ (en.getD 1) (show k+1<=ys.length by omega);rw[oO]at this;exact this
   obtain⟨v,t,y⟩:=key b2 (o2+k*en.getD 1) b J V ys[k] r (q k _ K).1 (q k _ K).2 (by omega) (λj c u d hu=>hx k _ j c u K d hu);refine⟨v,t,λx N=>?_⟩;rw[K]at N;cases N;exact y
 ·rename_i id off len z';split at e;case isFalse=>cases e
  rename_i s;subst s;split at e;case h_2=>cases e
  rename_i cs af;split at e;case h_2=>cases e
  rename_i l hl;split at e;case isFalse=>cases e
  rename_i A;cases e;obtain⟨ar,rfl⟩:=rI hl;obtain⟨b2,B,r,_,b,J,r1,r2,r3⟩:=hs.obj id _ (Zq af);rw[Lx];cases U with
  |rsl _ _ _ _ b3 C cap al e3 av h Q aw hm aS=>
   rw[r]at h;cases h;rw[r1]at Q;cases Q;refine⟨by omega,.inr ⟨_,_,_,rfl,λk hk=>?_⟩⟩;have ad:k*en.getD 1+en.getD 1<=len*en.getD 1:=by
    have:=kJ (en.getD 1) (show k+1<=len by omega);rw[oO]at this;exact this
   obtain⟨v,t,y⟩:=key b2 (B+off+k*en.getD 1) b J (0,0) (((cs.drop off).take (len*en.getD 1)).drop (k*en.getD 1) |>.take (en.getD 1)) r1 (by simp;omega) (fi.2 λc hc=>fi.1 A c (List.mem_of_mem_drop (List.mem_of_mem_take hc))) (by omega) (λj c u d hu=>by
    rw[gN]at d;split at d
    ·rename_i aT;rw[ew,gN]at d;split at d
     ·rw[ew]at d;exact r3 _ c u d (by rw[<-hu];congr 1;omega)
     cases d
    cases d)
   refine⟨v,t,λx hx=>?_⟩;rw[LV _ _ _ _ hk]at hx;cases hx;exact y
  |gi _ _ _ b3 C o h=>exact⟨by simp,.inl ⟨rfl,_,_,rfl⟩⟩
 cases e
section
variable {P:Program} {nt:Nat} {ds:List Deferred} {own:Nat->Prop} {β:Bl} {T:Tm} {h:AH} {a:Act} {w:World}
theorem aaz{cl:CL}(L:mm P cl):∀(sc:dL) (c:Code) (ds:List Deferred) (β:Bl) (T:Tm) (h:AH) (a:Act) (w:World) (k:AX->Tm->AH->Prop),eh P nt c=some sc.erase->gg cl sc T h k->Sim nt ds own β T h a w->
  ∀Q:Exit->Act->World->Prop,(∀x T' G,k x T' G->∀A β' z w',Sim nt A own β' T' G z w'->aX own β h w β' G w'->qP w.heap.size w' ds A->Q x.ah8 z w')->c.wp P Q a w:=by
 intro sc;induction sc with
 |skip=>
  intro c ds β T h a w k d he hs Q f;simp only[gg]at he;cases c<;>simp only[eh,dL.erase]at d<;>(try(cases d;done));case skip=>exact wp_skip (f .nrm T h he ds β a w hs (.refl _ _ _ _) (.refl _ _ _))
  case label=>exact wp_label (f .nrm T h he ds β a w hs (.refl _ _ _ _) (.refl _ _ _))
  all_goals (repeat' (split at d))<;>cases d
 |draw ops=>
  intro c ds β T h a w k d he hs Q f;simp only[gg]at he;cases c<;>simp only[eh,dL.erase]at d<;>(try(cases d;done));case region V J draw=>
   split at d
   ·rename_i l U;cases draw with
    |true=>
     simp only[bt]at d;split at d
     ·rename_i hm;cases d;simp only[aI]at hm;obtain⟨_,N,W⟩:=MD hm.2 U;exact wp_region_any hm.1 (X' L hm.1 N W he hs λT' G p β' z w' s t=>f .nrm T' G p ds β' z w' s t (.refl _ _ _))
     cases d
    |false=>simp only[dT,bH]at d;cases d
   cases d
  all_goals (repeat' (split at d))<;>cases d
 |zG ops=>
  intro c ds β T h a w k d he hs Q f;simp only[gg]at he;cases c<;>simp only[eh,dL.erase]at d<;>(try(cases d;done));case region V J draw=>
   split at d
   ·rename_i l U;cases draw with
    |true=>simp only[bt]at d;split at d<;>cases d
    |false=>
     simp only[dT,bH]at d;cases d;exact wp_region_list (KB L _ _ _ _ _ _ _ _ U he hs λT' G p β' z w' s t=>f .nrm T' G p ds β' z w' s t (.refl _ _ _))
   cases d
  all_goals (repeat' (split at d))<;>cases d
 |zi ops=>
  intro c ds β T h a w k d he hs Q f;simp only[gg]at he;cases c<;>simp only[eh,dL.erase]at d<;>(try(cases d;done));case region V J draw=>
   split at d
   ·rename_i l U;cases draw with
    |true=>
     simp only[bt]at d;split at d
     ·rename_i hm;simp only[cJ,jU.draw.injEq]at d;simp only[aI]at hm;obtain⟨_,N,W⟩:=MD hm.2 U;exact wp_region_any hm.1 (u! L d hm.1 N he hs λT' G p β' z w' s t=>f .nrm T' G p ds β' z w' s t (.refl _ _ _))
     cases d
    |false=>simp only[dT,bH]at d;cases d
   cases d
  all_goals (repeat' (split at d))<;>cases d
 |exit id=>
  intro c ds β T h a w k d he hs Q f;simp only[gg]at he;cases c<;>simp only[eh,dL.erase]at d<;>(try(cases d;done));case exit=>cases d;exact wp_exit (f (.exit id) T h he ds β a w hs (.refl _ _ _ _) (.refl _ _ _))
  all_goals (repeat' (split at d))<;>cases d
 |ret=>
  intro c ds β T h a w k d he hs Q f;simp only[gg]at he;cases c<;>simp only[eh,dL.erase]at d<;>(try(cases d;done));case ret=>exact wp_ret (f .ret T h he ds β a w hs (.refl _ _ _ _) (.refl _ _ _))
  all_goals (repeat' (split at d))<;>cases d
 |stuck=>intro c ds β T h a w k d he;simp[gg]at he
 |join lo a K=>
  intro c ds β T h z w k d he hs Q f;simp only[gg,zg]at he;obtain⟨M,u,h2⟩:=he;exact K c ds β T h z w _ d u hs Q λx2 T2 B p A β' a2 H s t m=>f x2 _ B (h2 _ _ _ p) A β' a2 H (s.aY lo) t m
 |zj lo a K=>
  intro c ds β T h z w k d he hs Q f;simp only[gg,qz]at he;obtain⟨M,u,h2⟩:=he;refine K c ds β T h z w _ d u hs Q λx2 T2 B p A β' a2 H s t m=>?_
  cases x2 with
  |nrm=>exact f .nrm _ B (h2 _ _ p) A β' a2 H (s.aY lo) t m
  |exit j=>exact p.elim
  |ret=>exact p.elim
 |seq a b ad af=>
  intro c ds β T h z w k d he hs Q f;obtain⟨c1,c2,rfl,u,h2⟩:=L! d;simp only[gg]at he;refine wp_seq ?_;refine ad c1 ds β T h z w _ u he hs _ λx T1 q p i β1 v r s1 t1 m1=>?_
  cases x with
  |nrm=>exact af c2 i β1 T1 q v r k h2 p s1 Q λx T2 B al C β2 a2 H s2 t2 m2=>f x T2 B al C β2 a2 H s2 (t1.trans t2) (m1.trans t1.size s1.hp t2 m2)
  |exit j=>exact f (.exit j) T1 q p i β1 v r s1 t1 m1
  |ret=>exact f .ret T1 q p i β1 v r s1 t1 m1
 |cond co t e an ao=>
  intro c ds β T h a w k d he hs Q f;obtain⟨o,c1,c2,rfl,h0,u,h2⟩:=G! d;simp only[gg]at he;have hv:=bJ hs h0;cases ar:co.ev T<;>rw[ar]at he hv<;>simp only[wif]at he;rename_i bb;generalize aj:a.eval o=cv at hv;cases hv;cases bb with
  |true=>exact wp_cond_true aj (an c1 ds β T h a w k u (he.1 rfl) hs Q f)
  |false=>exact wp_cond_false aj (ao c2 ds β T h a w k h2 (he.2 rfl) hs Q f)
 |block id b K=>
  intro c ds β T h a w k d he hs Q f;obtain⟨c1,rfl,u⟩:=s? d;simp only[gg]at he;refine wp_block ?_;refine K c1 ds β T h a w _ u he hs _ λx T1 q p i β1 v r s1 t1 m1=>?_
  cases x with
  |nrm=>exact f .nrm T1 q p i β1 v r s1 t1 m1
  |ret=>exact f .ret T1 q p i β1 v r s1 t1 m1
  |exit j=>
   show(if j=id then Q .normal v r else Q (.exit j) v r)
   simp only[xs]at p;cases hb:Nat.beq j id with
   |true=>
    rw[hb]at p;rw[Z (vL hb)];exact f .nrm T1 q p i β1 v r s1 t1 m1
   |false=>
    rw[hb]at p;rw[O (Nat.ne_of_beq_eq_false hb)];exact f (.exit j) T1 q p i β1 v r s1 t1 m1
 |loop li lo b K=>
  intro c ds β T h a w k d he hs Q f;obtain⟨c1,rfl,u⟩:=u? d;simp only[gg,uW]at he;obtain⟨I,m,hI,hB⟩:=he;refine wp_loop_rounds (m+1) ?_;have key:∀(n:Nat) (m:Nat) (i:List Deferred) (β1:Bl) (S:List AV) (u:AH) (v:Act) (r:World),m<n->I m S u->Sim nt i own β1 (mkT li S) u v r->aX own β h w β1 u r->qP w.heap.size r ds i->Code.rounds P c1 Q n v r:=by
   intro n;induction n with
   |zero=>intro m i β1 S u v r hm;omega
   |succ n av=>
    intro m i β1 S q v r hm hI s1 t1 m1;rw[rounds_succ];refine K c1 i β1 (mkT li S) q v r _ u (hB m S q hI) s1 _ λy T2 h2 p C β2 a2 H s2 t2 m2=>?_
    cases y with
    |nrm=>
     obtain⟨m',aS,aw⟩:=p;exact av m' C β2 _ h2 a2 H (by omega) aw (s2.aY li) (t1.trans t2) (m1.trans t1.size s1.hp t2 m2)
    |exit j=>exact f _ _ h2 p C β2 a2 H (s2.aY lo) (t1.trans t2) (m1.trans t1.size s1.hp t2 m2)
    |ret=>exact f _ _ h2 p C β2 a2 H (s2.aY lo) (t1.trans t2) (m1.trans t1.size s1.hp t2 m2)
  exact key (m+1) m ds β _ h a w (Nat.lt_succ_self m) hI (hs.aY li) (.refl _ _ _ _) (.refl _ _ _)
 |rng it g ps sa sb ad af=>intro c ds β T h a w k d he hs Q f;exact he.elim
end
theorem Zs{P:Program}{l:Func}{b:Array Value}{f:Nat}{R:Ending->World->Prop}:∀(ms:List Nat) (w:World),ms.Nodup->(∀r∈ms,f<=r/\w.heap[r]?=some (.deferred (some [])))->
  (∀w',jH f w w'->∃v,(results l b).run P w' =.ok v w'/\R (.returned v) w')->LeavesInM Fence.wide 0 P l b R (ms.map mk) .returning w
 |[],w,_,_,g=>g w (.refl _ _)
 |r::ms,w,m,hm,g=>by
  obtain⟨n,h2⟩:=hm r (by simp);have d:=List.nodup_cons.1 m;have o:jH f w (w.putObj r (.deferred none)):=jH.putObj _ h2 rfl n;refine⟨by simp,.inl ⟨r,_,rfl,run_takeDeferred h2,?_⟩⟩;refine Zs ms _ d.2 (λi c=>⟨(hm i (by simp[c])).1,?_⟩) λw' j=>g w' (o.trans j)
  have k:i≠r:=λe=>by subst e;exact d.1 c
  rw[World.putObj_heap_other k];exact(hm i (by simp[c])).2
theorem aeW{P:Program}{cl:CL}(W:mm P cl){f:Nat}{g:Func}{A:SFn}(hf:P.funcs[f]?=some g)(p:cFn P g=some A.erase)(hn:g.name ≠ "runtime.NumGoroutine"){d:List AV}{h:AH}{R:AV->AH->Prop}(B:vh cl A d h R):ah P f d h R:=by
 refine⟨⟨g,hf,aa_ p,hn⟩,λown β w b hs hR=>?_⟩;unfold cFn at p;split at p;case h_2=>cases p
 rename_i c hb;split at p;case h_2=>cases p
 rename_i ac rs ad af;simp only[SFn.erase,cJ,AFn.mk.injEq]at p;obtain⟨aj,o,z⟩:=p;unfold vh at B;cases hlen:Nat.ble d.length A.nt with
 |false=>rw[hlen]at B;exact B.elim
 |true=>
 rw[hlen]at B;simp only[nD]at B;have ar:d.length<=g.ntmps:=by rw[aj];exact zU hlen
 have av:d.length=b.size:=by simpa using hR.1
 refine(callsIn_wide (n:=0)).1 (callsIn_of_wp_marks hf hb trivial ((wpIn_wide).2 ?_));have M:Sim g.ntmps [] own β (th d 0 .leaf) h { tmps:=b++Array.replicate (g.ntmps-b.size) Go.undef,defers:=[] } w:=by
  refine⟨hs,by simp;omega,λt u hu=>?_,rfl⟩;rw[Ll]at hu;split at hu
  ·rename_i ht;obtain⟨G,r,h2⟩:=hR.get hu;have K:t<b.size:=by omega
   have h3:b[t]?=some G:=by simpa using r
   have:(b++Array.replicate (g.ntmps-b.size) Go.undef).getD t Go.undef=G:=by
    simp[Array.getElem?_append,K];simpa[K]using h3
   rw[this];exact h2
  simp[Tm.K5]at hu
 refine aaz W A.body c [] β _ h _ w (Yk A.res R) (by rw[ad,z]) B M _ λx T' r U al β' q w' s t m=>?_
 have fin:ou (oH T' r A.res) r R->LeavesInM Fence.wide 0 P g q.tmps (λe w'=>∃G v J β',e =.returned G/\R v J/\aB own β' J.H J.nx w'/\VR w'.heap (LL own β' J.H) β' v G/\aX own β h w β' J w') q.defers .returning w':=by
  intro hw;unfold ou at hw;split at hw;case h_2=>exact hw.elim
  rename_i C L;rw[<-o]at L;obtain⟨ms,an,ao,hm⟩:=m;rw[s.df,an,bO];refine Zs ms w' ao hm λS V=>?_
  have s2:Sim g.ntmps al own β' T' r q S:=⟨s.hp.quiet V,s.sz,λt u hu=>(s.tm t u hu).quiet V,s.df⟩;have t2:=t.quiet V;obtain⟨k,r1,y⟩:=Km (P:=P) s2 _ _ _ af L;have N:(results g q.tmps).run P S =.ok (if hh:k.toArray.size=1 then k.toArray[0]else .tuple k.toArray) S:=by
   have o:results g q.tmps=(do let C <-g.results.mapM (uL q.tmps);pure (if h:C.size=1 then C[0]else .tuple C)):=rfl;rw[o,Array.mapM_eq_mapM_toList];have:(Functor.map List.toArray (g.results.toList.mapM (uL q.tmps)):Sem (Array Value))=(do let l <-g.results.toList.mapM (uL q.tmps);pure l.toArray):=rfl;rw[this];simp only[dy,r1,ey,fC]
  have Q:VR S.heap (LL own β' r.H) β' (qW C) (if hh:k.toArray.size=1 then k.toArray[0]else .tuple k.toArray):=by
   have hl:=y.1;match C,k,y,hl with
   |[],[],y,_=>exact .tup [] _ rfl (λi c v p=>by simp at p)
   |[u],[cu],y,_=>simpa[qW]using y.head
   |u1::u2::us,c1::c2::cs,y,_=>
    simp only[qW];rw[dif_neg (by simp)];exact RL.tup (by simpa using y)
  exact⟨_,N,_,_,r,β',rfl,hw,s2.hp,Q,t2⟩
 cases x with
 |exit j=>exact U.elim
 |nrm=>exact fin U
 |ret=>exact fin U
def gdv(b:Bool)(v:AV):Option Bool:=
 match some v with
 |some (.bool c)=>some (c==b)
 |some (.tup [])=>some false
 |_=>none
def rdv(a:AV):Option Nat:=
 match a with
 |.ptr id _=>some id
 |.c_ g _=>some g
 |_=>none
def zf(b:List AV):Option (bg×(Nat->AV)):=some (.cells b,λr=>.ptr r 0)
def ij(z d:Nat)(c:List AV)(b:List (Nat×Nat×AV)):Option (bg×(Nat->AV)):=
 match aQ c b with
 |some cs=>some (.cells cs,λr=>.rsl r 0 d z)
 |none=>none
def wdr(h:AH)(n:Nat)(k:Nat->AH->Prop):Prop:=k h.nx ⟨h.H,h.nx+n⟩
def wda(r:Nat)(h:AH)(x:Option (bg×(Nat->AV)))(k:AV->Rec->AH->Prop):Prop:=wal x λcs mk=>k (mk r) (.alloc r cs) (h.set r cs)
def wdp(h:AH)(x:Option (AV×AH))(c:Rec)(k:AV->Rec->AH->Prop):Prop:=wk x λv _=>k v c h
def wde(h:AH)(x:Option (AV×AH))(k:AV->Rec->AH->Prop):Prop:=wk x λv h'=>h.nx<=h'.nx/\k v (.eff h h') h'
def wdc(c:CL)(f:AV)(b:List AV)(h:AH)(k:AV->Rec->AH->Prop):Prop:=mR c f b h λv h'=>h.nx<=h'.nx/\k v (.eff h h') h'
inductive RV where
 |val (v:AV)
 |cell (a:AV) (n:Option Nat)
def mg(h:AH):List RV->Option (List AV)
 |[]=>some []
 |.val v::r=>match mg h r with
  |some l=>some (v::l)
  |none=>none
 |.cell a n::r=>
  match(match n with
   |none=>lh h a
   |some n=>(iP h n a).map .agg),mg h r with
  |some v,some l=>some (v::l)
  |_,_=>none
def emp:AH:=⟨.leaf,0⟩
def noB:Bl:=λ_=>none
inductive Frz(h:AH)(n:Bool):AV->AV->Prop where
 |undef (a:AV):Frz h n a .undef
 |bool (b:Bool):Frz h n (.bool b) (.bool b)
 |int (k:IntKind) (m:Int):Frz h n (.int k m) (.int k m)
 |str (s:List UInt8):Frz h n (.str s) (.str s)
 |dh:Frz h n .dh .dh
 |fX:Frz h n .fX .fX
 |bR:Frz h n .bR .bR
 |fp:Frz h n .fp .fp
 |fo:Frz h n .D .D
 |D:Frz h n .D (.psl [])
 |esl0:Frz h n .esl .esl
 |esl:Frz h n .esl (.psl [])
 |c_ (g o:Nat):Frz h n (.c_ g o) (.c_ g o)
 |agg (cs ds:List AV) (hl:cs.length=ds.length) (hc:∀(i:Nat) (c d:AV),cs[i]?=some c->ds[i]?=some d->Frz h n c d):Frz h n (.agg cs) (.agg ds)
 |tup (cs ds:List AV) (hl:cs.length=ds.length) (hc:∀(i:Nat) (c d:AV),cs[i]?=some c->ds[i]?=some d->Frz h n c d):Frz h n (.tup cs) (.tup ds)
 |eu:Frz h n (.psl []) (.psl [])
 |psl (hn:n=false) (xs ys:List (List AV)) (hl:xs.length=ys.length) (hx:∀(i:Nat) (x y:List AV),xs[i]?=some x->ys[i]?=some y->x.length=y.length)
   (hc:∀(i:Nat) (x y:List AV) (j:Nat) (c d:AV),xs[i]?=some x->ys[i]?=some y->x[j]?=some c->y[j]?=some d->Frz h n c d):Frz h n (.psl xs) (.psl ys)
 |ai (hn:n=false) (cs ds:List AV) (hl:cs.length=ds.length) (hc:∀(i:Nat) (c d:AV),cs[i]?=some c->ds[i]?=some d->Frz h n c d):Frz h n (.ai cs) (.ai ds)
 |rsl (id off z:Nat) (cs:List AV) (ys:List (List AV)) (ho:h.E id=some cs) (hs:off+ys.length*z<=cs.length) (hz:∀(i:Nat) (y:List AV),ys[i]?=some y->y.length=z)
   (hc:∀(i:Nat) (y:List AV) (j:Nat) (c d:AV),ys[i]?=some y->y[j]?=some d->cs[off+i*z+j]?=some c->Frz h n c d):Frz h n (.rsl id off ys.length z) (.psl ys)
 |ptr (id off:Nat) (cs ds:List AV) (ho:h.E id=some cs) (hs:off+ds.length<=cs.length) (hc:∀(i:Nat) (c d:AV),cs[off+i]?=some c->ds[i]?=some d->Frz h n c d):Frz h n (.ptr id off) (.ai ds)
 |func (fn:Fn) (f1 c1 f2 c2:List AV) (hl1:f1.length=f2.length) (hl2:c1.length=c2.length) (h1:∀(i:Nat) (c d:AV),f1[i]?=some c->f2[i]?=some d->Frz h n c d) (h2:∀(i:Nat) (c d:AV),c1[i]?=some c->c2[i]?=some d->Frz h n c d):Frz h n (.func fn f1 c1) (.func fn f2 c2)
 |iface (t:TypeId) (a b:AV) (hb:Frz h n a b):Frz h n (.iface t a) (.iface t b)
theorem kO{α β:Type}{l:List α}{m:List β}(h:l.length=m.length){i:Nat}{x:β}(b:m[i]?=some x):∃y,l[i]?=some y:=by
 have:i<m.length:=(aL.1 b).1;exact⟨l[i],by simp[h▸this]⟩
theorem rz{h:AH}{c:Nat}{d:List AV}(b:h.E c=some d):h.H.get c=some (.cells d):=by
 unfold AH.E at b;split at b
 ·rename_i o e;cases b;exact e
 cases b
@[simp ↓] theorem qi(v:AV)(h:AH)(k:AV->AH->Prop):wk (some (v,h)) k=k v h:=ag rfl rfl
@[simp ↓] theorem akV(b:Bool)(x y:Prop):wif (.bool b) x y=((b=true->x)/\(b=false->y)):=ag rfl rfl
@[simp] theorem akm(b:Bool):gdv b la=some false:=ag rfl rfl
@[simp ↓] theorem akB(b:Bool)(A:(AV->AH->Prop)->Prop)(h:AH)(k:AV->AH->Prop):wg (some b) A h k=((b=true->A k)/\(b=false->k la h)):=ag rfl rfl
@[simp ↓] theorem akT(b:Bool)(A:(AV->Rec->AH->Prop)->Prop)(h:AH)(k:AV->Rec->AH->Prop):wgd (some b) A h k=((b=true->A k)/\(b=false->k la .pure h)):=ag rfl rfl
@[simp ↓] theorem akw(b:Bool)(K:AV->Prop):wsp (.bool b) K=((b=true->K (.bool true))/\(b=false->K (.bool false))):=ag rfl rfl
@[simp ↓] theorem akS(K:AV->Prop):wsp la K=K la:=ag rfl rfl
attribute [simp ↓] xs
@[simp ↓ high] theorem aj8(K:AV->Prop):wsp (.bool true) K=K (.bool true):=by simp[wsp]
@[simp ↓ high] theorem aj0(K:AV->Prop):wsp (.bool false) K=K (.bool false):=by simp[wsp]
@[simp ↓ high] theorem akP(A:(AV->AH->Prop)->Prop)(h:AH)(k:AV->AH->Prop):wg (some true) A h k=A k:=by simp[wg]
@[simp ↓ high] theorem akp(A:(AV->AH->Prop)->Prop)(h:AH)(k:AV->AH->Prop):wg (some false) A h k=k la h:=by simp[wg]
@[simp ↓ high] theorem aka(A:(AV->Rec->AH->Prop)->Prop)(h:AH)(k:AV->Rec->AH->Prop):wgd (some true) A h k=A k:=by simp[wgd]
@[simp ↓ high] theorem ajy(A:(AV->Rec->AH->Prop)->Prop)(h:AH)(k:AV->Rec->AH->Prop):wgd (some false) A h k=k la .pure h:=by simp[wgd]
@[simp ↓ high] theorem ajJ(x y:Prop):wif (.bool true) x y=x:=by simp[wif]
@[simp ↓ high] theorem aj2(x y:Prop):wif (.bool false) x y=y:=by simp[wif]
@[simp high] theorem ak8:gdv true (.bool true)=some true:=ag rfl rfl
@[simp high] theorem ak5:gdv true (.bool false)=some false:=ag rfl rfl
@[simp high] theorem ak7:gdv false (.bool true)=some false:=ag rfl rfl
@[simp high] theorem ala:gdv false (.bool false)=some true:=ag rfl rfl
@[simp high] theorem ai9(h:AH)(x y:AV):mb h (.bool true) x y=some (x,h):=ag rfl rfl
@[simp high] theorem ajc(h:AH)(x y:AV):mb h (.bool false) x y=some (y,h):=ag rfl rfl
@[simp ↓] theorem ajz(b:List AV)(h:AH)(Q:AV->AH->Prop):ou (some b) h Q=Q (qW b) h:=ag rfl rfl
@[simp] theorem akn(v:AV):qW [v]=v:=ag rfl rfl
@[simp] theorem akf(u v:AV)(b:List AV):qW (u::v::b) =.tup (u::v::b):=ag rfl rfl
@[simp] theorem ajT(a:AV)(l:List AV):aa (a::l) 0=a:=ag rfl rfl
@[simp] theorem ajF(a:AV)(l:List AV)(n:Nat):aa (a::l) (n+1)=aa l n:=ag rfl rfl
@[simp ↓] theorem ald(m:Nat)(I:Nat->List AV->AH->Prop)(k:AX->List AV->AH->Prop)(b d:List AV)(h:AH):lk m I k .nrm b d h = ∃c,c<m/\I c b h:=ag rfl rfl
@[simp ↓] theorem akM(m:Nat)(I:Nat->List AV->AH->Prop)(k:AX->List AV->AH->Prop)(j:Nat)(c b:List AV)(h:AH):lk m I k (.exit j) c b h=k (.exit j) b h:=ag rfl rfl
@[simp ↓] theorem ak_(m:Nat)(I:Nat->List AV->AH->Prop)(k:AX->List AV->AH->Prop)(c b:List AV)(h:AH):lk m I k .ret c b h=k .ret b h:=ag rfl rfl
@[simp ↓] theorem ajh(d:CL)(g:Nat)(first b c:List AV)(h:AH)(k:AV->AH->Prop):mR d (.func (.func g) first b) c h k=d g (first++c++b) h k:=ag rfl rfl
@[simp ↓] theorem akg(e:CL)(g:Nat)(first b c:List AV)(h:AH)(k:AV->Rec->AH->Prop):wdc e (.func (.func g) first b) c h k=e g (first++c++b) h λv d=>h.nx<=d.nx/\k v (.eff h d) d:=ag rfl rfl
@[simp ↓] theorem alI(h:AH)(n:Nat)(k:Nat->AH->Prop):wdr h n k=k h.nx ⟨h.H,h.nx+n⟩:=ag rfl rfl
@[simp ↓] theorem ajv(h:AH)(v:AV)(b:AH)(c:Rec)(k:AV->Rec->AH->Prop):wdp h (some (v,b)) c k=k v c h:=ag rfl rfl
@[simp ↓] theorem akv(h:AH)(v:AV)(b:AH)(k:AV->Rec->AH->Prop):wde h (some (v,b)) k=(h.nx<=b.nx/\k v (.eff h b) b):=ag rfl rfl
@[congr] theorem akh{r b:Option (AV×AH)}{k:AV->AH->Prop}(h:r=b):wk r k=wk b k:=by rw[h]
@[congr] theorem ajS{c b:AV}{x y:Prop}(h:c=b):wif c x y=wif b x y:=by rw[h]
@[congr] theorem akc{g b:Option Bool}{A:(AV->AH->Prop)->Prop}{h:AH}{k:AV->AH->Prop}(c:g=b):wg g A h k=wg b A h k:=by rw[c]
@[congr] theorem ajV{g b:Option Bool}{A:(AV->Rec->AH->Prop)->Prop}{h:AH}{k:AV->Rec->AH->Prop}(c:g=b):wgd g A h k=wgd b A h k:=by rw[c]
@[congr] theorem ajR{h:AH}{x b:Option (AV×AH)}{c:Rec}{k:AV->Rec->AH->Prop}(d:x=b):wdp h x c k=wdp h b c k:=by rw[d]
@[congr] theorem ajM{h:AH}{x b:Option (AV×AH)}{k:AV->Rec->AH->Prop}(c:x=b):wde h x k=wde h b k:=by rw[c]
@[congr] theorem ajP{r:Nat}{h:AH}{x b:Option (bg×(Nat->AV))}{k:AV->Rec->AH->Prop}(c:x=b):wda r h x k=wda r h b k:=by rw[c]
@[congr] theorem ai3{d:CL}{f e:AV}{c b:List AV}{h:AH}{k:AV->AH->Prop}(g:f=e)(i:c=b):mR d f c h k=mR d e b h k:=by rw[g,i]
@[congr] theorem ajj{r b:Option (List AV)}{h:AH}{Q:AV->AH->Prop}(c:r=b):ou r h Q=ou b h Q:=by rw[c]
@[simp] theorem ake(b:List AV):dG (.agg b)=true:=by unfold dG;rfl
@[simp] theorem akj(k:IntKind)(n:Int):dG (.int k n)=true:=by unfold dG;rfl
@[simp] theorem ajQ(b:Bool):dG (.bool b)=true:=by unfold dG;rfl
@[simp] theorem aks(b:List UInt8):dG (.str b)=true:=by unfold dG;rfl
@[simp] theorem aku(l:List (List AV)):dG (.psl l)=true:=by unfold dG;rfl
@[simp] theorem akt(a b c d:Nat):dG (.rsl a b c d)=true:=by unfold dG;rfl
@[simp] theorem ajt:dG .D=true:=by unfold dG;rfl
@[simp] theorem ajZ(h:AH):mg h []=some []:=ag rfl rfl
@[simp] theorem aj5(h:AH)(v:AV)(r:List RV):mg h (.val v::r)=match mg h r with|some l=>some (v::l)|none=>none:=ag rfl rfl
@[simp] theorem ajd(h:AH)(a:AV)(r:List RV):mg h (.cell a none::r)=match lh h a,mg h r with|some v,some l=>some (v::l)|_,_=>none:=ag rfl rfl
@[simp] theorem ai1(h:AH)(a:AV)(n:Nat)(r:List RV):mg h (.cell a (some n)::r)=match(iP h n a).map .agg,mg h r with|some v,some l=>some (v::l)|_,_=>none:=ag rfl rfl
@[simp] theorem ajD(h:AH)(b:List AV)(c:List (Nat×Nat×AV)):l9 h b c=match aQ b c with|some cs=>some (.agg cs,h)|none=>none:=ag rfl rfl
@[simp] theorem ajx(b:List AV):aQ b []=some b:=ag rfl rfl
@[simp] theorem ajm(e:List AV)(c b:Nat)(x:AV)(r:List (Nat×Nat×AV))(f:dG x=true):aQ e ((c,b,x)::r)=if x.cells.length=b then(match aP e c x.cells with|some d=>aQ d r|none=>none)else none:=by
 show(if dG x then _ else _)=_
 rw[Z f];rfl
@[simp] theorem ak1(h:AH)(o:bg):(h.add o).nx=h.nx+1:=by cases h;rfl
@[simp] theorem pA(h:AH)(i:Nat)(o:bg):(h.set i o).nx=h.nx:=by cases h;rfl
@[simp] theorem akN(h:AH)(i:Nat):(h.kill i).nx=h.nx:=by cases h;rfl
@[simp] theorem alu(H:Hp)(n:Nat):AH.nx ⟨H,n⟩=n:=ag rfl rfl
@[simp] theorem alJ:emp.nx=0:=by decide
theorem uz(h:AH)(o:bg)(i:Nat):(h.add o).H.get i=if i=h.nx then some o else h.H.get i:=PM.lT _ _ _ _
theorem dQ(h:AH)(j:Nat)(o:bg)(i:Nat):(h.set j o).H.get i=if i=j then some o else h.H.get i:=PM.lT _ _ _ _
theorem my(h:AH)(j:Nat)(i:Nat):(h.kill j).H.get i=if i=j then none else h.H.get i:=PM.Ea _ _ _
theorem aV{h b:AH}{i:Nat}(c:b.H.get i=h.H.get i):b.E i=h.E i:=by unfold AH.E;rw[c]
theorem vQ(h:AH)(b:List AV)(i:Nat)(c:i=h.nx):(h.add (.cells b)).E i=some b:=by unfold AH.E;rw[uz,Z c]
theorem Zg(h:AH)(o:bg)(i:Nat)(b:i≠h.nx):(h.add o).E i=h.E i:=aV (by rw[uz,O b])
theorem Ze(h:AH)(b:List AV)(i j:Nat)(c:i=j):(h.set j (.cells b)).E i=some b:=by unfold AH.E;rw[dQ,Z c]
theorem Zk(h:AH)(o:bg)(i j:Nat)(b:i≠j):(h.set j o).E i=h.E i:=aV (by rw[dQ,O b])
theorem gsn{h:AH}{i j:Nat}{o:bg}(b:¬i=j:=by omega):(h.set j o).H.get i=h.H.get i:=by rw[dQ,O b]
theorem gan{h:AH}{i:Nat}{o:bg}(b:¬i=h.nx:=by first|omega|(simp;omega)):(h.add o).H.get i=h.H.get i:=by rw[uz,O b]
theorem cse{h:AH}{b:List AV}{i j:Nat}(c:i=j:=by rfl):(h.set j (.cells b)).E i=some b:=Ze _ _ _ _ c
theorem csn{h:AH}{o:bg}{i j:Nat}(b:¬i=j:=by omega):(h.set j o).E i=h.E i:=Zk _ _ _ _ b
theorem cas{h:AH}{b:List AV}{i:Nat}(c:i=h.nx:=by first|rfl|simp):(h.add (.cells b)).E i=some b:=vQ _ _ _ c
theorem can{h:AH}{o:bg}{i:Nat}(b:¬i=h.nx:=by first|omega|simp):(h.add o).E i=h.E i:=Zg _ _ _ b
theorem ifn{α:Sort _}{c:Prop}[Decidable c]{a b:α}(d:¬c:=by omega):ite c a b=b:=O d
theorem ifp{α:Sort _}{c:Prop}[Decidable c]{a b:α}(d:c:=by omega):ite c a b=a:=Z d
@[simp] theorem ai4(h:AH)(b:List AV)(i:Nat):(h.add (.cells b)).E i=if i=h.nx then some b else h.E i:=by
 split
 ·rename_i hi;exact vQ h b i hi
 rename_i hi;exact Zg h _ i hi
@[simp] theorem ai7(h:AH)(b:List AV)(i j:Nat):(h.set j (.cells b)).E i=if i=j then some b else h.E i:=by
 split
 ·rename_i hi;exact Ze h b i j hi
 rename_i hi;exact Zk h _ i j hi
@[simp] theorem ajp(h:AH)(n i:Nat):AH.E ⟨h.H,n⟩ i=h.E i:=ag rfl rfl
@[simp] theorem akO(h:AH)(x:AV):nq h x=some (x,h):=ag rfl rfl
@[simp] theorem C1(h:AH)(b:List AV):pJ h b=some (.ptr h.nx 0,h.add (.cells b)):=ag rfl rfl
@[simp] theorem aj7(h:AH)(b:List AV):cL h (.agg b)=some (.ptr h.nx 0,h.add (.cells b)):=ag rfl rfl
theorem ab3{h:AH}{c b n:Nat}{d ds:List AV}(e:h.E c=some d)(f:cut d b n=some ds):gh h n (.ptr c b)=some (.agg ds,h):=by
 simp[gh,iP,e,f]
@[simp] theorem ajA(h:AH)(c b:Nat):jw h (.ptr c b)=match h.E c with|some cs=>(match cs[b]? with|some v=>some (v,h)|none=>none)|none=>none:=by
 simp only[jw,lh];cases h.E c<;>rfl
@[simp] theorem aj1(h:AH)(n c b:Nat):gh h n (.ptr c b)=match h.E c with|some cs=>(match cut cs b n with|some ds=>some (.agg ds,h)|none=>none)|none=>none:=by
 simp only[gh,iP];cases h.E c<;>rfl
@[simp] theorem ajG(h:AH)(b:List AV):jw h (.ai b)=match b[0]? with|some v=>some (v,h)|none=>none:=ag rfl rfl
@[simp] theorem ajL(h:AH)(n:Nat)(b:List AV):gh h n (.ai b)=match cut b 0 n with|some ds=>some (.agg ds,h)|none=>none:=ag rfl rfl
theorem abP{cs:List AV}{a n:Nat}(b:Nat)(c:a<=cs.length):cut (cs.drop a) b n=cut cs (a+b) n:=by
 unfold cut;have:(b+n<=(cs.drop a).length)↔(a+b+n<=cs.length):=by simp;omega
 simp only[this,lB]
@[simp] theorem ajr(h:AH)(n c b:Nat):iP h n (.ptr c b)=match h.E c with|some cs=>cut cs b n|none=>none:=ag rfl rfl
@[simp] theorem akQ{b:List AV}{n:Nat}(c:b.length=n):cut b 0 n=some b:=by simp[cut,<-c]
@[simp] theorem iH{cs b:List AV}(h:b.length=cs.length):aP cs 0 b=some b:=by simp[aP,h]
@[simp] theorem ai6(a b:AV)(l:List AV):aP (a::l) 0 [b]=some (b::l):=by simp[aP]
@[simp] theorem ai2(a:AV)(l:List AV)(n:Nat)(b:List AV):aP (a::l) (n+1) b=(aP l n b).map (a :: ·):=by
 unfold aP;simp only[aF,List.take_succ_cons,tR,show n+1+b.length=(n+b.length)+1 by omega,Nat.add_le_add_iff_right];split<;>simp
theorem Qd{h:AH}{n d off:Nat}{e c b:List AV}(f:b.length=n)(g:aM b=true)(i:h.E d=some e)(j:aP e off b=some c):kSt h n (.ptr d off) (.agg b)=some (.undef,h.set d (.cells c)):=by
 simp[kSt,dG,AV.cells,f,g,i,j]
theorem wD{h:AH}{d b:Nat}{v:AV}{f c:List AV}(e:v.one=true)(g:h.E d=some f)(i:aP f b [v]=some c):kSt h 1 (.ptr d b) v=some (.undef,h.set d (.cells c)):=by
 have j:dG v=true:=by cases v<;>first|rfl|simp[AV.one]at e
 have h2:v.cells=[v]:=by cases v<;>first|rfl|simp[AV.one]at e
 simp[kSt,j,h2,aM,e,g,i]
@[simp] theorem ajC(b:List AV):AV.cells (.agg b)=b:=ag rfl rfl
@[simp] theorem ajO(k:IntKind)(n:Int):AV.cells (.int k n)=[.int k n]:=ag rfl rfl
@[simp] theorem ajk(b:Bool):AV.cells (.bool b)=[.bool b]:=ag rfl rfl
@[simp] theorem ajK(b:List UInt8):AV.cells (.str b)=[.str b]:=ag rfl rfl
@[simp] theorem ajY(l:List (List AV)):AV.cells (.psl l)=[.psl l]:=ag rfl rfl
@[simp] theorem ajU(a b c d:Nat):AV.cells (.rsl a b c d)=[.rsl a b c d]:=ag rfl rfl
@[simp] theorem ai5:AV.cells .D=[.D]:=ag rfl rfl
@[simp] theorem akd:aM []=true:=ag rfl rfl
@[simp] theorem ajW(a:AV)(l:List AV):aM (a::l)=(a.one&&aM l):=ag rfl rfl
@[simp] theorem akC(k:IntKind)(n:Int):AV.one (.int k n)=true:=ag rfl rfl
@[simp] theorem akU(b:Bool):AV.one (.bool b)=true:=ag rfl rfl
@[simp] theorem akI(b:List UInt8):AV.one (.str b)=true:=ag rfl rfl
@[simp] theorem akJ(l:List (List AV)):AV.one (.psl l)=true:=ag rfl rfl
@[simp] theorem akA(a b c d:Nat):AV.one (.rsl a b c d)=true:=ag rfl rfl
@[simp] theorem ajN:AV.one .D=true:=ag rfl rfl
@[simp] theorem akb(h:AH)(n c b:Nat)(x:AV)(e:dG x=true):kSt h n (.ptr c b) x=if x.cells.length=n&&aM x.cells then(match h.E c with|some cs=>(match aP cs b x.cells with|some d=>some (.undef,h.set c (.cells d))|none=>none)|none=>none)else none:=by
 show(if dG x then _ else _)=_
 rw[Z e];rfl
@[simp] theorem ajg(h:AH)(a b:Nat):k_ h (.ptr a b)=some (.ptr a b,h):=ag rfl rfl
@[simp] theorem ajn(h:AH)(k:IntKind)(a b:Int):aG h .eql (.int k a) (.int k b)=some (.bool (a==b),h):=by simp[aG,eG,iq,jf]
@[simp] theorem aju(h:AH)(k:IntKind)(a b:Int):aG h .neq (.int k a) (.int k b)=some (.bool (a != b),h):=by simp[aG,eG,iq,jf]
@[simp] theorem ajq(h:AH)(k:IntKind)(a b:Int):aG h .lss (.int k a) (.int k b)=some (.bool (decide (a<b)),h):=by simp[aG,eG,iq,jf]
@[simp] theorem ajl(h:AH)(k:IntKind)(a b:Int):aG h .leq (.int k a) (.int k b)=some (.bool (decide (a<=b)),h):=by simp[aG,eG,iq,jf]
@[simp] theorem ajo(h:AH)(k:IntKind)(a b:Int):aG h .gtr (.int k a) (.int k b)=some (.bool (decide (b<a)),h):=by simp[aG,eG,iq,jf]
@[simp] theorem aji(h:AH)(k:IntKind)(a b:Int):aG h .geq (.int k a) (.int k b)=some (.bool (decide (b<=a)),h):=by simp[aG,eG,iq,jf]
@[simp] theorem ajf(h:AH)(a b:List UInt8):aG h .eql (.str a) (.str b)=some (.bool (a==b),h):=by simp[aG,eG,xu]
@[simp] theorem aje(h:AH)(a b:List UInt8):aG h .neq (.str a) (.str b)=some (.bool (!(a==b)),h):=by simp[aG,eG,xu]
theorem lW{n:Int}(b : -9223372036854775808<=n)(h2:n<=9223372036854775807):IntKind.i64.wrap n=n:=by
 unfold IntKind.wrap;show(if(true&&decide (n%18446744073709551616>=9223372036854775808))=true then n%18446744073709551616-18446744073709551616 else n%18446744073709551616)=n
 simp only[p5,ck];split<;>omega
@[simp] theorem JQ(h:AH)(a b:Int)(c : -9223372036854775808<=a+b)(h2:a+b<=9223372036854775807):aG h .add (.int .i64 a) (.int .i64 b)=some (.int .i64 (a+b),h):=by simp[aG,eG,iq,jf,lW c h2]
@[simp] theorem G?(h:AH)(a b:Int)(c : -9223372036854775808<=a-b)(h2:a-b<=9223372036854775807):aG h .sub (.int .i64 a) (.int .i64 b)=some (.int .i64 (a-b),h):=by simp[aG,eG,iq,jf,lW c h2]
@[simp] theorem ajb(h:AH)(a b:Int)(c : -9223372036854775808<=a*b)(h2:a*b<=9223372036854775807):aG h .mul (.int .i64 a) (.int .i64 b)=some (.int .i64 (a*b),h):=by simp[aG,eG,iq,jf,lW c h2]
theorem x!(h:AH)(a b:Int)(c:b≠0)(d : -9223372036854775808<=a.tdiv b)(h2:a.tdiv b<=9223372036854775807):aG h .quo (.int .i64 a) (.int .i64 b)=some (.int .i64 (a.tdiv b),h):=by simp[aG,eG,iq,jf,c,lW d h2]
theorem ZN(h:AH)(k:IntKind)(a b:Int)(c:b≠0):aG h .rem (.int k a) (.int k b)=some (.int k (a.tmod b),h):=by simp[aG,eG,iq,jf,c]
@[simp] theorem acv(h:AH)(a:Int)(b : -9223372036854775807<=a)(h2:a<=9223372036854775807):kUn h .neg (.int .i64 a)=some (.int .i64 (-a),h):=by simp[kUn,aun,lW (n:= -a) (by omega) (by omega)]
@[simp] theorem aky(h:AH)(b:Bool):kUn h .not (.bool b)=some (.bool !b,h):=ag rfl rfl
@[simp] theorem ajB(h:AH)(c a b:Bool):oK h c (.bool a) (.bool b)=some (.bool (if c then !(a==b)else a==b),h):=ag rfl rfl
@[simp] theorem akq(h:AH)(c:Bool)(d:List SK)(a b:List AV):nu h c d (.agg a) (.agg b)=match bo d a b with|some r=>some (.bool (if c then !r else r),h)|none=>none:=ag rfl rfl
@[simp] theorem ai_(h:AH)(k b:IntKind)(n:Int):lg h k (.int b n)=some (.int k (k.wrap n),h):=ag rfl rfl
@[simp] theorem ajE(h:AH)(b c o:Nat):gZ h b (.ptr c o)=some (.ptr c (o+b),h):=ag rfl rfl
@[simp] theorem vX{h:AH}{b:Nat}{c:List AV}(d:b<=c.length):gZ h b (.ai c)=some (.ai (c.drop b),h):=by simp[gZ,kC,d]
@[simp] theorem ako(h:AH)(l:List (List AV)):bn h (.psl l)=some (.int .i64 l.length,h):=ag rfl rfl
@[simp] theorem aki(h:AH)(a b c d:Nat):bn h (.rsl a b c d)=some (.int .i64 c,h):=ag rfl rfl
@[simp] theorem ajs(h:AH):bn h .D=some (.int .i64 0,h):=ag rfl rfl
@[simp] theorem aj3(h:AH)(s:List UInt8):mO h (.str s)=some (.int .i64 s.length,h):=ag rfl rfl
@[simp] theorem aj4(h:AH)(v:AV)(b:List AV):ml h (.tup (v::b)) 0=some (v,h):=ag rfl rfl
@[simp] theorem ajw(h:AH)(u v:AV)(b:List AV):ml h (.tup (u::v::b)) 1=some (v,h):=ag rfl rfl
@[simp] theorem akl(h:AH)(t u v:AV)(b:List AV):ml h (.tup (t::u::v::b)) 2=some (v,h):=ag rfl rfl
theorem Pl{n:Nat}{i:Int}(b:0<=i)(h2:i<n)(k:IntKind):aix n (.int k i)=some i.toNat:=by simp[aix,hJ,b,h2]
theorem gQ{h:AH}{z:Nat}{l:List (List AV)}{i:Nat}{c:List AV}(b:l[i]?=some c)(d:c.length=z):aC h z (.psl l) (.int .i64 i)=some (.ai c,h):=by
 have hi:i<l.length:=(aL.1 b).1;have:aix l.length (.int .i64 i)=some i:=by simp[Pl (Int.natCast_nonneg i) (by omega:(i:Int)<l.length)]
 simp[aC,sW,this,b,d]
theorem gO{h:AH}{z id off len:Nat}{i:Int}(b:0<=i)(c:i<len):aC h z (.rsl id off len z) (.int .i64 i)=some (.ptr id (off+i.toNat*z),h):=by
 simp[aC,sW,Pl b c]
mutual
theorem AV.beq_refl:∀(a:AV),AV.beq a a=true
 |.undef |.dh |.D |.esl |.fp |.fX |.bR=>by simp[AV.beq]
 |.bool _ |.int _ _ |.str _ |.ptr _ _ |.c_ _ _ |.rsl _ _ _ _ |.fh _ |.sint _ _ _ _ _ _ |.ly _ _ _ _ _ _ _ _ |.jZ _ _=>by simp[AV.beq]
 |.agg a=>by simp[AV.beq,AV.p_ a]
 |.tup a=>by simp[AV.beq,AV.p_ a]
 |.ai a=>by simp[AV.beq,AV.p_ a]
 |.psl a=>by simp[AV.beq,AV.d! a]
 |.func _ a b=>by simp[AV.beq,AV.p_ a,AV.p_ b]
 |.iface _ a=>by simp[AV.beq,AV.beq_refl a]
theorem AV.p_:∀(a:List AV),AV.jM a a=true
 |[]=>by simp[AV.jM]
 |x::a=>by simp[AV.jM,AV.beq_refl x,AV.p_ a]
theorem AV.d!:∀(a:List (List AV)),AV.qM a a=true
 |[]=>by simp[AV.qM]
 |x::a=>by simp[AV.qM,AV.p_ x,AV.d! a]
end
theorem e?:∀(a:List (AV×AV)),pC a a=true
 |[]=>by simp[pC]
 |(x,y)::a=>by simp[pC,AV.beq_refl,e? a]
theorem Ak(o:Option bg):pP o o=true:=by
 cases o with
 |none=>rfl
 |some o=>cases o<;>simp[pP,AV.p_,e?]
@[simp] theorem akz(b o:Nat):rdv (.ptr b o)=some b:=ag rfl rfl
@[simp] theorem aj6(b:List AV):rdv (.ai b)=none:=ag rfl rfl
@[simp] theorem akr(x:Nat):rdK (some x) =.read x:=ag rfl rfl
@[simp] theorem aj_:rdK none =.pure:=ag rfl rfl
@[simp] theorem aja(y:Rec):bT .pure y=true:=by cases y<;>rfl
@[simp] theorem ai8(y:Rec):bT y .pure=true:=by cases y<;>rfl
@[simp] theorem aiZ(h:AH)(x:Nat):bT (.eff h h) (.read x)=true:=Ak _
@[simp] theorem aiY(h:AH)(x:Nat):bT (.read x) (.eff h h)=true:=Ak _
@[simp] theorem vR(x r:Nat)(b:bg):bT (.read x) (.alloc r b) = !decide (r=x):=by
 show(!Nat.beq r x)=_
 by_cases h:r=x
 ·subst h;simp
 have:Nat.beq r x=false:=by cases c:Nat.beq r x with|false=>rfl|true=>exact absurd (vL c) h
 simp[this,h]
@[simp] theorem aiX(x r:Nat)(b:bg):bT (.alloc r b) (.read x) = !decide (r=x):=vR x r b
@[simp ↓] theorem ajH(r:Nat)(h:AH)(b:bg)(mk:Nat->AV)(k:AV->Rec->AH->Prop):wda r h (some (b,mk)) k=k (mk r) (.alloc r b) (h.set r b):=ag rfl rfl
@[simp] theorem ajI(b:List AV):zf b=some (.cells b,λr=>.ptr r 0):=ag rfl rfl
@[simp] theorem ai0(z c:Nat)(b:List AV)(d:List (Nat×Nat×AV)):ij z c b d=match aQ b d with|some cs=>some (.cells cs,λr=>.rsl r 0 c z)|none=>none:=ag rfl rfl
@[simp] theorem akW(h:AH)(n a b:Bool):Frz h n (.bool a) (.bool b)↔a=b:=⟨λh=>by cases h;rfl,λh=>by subst h;exact .bool _⟩
@[simp] theorem akG(h:AH)(n:Bool)(k:IntKind)(a b:Int):Frz h n (.int k a) (.int k b)↔a=b:=⟨λh=>by cases h;rfl,λh=>by subst h;exact .int _ _⟩
def bU(h:AH)(n:Bool):List AV->List AV->Prop
 |[],[]=>True
 |c::cs,d::ds=>Frz h n c d/\bU h n cs ds
 |_,_=>False
theorem dW(h:AH)(n:Bool):∀(cs ds:List AV),bU h n cs ds↔(cs.length=ds.length/\∀(i:Nat) (c d:AV),cs[i]?=some c->ds[i]?=some d->Frz h n c d)
 |[],[]=>by simp[bU]
 |[],d::ds=>by simp[bU]
 |c::cs,[]=>by simp[bU]
 |c::cs,d::ds=>by
  simp only[bU,dW h n cs ds,aF];constructor
  ·rintro⟨f,h2,g⟩;refine⟨by omega,λi x y b e=>?_⟩;cases i with
   |zero=>simp at b e;subst b;subst e;exact f
   |succ i=>simp at b e;exact g i x y b e
  rintro⟨f,h2⟩;exact⟨h2 0 c d (by simp) (by simp),by omega,λi x y b e=>h2 (i+1) x y (by simpa using b) (by simpa using e)⟩
@[simp] theorem aj9(h:AH)(n:Bool):bU h n [] []=True:=ag rfl rfl
@[simp] theorem ajX(h:AH)(n:Bool)(c d:AV)(b ds:List AV):bU h n (c::b) (d::ds)=(Frz h n c d/\bU h n b ds):=ag rfl rfl
@[simp] theorem akH(h:AH)(n:Bool)(b ds:List AV):Frz h n (.agg b) (.agg ds)↔bU h n b ds:=by
 rw[dW];exact⟨λc=>by cases c with|agg _ _ d e=>exact⟨d,e⟩,fun⟨f,h2⟩=>.agg _ _ f h2⟩
@[simp] theorem akK(h:AH)(n:Bool)(b ds:List AV):Frz h n (.tup b) (.tup ds)↔bU h n b ds:=by
 rw[dW];exact⟨λc=>by cases c with|tup _ _ d e=>exact⟨d,e⟩,fun⟨f,h2⟩=>.tup _ _ f h2⟩
@[simp] theorem akL(h:AH)(n:Bool)(a b:List UInt8):Frz h n (.str a) (.str b)↔a=b:=⟨λh=>by cases h;rfl,λh=>by subst h;exact .str _⟩
open Go.RowKit
theorem aa7{V C:AH}{x:Nat}(h:V.H.get x=C.H.get x):bT (.read x) (.eff V C)=true:=by
 show pP _ _=true
 rw[h];exact Ak _
@[simp] theorem kM(h:AH)(x j:Nat)(o:bg)(b:x≠j):bT (.read x) (.eff h (h.set j o))=true:=aa7 (by rw[dQ,O b])
theorem VR.aib{own:Nat->Prop}{β:Bl}{h hg:AH}{nx:Nat}{w:World}(hs:aB own β h.H nx w)(W:∀i o,hg.H.get i=some o->h.H.get i=some o){L2:Nat->Prop}{β2:Bl}{n:Bool}(h1:∀b,live β hg.H b->¬L2 b)(h2:n=false->∀b,¬LL own β h.H b->¬L2 b)
  {a a':AV} (hf:Frz hg n a a'):∀ {v:Value},VR w.heap (LL own β h.H) β a v->VR w.heap L2 β2 a' v:=by
 induction hf with
 |undef a=>intro v f;exact .undef v
 |bool b=>intro v f;cases f;exact .bool b
 |int k m=>intro v f;cases f;exact .int k m
 |str s=>intro v f;cases f;exact .str s
 |dh=>intro v f;cases f;exact .dh
 |fX=>intro v f;cases f;exact .fX
 |bR=>intro v f;cases f;exact .bR
 |fp=>intro v f;cases f;exact .fp
 |fo=>intro v f;cases f;exact .D
 |D=>intro v f;cases f;exact .eu _ _
 |esl0=>intro v f;cases f;exact .esl _
 |esl=>intro v f;cases f;exact .eu _ _
 |c_ g o=>intro v f;cases f;exact .c_ g o
 |agg cs ds r hc C=>
  intro v f;cases f with
  |agg _ vs G f=>
   refine .agg ds vs (r▸G) λi d v q p=>?_
   obtain⟨c,l⟩:=kO r q;exact C i c d l q (f i c v l p)
 |tup cs ds r hc C=>
  intro v f;cases f with
  |tup _ vs G f=>
   refine .tup ds vs (r▸G) λi d v q p=>?_
   obtain⟨c,l⟩:=kO r q;exact C i c d l q (f i c v l p)
 |eu=>intro v f;cases f<;>exact .eu _ _
 |psl hn xs ys r hx hc C=>
  intro v f;cases f with
  |eu a cap=>cases ys with
   |nil=>exact .eu a cap
   |cons y ys=>simp at r
  |psl _ z b o cap cur e fz U hL L hz N f=>
   rw[r];refine .psl ys z b o cap cur e fz U (h2 hn b hL) (r▸L) (λi y V=>?_) (r▸N) λi y j d v V q p=>?_
   ·obtain⟨x,J⟩:=kO r V;rw[<-hx i x y J V];exact hz i x J
   obtain⟨x,J⟩:=kO r V;obtain⟨c,l⟩:=kO (hx i x y J V) q;exact C i x y j c d J V l q (f i x j c v J l p)
 |ai hn cs ds r hc C=>
  intro v f;cases f with
  |ai _ b o cur e fz U hL L f=>
   refine .ai ds b o cur e fz U (h2 hn b hL) (r▸L) λi d v q p=>?_
   obtain⟨c,l⟩:=kO r q;exact C i c d l q (f i c v l p)
 |rsl id off z cs ys ho L hz hc C=>
  intro v f;obtain⟨b,base,U,af,cur,e,B,aj,u⟩:=hs.obj id _ (W _ _ (rz ho));have A:live β hg.H b:=⟨id,_,base,rz ho,U⟩;generalize hlen:ys.length=len at f;cases f with
  |rsl _ _ _ _ b' Q cap ao e' ar K S N hm av=>
   rw[U]at K;cases K;rw[B]at S;cases S;subst hlen;refine .psl ys z b (base+off) cap cur e (0,0) B (h1 b A) (by omega) hz N λi y j d v V q p=>?_
   have hi:i<ys.length:=(aL.1 V).1;have hj:j<z:=by rw[<-hz i y V];exact(aL.1 q).1
   have aw:i*z+z<=ys.length*z:=by
    have:=kJ z (show i+1<=ys.length by omega);rw[oO]at this;exact this
   have M:off+i*z+j<cs.length:=by omega
   exact C i y j cs[off+i*z+j] d V q (by simp[M]) (u (off+i*z+j) _ v (by simp[M]) (by rw[<-p];congr 1;omega))
  |gi _ _ _ b' Q o K=>
   cases ys with
   |nil=>exact .eu _ _
   |cons y ys=>simp at hlen
 |ptr id off cs ds ho L hc C=>
  intro v f;obtain⟨b,base,U,af,cur,e,B,aj,u⟩:=hs.obj id _ (W _ _ (rz ho));have A:live β hg.H b:=⟨id,_,base,rz ho,U⟩;cases f with
  |ptr _ _ b' Q K=>
   rw[U]at K;cases K;refine .ai ds b (base+off) cur e (0,0) B (h1 b A) (by omega) λi d v q p=>?_
   have hi:i<ds.length:=(aL.1 q).1;have M:off+i<cs.length:=by omega
   exact C i cs[off+i] d (by simp[M]) q (u (off+i) _ v (by simp[M]) (by rw[<-p];congr 1;omega))
 |func fn f1 c1 f2 c2 ad G g1 g2 al an=>
  intro v f;cases f with
  |func _ _ _ u1 u2 k1 k2 q1 q2=>
   refine .func fn f2 c2 u1 u2 (ad▸k1) (G▸k2) (λi d v q p=>?_) (λi d v q p=>?_)
   ·obtain⟨c,l⟩:=kO ad q;exact al i c d l q (q1 i c v l p)
   obtain⟨c,l⟩:=kO G q;exact an i c d l q (q2 i c v l p)
 |iface t a b U C=>
  intro v f;cases f with
  |iface _ _ v f=>exact .iface t b v (C f)
def X8(h:AH)(n b:Nat):Nat->AH
 |0=>h.kill b
 |k+1=>(X8 h n b k).kill k
def iX(h:AH)(n b:Nat):AH:=X8 h n b n
theorem bU.app{h:AH}{n:Bool}{a b c d:List AV}(e:bU h n a b)(h2:bU h n c d):bU h n (a++c) (b++d):=by
 rw[dW]at e h2 ⊢;refine⟨by simp[e.1,h2.1],λi x y f g=>?_⟩;by_cases hi:i<a.length
 ·rw[lF hi]at f;rw[lF (by have:=e.1;omega)]at g;exact e.2 i x y f g
 rw[iZ (by omega)]at f;rw[iZ (by have:=e.1;omega),<-e.1]at g;exact h2.2 _ x y f g
theorem VR.sK{hp U:Array Obj}{L L' V:Nat->Prop}{β β0 β':Bl}(hβ:∀id x,β id=some x->β' id=β0 id)(hL:∀b,V b->L' b){c:AV}{v0:Value}(h0:VR hp L β c v0):∀ {v:Value},VR U L' β0 c v->VR U V β' c v:=by
 induction h0 with
 |undef v=>intro v _;exact .undef v
 |bool b=>intro v f;cases f;exact .bool b
 |int k n=>intro v f;cases f;exact .int k n
 |str s=>intro v f;cases f;exact .str s
 |agg cs W hlen h C=>
  intro v f;cases f with
  |agg _ us G hu=>
   refine .agg cs us G λi c u A h2=>?_
   obtain⟨x,H⟩:=kO (l:=W.toList) (m:=cs) (by simpa using hlen.symm) A;exact C i c x A (by simpa using H) (hu i c u A h2)
 |tup cs W hlen h C=>
  intro v f;cases f with
  |tup _ us G hu=>
   refine .tup cs us G λi c u A h2=>?_
   obtain⟨x,H⟩:=kO (l:=W.toList) (m:=cs) (by simpa using hlen.symm) A;exact C i c x A (by simpa using H) (hu i c u A h2)
 |ptr id off b base h=>
  intro v f;cases f with
  |ptr _ _ b2 d h2=>exact .ptr id off b2 d ((hβ id _ h).trans h2)
 |dh=>intro v f;cases f;exact .dh
 |ai cs b o cur e fz hb ad hs h C=>
  intro v f;cases f with
  |ai _ b2 o2 p J y K M N h2=>
   refine .ai cs b2 o2 p J y K (λG=>M (hL _ G)) N λi c u B S=>?_
   have hi:i<cs.length:=(aL.1 B).1;exact C i c cur[o+i] B (by simp[show o+i<cur.size by omega]) (h2 i c u B S)
 |c_ g off=>intro v f;cases f;exact .c_ g off
 |D=>intro v f;cases f;exact .D
 |esl a=>intro v f;cases f;exact .esl _
 |eu a cap=>intro v f;cases f<;>exact .eu _ _
 |psl xs z b o cap cur e fz hb ad hs hz ar h C=>
  intro v f;cases f with
  |eu a cap=>exact .eu _ _
  |psl _ z2 b2 o2 q p J y K M N af Q h2=>
   refine .psl xs z2 b2 o2 q p J y K (λG=>M (hL _ G)) N af Q λi x j c u B S h5=>?_
   have hi:i<xs.length:=(aL.1 B).1;have hj:j<z:=by rw[<-hz i x B];exact(aL.1 S).1
   have av:i*z+z<=xs.length*z:=by
    have:=kJ z (show i+1<=xs.length by omega);rw[oO]at this;exact this
   exact C i x j c cur[o+i*z+j] B S (by simp[show o+i*z+j<cur.size by omega]) (h2 i x j c u B S h5)
 |rsl id off len z b base cap cur e fz h hb hc hm hs=>
  intro v f;cases f with
  |rsl _ _ _ _ b2 d q p J y g1 g2 g3 g4 g5=>exact .rsl id off len z b2 d q p J y ((hβ id _ h).trans g1) g2 g3 g4 g5
  |gi _ _ _ b2 d o g1=>exact .gi id off z b2 d o ((hβ id _ h).trans g1)
 |gi id off z b base o h=>
  intro v f;cases f with
  |rsl _ _ _ _ b2 d q p J y g1 g2 g3 g4 g5=>exact .rsl id off 0 z b2 d q p J y ((hβ id _ h).trans g1) g2 g3 g4 g5
  |gi _ _ _ b2 d o g1=>exact .gi id off z b2 d o ((hβ id _ h).trans g1)
 |fh id b base h=>
  intro v f;cases f with
  |fh _ b2 d h2=>exact .fh id b2 d ((hβ id _ h).trans h2)
 |fp=>intro v f;cases f;exact .fp
 |func fn f1 c1 f2 c2 aj al A h2 an ao=>
  intro v f;cases f with
  |func _ _ _ u1 u2 k1 k2 q1 q2=>
   refine .func fn f1 c1 u1 u2 k1 k2 (λi c u g1 g2=>?_) (λi c u g1 g2=>?_)
   ·obtain⟨x,H⟩:=kO (l:=f2.toList) (m:=f1) (by simpa using aj.symm) g1;exact an i c x g1 (by simpa using H) (q1 i c u g1 g2)
   obtain⟨x,H⟩:=kO (l:=c2.toList) (m:=c1) (by simpa using al.symm) g1;exact ao i c x g1 (by simpa using H) (q2 i c u g1 g2)
 |fX=>intro v f;cases f;exact .fX
 |bR=>intro v f;cases f;exact .bR
 |iface t a v0 h C=>
  intro v f;cases f with
  |iface _ _ v h2=>exact .iface t a v (C h2)
 |sint k m i c lo hi b base h A h2=>
  intro v f;cases f with
  |sint _ _ _ _ _ _ b2 d g g1 g2=>exact .sint k m i c lo hi b2 d ((hβ i _ h).trans g) g1 g2
 |ly k m r i j l lo hi b1 n1 b2 n2 b3 A h2 B q1 q2 q3 q4=>
  intro v f;cases f with
  |ly _ _ _ _ _ _ _ _ c1 m1 c2 m2 c3 g1 g2 g3 p1 p2 p3 p4=>exact .ly k m r i j l lo hi c1 m1 c2 m2 c3 ((hβ i _ A).trans g1) ((hβ j _ h2).trans g2) ((hβ l _ B).trans g3) p1 p2 p3 p4
 |jZ k rs n h=>
  intro v f;cases f with
  |jZ _ _ n2 h2=>exact .jZ k rs n2 h2
def vl(h:AH):Nat->AH
 |0=>h
 |k+1=>(vl h k).kill k
theorem Nb(h:AH):∀(k i:Nat),(vl h k).H.get i=if i<k then none else h.H.get i
 |0,i=>by simp[vl]
 |k+1,i=>by
  show((vl h k).kill k).H.get i=_
  rw[my,Nb h k i];by_cases b:i=k
  ·subst b;simp
  rw[O b];by_cases h2:i<k
  ·rw[Z h2,Z (by omega)]
  rw[O h2,O (by omega)]
def fresh(h:AH)(n:Nat):AH:=vl h n
theorem J8(h:AH)(n i:Nat):(fresh h n).H.get i=if i<n then none else h.H.get i:=Nb h n i
theorem tX{h:AH}{n i:Nat}(b:n<=i):(fresh h n).E i=h.E i:=by
 refine aV ?_;rw[J8,O (by omega)]
def air(h b g:AH)(i:Nat):Prop:=
 (g.H.get i=h.H.get i/\b.H.get i=h.H.get i)\/∃cs1 cs2,b.H.get i=some (.cells cs1)/\g.H.get i=some (.cells cs2)/\bU (fresh b h.nx) false cs1 cs2
theorem OR.sK{B n:Array Obj}{L z p:Nat->Prop}{β β0 β':Bl}(hβ:∀id x,β id=some x->β' id=β0 id)(m:∀b,p b->z b){C j b k:Nat}{o:bg}(r:OR B L β C j o)(h:OR n z β0 b k o):OR n p β' b k o:=by
 cases o with
 |cells cs=>
  obtain⟨d,G,_,k2,l⟩:=r;obtain⟨cur,e,q1,q2,q3⟩:=h;refine⟨cur,e,q1,q2,λi c v f h2=>?_⟩;have hi:i<cs.length:=(aL.1 f).1;exact(l i c d[j+i] f (by simp[show j+i<d.size by omega])).sK hβ m (q3 i c v f h2)
 |map y=>
  obtain⟨_,q,_,k2,l⟩:=r;obtain⟨H,es,q1,q2,q3⟩:=h;refine⟨H,es,q1,q2,λi A e f h2=>?_⟩;have hi:i<y.length:=(aL.1 f).1;obtain⟨m1,m2,_⟩:=l i A q[i] f (by simp[show i<q.size by omega]);obtain⟨p1,p2,p3⟩:=q3 i A e f h2;exact⟨m1.sK hβ m p1,m2.sK hβ m p2,p3⟩
 |pG s pos=>exact h
 |typ t cs=>
  obtain⟨_,d,_,k2,l⟩:=r;obtain⟨u,cur,q1,q2,q3⟩:=h;refine⟨u,cur,q1,q2,λi c v f h2=>?_⟩;have M:=k2.1;have hi:i<cs.length:=(aL.1 f).1;exact(l i c d[i] f (by simp[show i<d.size by omega])).sK hβ m (q3 i c v f h2)
 |dN g cs=>
  obtain⟨_,_,d,G,K,_,k2,l⟩:=r;obtain⟨u,a2,cur,e,J,q1,q2,q3⟩:=h;refine⟨u,a2,cur,e,J,q1,q2,λi c v f h2=>?_⟩;have hi:i<cs.length:=(aL.1 f).1;exact(l i c d[i] f (by simp[show i<d.size by omega])).sK hβ m (q3 i c v f h2)
theorem DZ{P:Program}{f:Nat}{z:List AV}{h g:AH}{v:AV}{R:AV->AH->Prop}(hc:ah P f z h R)(aS:g.nx=h.nx)(hg:∀i,h.nx<=i->g.H.get i=h.H.get i)
  (hR:∀v' h',R v' h'->Frz (fresh h' h.nx) false v' v/\∀i,i<h.nx->air h h' g i):ab P f z h v g:=by
 refine⟨hc.1,λown β w B hs ad=>(hc.2 own β w B hs ad).mono ?_⟩;rintro e w' ⟨cv,v0,q,β0,rfl,hq,d,af,r⟩;obtain⟨aj,hk⟩:=hR v0 q hq;have C:∀i,h.nx<=i->g.H.get i=none:=λi hi=>by
  rw[hg i hi];cases hh:h.H.get i with
  |none=>rfl
  |some o=>obtain⟨b,base,J,_⟩:=hs.obj i o hh;rw[hs.fresh i hi]at J;cases J
 obtain⟨β',hβ'⟩:∃β':Bl,β'=λi=>if i<h.nx then β0 i else none:=⟨_,rfl⟩
 have k:∀i,i<h.nx->β' i=β0 i:=λi hi=>by rw[hβ'];simp[hi]
 have N:∀i,h.nx<=i->β' i=none:=λi hi=>by rw[hβ'];simp[show ¬i<h.nx by omega]
 have V:∀id x,β id=some x->id<h.nx:=λid x A=>Nat.lt_of_not_le λhle=>by rw[hs.fresh id hle]at A;cases A
 have hβ:∀id x,β id=some x->β' id=β0 id:=λid x A=>k id (V id x A)
 have m:∀i o,g.H.get i=some o->i<h.nx/\∃o2,q.H.get i=some o2:=λi o L=>by
  have hi:i<h.nx:=Nat.lt_of_not_le λhle=>by rw[C i hle]at L;cases L
  refine⟨hi,?_⟩;rcases hk i hi with⟨k1,k2⟩|⟨al,an,k1,_,_⟩
  ·exact⟨o,by rw[k2,<-k1];exact L⟩
  exact⟨_,k1⟩
 have Q:∀b,live β' g.H b->∃i o n,i<h.nx/\q.H.get i=some o/\β0 i=some (b,n):=by
  rintro b ⟨i,o,n,l,h2⟩;obtain⟨hi,o2,ao⟩:=m i o l;rw[k i hi]at h2;exact⟨i,o2,n,hi,ao,h2⟩
 have p:∀b,live β' g.H b->live β0 q.H b:=λb J=>let⟨i,o,n,_,l,h2⟩:=Q b J;⟨i,o,n,l,h2⟩
 have hL:∀b,LL own β' g.H b->LL own β0 q.H b:=λb J=>J.imp_right (p b)
 have W:∀i o,(fresh q h.nx).H.get i=some o->q.H.get i=some o:=λi o hi=>by
  rw[J8]at hi;split at hi
  ·cases hi
  exact hi
 have G:∀b,live β0 (fresh q h.nx).H b->¬LL own β' g.H b:=by
  rintro b ⟨i,o,n,l,h2⟩ s;rw[J8]at l;split at l
  ·cases l
  rename_i hi;rcases s with L|s
  ·obtain⟨b2,av,k1,k2,_⟩:=d.obj i o l;rw[h2]at k1;cases k1;exact k2 L
  obtain⟨j,o2,ar,hj,K,h4⟩:=Q b s;have:=d.inj i j o o2 b n ar l K h2 h4;omega
 have S:∀ {a a':AV} {u:Value},Frz (fresh q h.nx) false a a'->VR w'.heap (LL own β0 q.H) β0 a u->VR w'.heap (LL own β' g.H) β' a' u:=
  λM hu=>VR.aib d W G (λ_ b hn s=>hn (hL b s)) M hu
 have hS:aB own β' g.H g.nx w':=by
  refine⟨λi hi=>N i (by omega),λi b n hi=>?_,d.iU,λi o t=>?_,λi j o o' b x y l h2 K h4=>?_⟩
  ·by_cases l:i<h.nx
   ·rw[k i l]at hi;exact d.lt i b n hi
   rw[N i (by omega)]at hi;cases hi
  ·obtain⟨hi,_⟩:=m i o t;rcases hk i hi with⟨k1,k2⟩|⟨al,an,k1,k2,k3⟩
   ·have hh:h.H.get i=some o:=k1▸t;obtain⟨b0,aw,p1,p2,p3⟩:=hs.obj i o hh;obtain⟨b,n,q1,q2,q3⟩:=d.obj i o (k2.trans hh);exact⟨b,n,(k i hi).trans q1,q2,OR.sK hβ hL p3 q3⟩
   rw[k2]at t;cases t;obtain⟨b,n,q1,q2,cur,et,r1,r2,r3⟩:=d.obj i _ k1;have M:=(dW _ _ _ _).1 k3;refine⟨b,n,(k i hi).trans q1,q2,cur,et,r1,by rw[<-M.1];exact r2,λj c u m1 m2=>?_⟩;obtain⟨c0,U⟩:=kO M.1 m1;exact S (M.2 j c0 c U m1) (r3 j c0 u U m2)
  obtain⟨i1,o1,p1⟩:=m i o l;obtain⟨j1,o2,p2⟩:=m j o' h2;rw[k i i1]at K;rw[k j j1]at h4;exact d.inj i j o1 o2 b x y p1 p2 K h4
 refine⟨cv,v,g,β',rfl,⟨rfl,rfl⟩,hS,S aj af,⟨λid x A=>?_,λid hid=>?_,by omega,r.size,r.aY,λb s=>r.live b (p b s),λb cur e fz hc=>let⟨c,f,l,h2,K⟩:=r.shape b cur e fz hc;⟨c,f,l,h2,λs=>K (p b s)⟩,r.os,r.tape,r.output⟩⟩
 ·rw[hβ id x A];exact r.ext id x A
 rw[k id hid];exact r.low id hid
theorem ab5{P:Program}{f:Nat}{b:List AV}{h:AH}{v:AV}{R:AV->AH->Prop}(j:ah P f b h R)
  (e:∀d c,R d c->Frz (fresh c h.nx) false d v/\∀i,i<h.nx->c.H.get i=h.H.get i):ab P f b h v h:=
 DZ j rfl (λ_ _=>rfl) λd c g=>⟨(e d c g).1,λi hi=>.inl ⟨rfl,(e d c g).2 i hi⟩⟩
