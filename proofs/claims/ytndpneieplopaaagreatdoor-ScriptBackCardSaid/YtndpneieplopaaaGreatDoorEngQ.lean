/- The abstract interpreter: regions that draw their order, code, functions. -/
import Derived.Test.YtndpneieplopaaaGreatDoorEngK
set_option linter.unusedSimpArgs false
set_option linter.unusedVariables false
noncomputable section
namespace Go.Eng
def Opd.use:Opd->List Nat
 |.tmp t=>[t]
 |.const _=>[]
def yR:Option Opd->List Nat
 |some x=>x.use
 |none=>[]
def tr:List Opd->List Nat
 |[]=>[]
 |x::r=>x.use++tr r
def El:List (Nat×Nat×Opd)->List Nat
 |[]=>[]
 |(_,_,x)::r=>x.use++El r
def AOp.mN:AOp->List Nat
 |.mov x |.box x |.ld1 x |.ldn _ x |.CK x |.un _ x |.Mw _ x |.fld _ _ x |.abw _ x |.len x |.Xq x |.Ur x |.ext x _=>x.use
 |.pick c a b=>c.use++a.use++b.use
 |.new _ |.agc _=>[]
 |.build _ ps |.aqu _ _ _ ps=>El ps
 |.st _ x y |.arith _ x y |.eqs _ x y |.eqn _ _ x y |.eqf _ _ x y |.abB _ x y |.uU _ _ x y |.idx _ _ _ x y |.Xo x y |.app _ _ x y |.copy _ x y |.Ut _ x y |.Uu _ _ _ x y=>x.use++y.use
 |.sl _ x lo hi mx=>x.use++yR lo++yR hi++yR mx
 |.slS x lo hi=>x.use++yR lo++yR hi
 |.mkf _ f c=>tr f++tr c
 |.call f as=>f.use++tr as
 |.xo _ as=>tr as
 |.stuck=>[]
def aY.mN(o:aY):List Nat:=
 match o.guard with
 |some (t,_)=>t::o.op.mN
 |none=>o.op.mN
def xE:XK->Bool
 |.CM _ _ _ |.CJ |.xH |.NU _ _ |.ym _ |.i2s |.s2b |.arH _ |.b2s |.r2s=>false
 |_=>true
def aE:AOp->Bool
 |.st _ _ _ |.app _ _ _ _ |.copy _ _ _ |.call _ _=>true
 |.xo k _=>xE k
 |_=>false
def xRd:XK->List AV->Option Nat
 |.CM _ _ _,.jR id::_=>some id
 |.CJ,.jR id::_=>some id
 |.b2s,.rsl id _ _ _::_=>some id
 |.r2s,.rsl id _ _ _::_=>some id
 |_,_=>none
def aRd(T:Tm):AOp->Option Nat
 |.ld1 a |.ldn _ a=>match a.ev T with
  |.ptr id _=>some id
  |.fY g _=>some g
  |_=>none
 |.xo k as=>xRd k (as.map (·.ev T))
 |_=>none
inductive Rec where
 |pure
 |read (x:Nat)
 |alloc (r:Nat) (ob:dx)
 |eff (V C:AH)
structure bR where
 T:Tm
 h:AH
 v:AV
 k:Rec
def bR.h'(s:bR):AH:=
 match s.k with
 |.pure |.read _=>s.h
 |.alloc r ob=>⟨s.h.H.put r ob,s.h.nx⟩
 |.eff _ C=>C
def nX(cl:cI)(o:aY)(r:Nat)(T:Tm)(h:AH):Option bR:=
 match gd T o.guard with
 |some false=>some ⟨T,h,eX,.pure⟩
 |some true=>
  if aA o.op then match eg T o.op with
   |some (cs,mk)=>some ⟨T,h,mk r,.alloc r cs⟩
   |none=>none
  else match aop cl T h o.op with
   |some (v,h')=>
    if aE o.op then(if Nat.ble h.nx h'.nx then some ⟨T,h,v,.eff h h'⟩else none)
    else match aRd T o.op with
     |some x=>some ⟨T,h,v,.read x⟩
     |none=>some ⟨T,h,v,.pure⟩
   |none=>none
 |none=>none
def Ps(cl:cI):List aY->Nat->Tm->AH->Option (List bR×Tm×AH)
 |[],_,T,h=>some ([],T,h)
 |o::l,r,T,h=>match nX cl o r T h with
  |some s=>match Ps cl l (r+1) (lh T o.dst s.v) s.h' with
   |some (ss,T',h')=>some (s::ss,T',h')
   |none=>none
  |none=>none
mutual
def AV.beq:AV->AV->Bool
 |.undef,.undef=>true
 |.bool a,.bool b=>a==b
 |.int k a,.int l b=>decide (k=l)&&a==b
 |.str a,.str b=>a==b
 |.agg a,.agg b=>AV.pU a b
 |.tup a,.tup b=>AV.pU a b
 |.ptr a b,.ptr c d=>a==c&&b==d
 |.dS,.dS=>true
 |.lz a,.lz b=>AV.pU a b
 |.fY a b,.fY c d=>a==c&&b==d
 |.aa,.aa=>true
 |.esl,.esl=>true
 |.psl a,.psl b=>AV.tI a b
 |.rsl a b c d,.rsl e f g i=>a==e&&b==f&&c==g&&d==i
 |.jR a,.jR b=>a==b
 |.dP,.dP=>true
 |.func f a b,.func g c d=>decide (f=g)&&AV.pU a c&&AV.pU b d
 |.dt,.dt=>true
 |.gf,.gf=>true
 |.iface t a,.iface u b=>t==u&&AV.beq a b
 |.sX k m r i j l lo hi,.sX k' m' r' i' j' l' lo' hi'=>decide (k=k')&&m==m'&&r==r'&&i==i'&&j==j'&&l==l'&&lo==lo'&&hi==hi'
 |.sint k m i c lo hi,.sint k' m' i' c' lo' hi'=>decide (k=k')&&m==m'&&i==i'&&c==c'&&lo==lo'&&hi==hi'
 |.qJ k rs,.qJ k' rs'=>decide (k=k')&&decide (rs=rs')
 |_,_=>false
def AV.pU:List AV->List AV->Bool
 |[],[]=>true
 |a::as,b::bs=>AV.beq a b&&AV.pU as bs
 |_,_=>false
def AV.tI:List (List AV)->List (List AV)->Bool
 |[],[]=>true
 |a::as,b::bs=>AV.pU a b&&AV.tI as bs
 |_,_=>false
end
def q_:List (AV×AV)->List (AV×AV)->Bool
 |[],[]=>true
 |(a,b)::r,(c,d)::s=>AV.beq a c&&AV.beq b d&&q_ r s
 |_,_=>false
def Di:Option dx->Option dx->Bool
 |none,none=>true
 |some (.cells a),some (.cells b)=>AV.pU a b
 |some (.map a),some (.map b)=>q_ a b
 |some (.aqv s p),some (.aqv t q)=>s.data.toList==t.data.toList&&p==q
 |some (.iq g a),some (.iq k b)=>g==k&&AV.pU a b
 |some (.typ g a),some (.typ k b)=>g==k&&AV.pU a b
 |_,_=>false
def C0(t:Nat):List Nat->Bool
 |[]=>false
 |x::r=>Nat.beq t x||C0 t r
def AW(d:Option Nat)(l:List Nat):Bool:=
 match d with
 |some t=> !C0 t l
 |none=>true
def l8(x y:aY):Bool:=
 AW x.dst y.mN&&AW y.dst x.mN&&(match x.dst,y.dst with|some a,some b=> !Nat.beq a b|_,_=>true)
def aU:Rec->Rec->Bool
 |.eff _ _,.eff _ _=>false
 |.alloc _ _,.eff _ _=>false
 |.alloc r _,.read x=> !Nat.beq r x
 |.read x,.alloc r _=> !Nat.beq r x
 |.read x,.eff V C=>Di (V.H.get x) (C.H.get x)
 |.eff V C,.read x=>Di (V.H.get x) (C.H.get x)
 |_,_=>true
def JC(o:aY)(bits:Nat)(s:bR):Nat->List (aY×bR)->Bool
 |_,[]=>true
 |i,(p,q)::r=>(Nat.testBit bits i||(l8 p o&&aU q.k s.k))&&JC o bits s (i+1) r
def uJ:List (aY×Nat)->List bR->List (aY×bR)->Bool
 |[],_,_=>true
 |(o,bits)::l,s::ss,acc=>JC o bits s 0 acc&&uJ l ss (acc++[(o,s)])
 |_::_,[],_=>false
def OP(cl:cI)(ops:List (aY×Nat))(T:Tm)(h:AH):Option (Tm×AH):=
 match Ps cl (ops.map (·.1)) h.nx T ⟨h.H,h.nx+ops.length⟩with
 |some (ss,T',h')=>if uJ ops ss []then some (T',h')else none
 |none=>none
inductive apg where
 |skip
 |reg (ops:List aY)
 |draw (ops:List (aY×Nat))
 |seq (a b:apg)
 |cond (c:Opd) (t e:apg)
 |block (id:Nat) (b:apg)
 |loop (b:apg)
 |exit (id:Nat)
 |ret
 |stuck
 |rng (g:Opd) (ps:List Nat) (a b:apg)
 deriving Inhabited
inductive AX where
 |nrm
 |exit (id:Nat)
 |ret
 deriving DecidableEq
abbrev Z8:=Tm->AH->Option (AX×Tm×AH)
def DT(f:Z8):Nat->Z8
 |0,_,_=>none
 |n+1,T,h=>match f T h with
  |some (.nrm,T',h')=>DT f n T' h'
  |r=>r
def fZ(cl:cI)(N:Nat):apg->Z8
 |.skip=>λT h=>some (.nrm,T,h)
 |.reg ops=>λT h=>match MH cl ops T h with
  |some (T',h')=>some (.nrm,T',h')
  |none=>none
 |.draw ops=>λT h=>match OP cl ops T h with
  |some (T',h')=>some (.nrm,T',h')
  |none=>none
 |.seq a b=>λT h=>match fZ cl N a T h with
  |some (.nrm,T',h')=>fZ cl N b T' h'
  |r=>r
 |.cond c t e=>λT h=>match c.ev T with
  |.bool true=>fZ cl N t T h
  |.bool false=>fZ cl N e T h
  |_=>none
 |.block id b=>λT h=>match fZ cl N b T h with
  |some (.exit j,T',h')=>if j=id then some (.nrm,T',h')else some (.exit j,T',h')
  |r=>r
 |.loop b=>λT h=>DT (fZ cl N b) N T h
 |.exit id=>λT h=>some (.exit id,T,h)
 |.ret=>λT h=>some (.ret,T,h)
 |.stuck=>λ_ _=>none
 |.rng _ _ _ _=>λ_ _=>none
def HC:List (aY×Nat)->Nat->List Nat->Bool
 |[],_,_=>false
 |(o,bits)::r,i,als=>(aE o.op&&als.any (λk=> !Nat.testBit bits k))||HC r (i+1) (cond (aA o.op) (i::als) als)
def AA(n:Nat):List (aY×Nat)->Nat->List Nat->List Nat
 |[],_,out=>out++(List.range n).filter (λk=> !C0 k out)
 |(o,bits)::r,i,out=>cond (aE o.op) (let o1:=out++(List.range n).filter (λk=>Nat.testBit bits k && !C0 k out)
   AA n r (i+1) (cond (C0 i o1) o1 (o1++[i]))) (AA n r (i+1) out)
def vc(p:List Nat)(bits:Nat):List Nat->Nat->Nat
 |[],s=>s
 |j::js,s=>vc p bits js (cond (Nat.testBit bits (p.getD j 0)) (s ||| 2^j) s)
def Ao(l:List (aY×Nat))(p:List Nat):Bool:=
 (List.range l.length).all λi=>Nat.blt (p.getD i 0) l.length&&(List.range l.length).any (λj=>Nat.beq (p.getD j 0) i) &&
  (List.range l.length).all λj=>(Nat.beq i j || !Nat.beq (p.getD i 0) (p.getD j 0))&&(!Nat.testBit ((l.getD (p.getD i 0) default).2) (p.getD j 0)||Nat.blt j i)
def ze(l:List (aY×Nat))(p:List Nat):List (aY×Nat):=
 (List.range l.length).map λi=>((l.getD (p.getD i 0) default).1,vc p (l.getD (p.getD i 0) default).2 (List.range l.length) 0)
def Nq:aY->Bool
 |⟨_,.st _ _ _,none⟩=>true
 |_=>false
def yD:List (aY×Nat)->Nat->Nat->Nat
 |[],_,m=>m
 |(o,_)::r,i,m=>cond (Nat.beq r.length 0) m (yD r (i+1) (cond (aE o.op) i m))
def ah_(l:List (aY×Nat)):Bool:=
 cond (Nat.blt (yD l 0 l.length+2) l.length) (cond (Nq (l.getD (yD l 0 l.length) default).1) (Nq (l.getD (l.length-1) default).1 && !Nat.testBit (l.getD (l.length-1) default).2 (yD l 0 l.length)) false) false
def WO(l:List (aY×Nat)):List Nat:=
 (List.range l.length).filter (λk=> !Nat.beq k (yD l 0 l.length) && !Nat.beq k (l.length-1))++[yD l 0 l.length,l.length-1]
def XZ(l:List (aY×Nat)):Bool:=cond (HC l 0 []) true (ah_ l)
def L9(l:List (aY×Nat)):List Nat:=cond (HC l 0 []) (AA l.length l 0 []) (WO l)
def DS(l:List (aY×Nat)):List (aY×Nat):=
 cond (XZ l) (cond (Ao l (L9 l)) (ze l (L9 l)) l) l
def ap4(i:Nat):List Oper->Bool
 |[]=>true
 |o::r=>o.after.all (λe=> !Region.binds .any e||Nat.blt e.on i)&&ap4 (i+1) r
def uK(ops:Array Oper):Bool:=ap4 0 ops.toList
def cY(P:Program)(nt:Nat):Code->Option apg
 |.skip=>some .skip
 |.label _=>some .skip
 |.region _ ops draw=>
  match jY P nt ops ops.toList with
  |some l=>if draw then(if P.follows .mixedOrders&&uK ops then some (.draw (DS (l.zip (Region.before ops).toList)))else none)else some (.reg l)
  |none=>none
 |.seq a b=>match cY P nt a,cY P nt b with
  |some x,some y=>some (.seq x y)
  |_,_=>none
 |.cond c a b=>match dv c,cY P nt a,cY P nt b with
  |some c',some x,some y=>some (.cond c' x y)
  |_,_,_=>none
 |.block id a=>match cY P nt a with
  |some x=>some (.block id x)
  |none=>none
 |.loop a=>match cY P nt a with
  |some x=>some (.loop x)
  |none=>none
 |.exit id=>some (.exit id)
 |.ret=>some .ret
 |.rangeFunc g ps a b=>match dv g,cY P nt a,cY P nt b with
  |some g',some x,some y=>if ps.toList.all (λp=>Nat.blt p nt)then some (.rng g' ps.toList x y)else none
  |_,_,_=>none
 |_=>some .stuck
inductive NG where
 |tmp (t:Nat)
 |cell (t:Nat) (n:Option Nat)
structure AFn where
 nt:Nat
 res:List NG
 body:apg
def Fp(P:Program):List ResultVar->Option (List NG)
 |[]=>some []
 |.tmp t::r=>match Fp P r with
  |some l=>some (.tmp t::l)
  |none=>none
 |.cell t ty::r=>match hY P ty,Fp P r with
  |some n,some l=>some (.cell t n::l)
  |_,_=>none
def cFn(P:Program)(fn:Func):Option AFn:=
 match fn.body with
 |some c=>match cY P fn.ntmps c,Fp P fn.results.toList with
  |some b,some r=>some ⟨fn.ntmps,r,b⟩
  |_,_=>none
 |none=>none
def BM(T:Tm)(h:AH):List NG->Option (List AV)
 |[]=>some []
 |.tmp t::r=>match BM T h r with
  |some l=>some ((T.get t).getD .undef::l)
  |none=>none
 |.cell t n::r=>
  match(match n with
   |none=>jQ h ((T.get t).getD .undef)
   |some n=>(gm h n ((T.get t).getD .undef)).map .agg),BM T h r with
  |some v,some l=>some (v::l)
  |_,_=>none
def IC:List AV->AV
 |[v]=>v
 |vs=>.tup vs
def zf:List AV->Nat->Tm->Tm
 |[],_,T=>T
 |v::r,i,T=>zf r (i+1) (T.put i v)
abbrev HF:=Nat->Option dx
def Ex(β:Bl)(G:HF)(b:Nat):Prop:=∃id o base,G id=some o/\β id=some (b,base)
abbrev LF(own:Nat->Prop)(β:Bl)(G:HF):Nat->Prop:=λb=>own b\/Ex β G b
structure E_(own:Nat->Prop)(β:Bl)(G:HF)(nx:Nat)(w:World):Prop where
 fresh:∀id,nx<=id->β id=none
 lt:∀id b base,β id=some (b,base)->b<w.heap.size
 mf:∀b,own b->b<w.heap.size
 obj:∀id o,G id=some o->∃b base,β id=some (b,base)/\¬own b/\OR w.heap (LF own β G) β b base o
 inj:∀id id' o o' b x y,G id=some o->G id'=some o'->β id=some (b,x)->β id'=some (b,y)->id=id'
structure kx(β:Bl)(G:HF)(w:World)(β':Bl)(G':HF)(w':World):Prop where
 ext:∀id x,β id=some x->β' id=some x
 size:w.heap.size<=w'.heap.size
 du:∀b,b<w.heap.size->¬Ex β G b->w'.heap[b]?=w.heap[b]?
 live:∀b,Ex β' G' b->Ex β G b\/w.heap.size<=b
 shape:∀(b:Nat) (cur:Array Value) (e:TypeId) (fz:Nat×Nat),w.heap[b]?=some (.cells cur e fz)->∃jB fz',w'.heap[b]?=some (.cells jB e fz')/\jB.size=cur.size/\(Ex β' G' b->fz'=fz)
 os:w'.os=w.os
 tape:w'.tape=w.tape
 output:w'.output=w.output
theorem kx.refl(β:Bl)(G:HF)(w:World):kx β G w β G w:=
 ⟨λ_ _ h=>h,amY _,λ_ _ _=>rfl,λ_ h=>.inl h,λ_ cur _ fz h=>⟨cur,fz,h,rfl,λ_=>rfl⟩,rfl,rfl,rfl⟩
theorem kx.trans{β₁ β₂ β₃:Bl}{h₁ h₂ h₃:HF}{w₁ w₂ w₃:World}(h:kx β₁ h₁ w₁ β₂ h₂ w₂)(k:kx β₂ h₂ w₂ β₃ h₃ w₃):kx β₁ h₁ w₁ β₃ h₃ w₃:=by
 refine⟨λid x hx=>k.ext _ _ (h.ext _ _ hx),ane h.size k.size,λb hb hn=>?_,λb hb=>?_,λb cur e fz hc=>?_,k.os.trans h.os,k.tape.trans h.tape,k.output.trans h.output⟩
 ·rw[k.du b (ant hb h.size) (λhl=>?_)]
  ·exact h.du b hb hn
  ·rcases h.live b hl with h1|h1
   ·exact hn h1
   ·omega
 ·rcases k.live b hb with h1|h1
  ·exact h.live b h1
  ·exact .inr (ane h.size h1)
 ·obtain⟨c1,f1,h1,h2,h5⟩:=h.shape _ _ _ _ hc;obtain⟨c2,f2,h3,h4,h6⟩:=k.shape _ _ _ _ h1;refine⟨c2,f2,h3,h4.trans h2,λhl=>(h6 hl).trans (h5 ((k.live b hl).elim id λhle=>?_))⟩;have:=gg h1;omega
theorem kx.later{own:Nat->Prop}{β β':Bl}{G G':HF}{w w':World}(ht:kx β G w β' G' w'):vl w.heap (LF own β G) β w'.heap (LF own β' G') β':=
 ⟨ht.ext,λb hb hn=>⟨λhl=>hl.elim (λh1=>hn (.inl h1)) (λh1=>(ht.live b h1).elim (λh2=>hn (.inr h2)) (λh2=>by omega)),ht.du b hb (λhl=>hn (.inr hl))⟩,λb cur e fz hc=>let⟨c,f,h1,h2,_⟩:=ht.shape b cur e fz hc;⟨c,f,h1,h2⟩⟩
def iG(own:Nat->Prop)(β:Bl)(G:HF)(V:Hp):Nat->Prop:=λb=>own b\/∃id o base,G id=some o/\V.get id=none/\β id=some (b,base)
section
variable {own:Nat->Prop} {β:Bl} {G:HF} {nx:Nat} {w w':World} {V V':Hp}
theorem DW(hV:∀id o,V.get id=some o->G id=some o)(b:Nat):LL (iG own β G V) β V b↔LF own β G b:=by
 constructor
 ·rintro((h|⟨id,o,base,h1,_,h3⟩)|⟨id,o,base,h1,h2⟩)
  ·exact .inl h
  ·exact .inr ⟨id,o,base,h1,h3⟩
  ·exact .inr ⟨id,o,base,hV id o h1,h2⟩
 ·rintro(h|⟨id,o,base,h1,h2⟩)
  ·exact .inl (.inl h)
  ·cases hv:V.get id with
   |none=>exact .inl (.inr ⟨id,o,base,h1,hv,h2⟩)
   |some o'=>exact .inr ⟨id,o',base,hv,h2⟩
theorem xp(hV:∀id o,V.get id=some o->G id=some o):LL (iG own β G V) β V=LF own β G:=funext λb=>propext (DW hV b)
theorem E_.split(hs:E_ own β G nx w)(hV:∀id o,V.get id=some o->G id=some o):bV (iG own β G V) β V nx w:=by
 refine⟨hs.fresh,hs.lt,?_,λid o hg=>?_,λid id' o o' b x y h1 h2=>hs.inj id id' o o' b x y (hV _ _ h1) (hV _ _ h2)⟩
 ·rintro b (h|⟨id,o,base,h1,_,h3⟩)
  ·exact hs.mf b h
  ·exact hs.lt id b base h3
 ·obtain⟨b,base,h1,h2,h3⟩:=hs.obj id o (hV id o hg);refine⟨b,base,h1,?_,?_⟩
  ·rintro(h|⟨id',o',eI,k1,k2,k3⟩)
   ·exact h2 h
   ·have:=hs.inj id id' o o' b base eI (hV id o hg) k1 h1 k3;subst this;rw[hg]at k2;cases k2
  ·have:=xp (own:=own) (β:=β) hV;rw[show(λb=>iG own β G V b\/live β V b)=LF own β G from this];exact h3
def glue(G:HF)(V V':Hp):HF:=λx=>match V'.get x with
 |some o=>some o
 |none=>match V.get x with
  |none=>G x
  |some _=>none
theorem E_.glue{β':Bl}{nx':Nat}{n n':Nat}(hs:E_ own β G nx w)(hV:∀id o,V.get id=some o->G id=some o)(h':bV (iG own β G V) β' V' nx' w')(ht:bJ (iG own β G V) β ⟨V,n⟩ w β' ⟨V',n'⟩ w'):
  E_ own β' (Eng.glue G V V') nx' w'/\kx β G w β' (Eng.glue G V V') w'/\LL (iG own β G V) β' V'=LF own β' (Eng.glue G V V')/\(∀id o o',G id=some o->V.get id=none->V'.get id=some o'->False):=by
 have agE:∀id o o',G id=some o->V.get id=none->V'.get id=some o'->False:=by
  intro id o o' hg hv hv';obtain⟨b,base,hb,_⟩:=hs.obj id o hg;obtain⟨b',eI,hb',hno,_⟩:=h'.obj id o' hv';rw[ht.ext _ _ hb]at hb';cases hb';exact hno (.inr ⟨id,o,base,hg,hv,hb⟩)
 have qM:∀id o,Eng.glue G V V' id=some o->V'.get id=some o\/(V'.get id=none/\V.get id=none/\G id=some o):=by
  intro id o hg;unfold Eng.glue at hg;split at hg
  ·rename_i o' ho;cases hg;exact .inl ho
  ·rename_i ho;split at hg
   ·rename_i hv;exact .inr ⟨ho,hv,hg⟩
   ·cases hg
 have agl:LL (iG own β G V) β' V'=LF own β' (Eng.glue G V V'):=by
  funext b
  apply propext;constructor
  ·rintro((h|⟨id,o,base,h1,h2,h3⟩)|⟨id,o,base,h1,h2⟩)
   ·exact .inl h
   ·refine .inr ⟨id,o,base,?_,ht.ext _ _ h3⟩;unfold Eng.glue;cases hv':V'.get id with
    |some o'=>exact(agE id o o' h1 h2 hv').elim
    |none=>simp[h2,h1]
   ·exact .inr ⟨id,o,base,by unfold Eng.glue;rw[h1],h2⟩
  ·rintro(h|⟨id,o,base,h1,h2⟩)
   ·exact .inl (.inl h)
   ·rcases qM id o h1 with h3|⟨_,h4,h5⟩
    ·exact .inr ⟨id,o,base,h3,h2⟩
    ·obtain⟨b',eI,hb',_⟩:=hs.obj id o h5;have:=ht.ext _ _ hb';rw[h2]at this;cases this;exact .inl (.inr ⟨id,o,base,h5,h4,hb'⟩)
 have UB:∀id o b base,G id=some o->V.get id=none->β id=some (b,base)->w'.heap[b]?=w.heap[b]?:=by
  intro id o b base hg hv hb;refine ht.du b (hs.lt id b base hb) ?_;rintro⟨id',o',eI,h1,h2⟩;have:=hs.inj id id' o o' b base eI hg (hV _ _ h1) hb h2;subst this;rw[hv]at h1;cases h1
 have htF:kx β G w β' (Eng.glue G V V') w':=by
  refine⟨ht.ext,ht.size,λb hb hn=>ht.du b hb (fun⟨id,o,base,h1,h2⟩=>hn ⟨id,o,base,hV _ _ h1,h2⟩),?_,λb cur e fz hc=>?_,ht.os,ht.tape,ht.output⟩;rintro b ⟨id,o,base,h1,h2⟩;rcases qM id o h1 with h3|⟨_,h4,h5⟩
  ·rcases ht.live b ⟨id,o,base,h3,h2⟩with⟨id',o',eI,k1,k2⟩|k
   ·exact .inl ⟨id',o',eI,hV _ _ k1,k2⟩
   ·exact .inr k
  ·obtain⟨b',eI,hb',_⟩:=hs.obj id o h5;have:=ht.ext _ _ hb';rw[h2]at this;cases this;exact .inl ⟨id,o,base,h5,hb'⟩
  obtain⟨c,f,h1,h2,h3⟩:=ht.shape b cur e fz hc;refine⟨c,f,h1,h2,fun⟨id,o,base,k1,k2⟩=>?_⟩;rcases qM id o k1 with h4|⟨_,h4,h5⟩
  ·exact h3 ⟨id,o,base,h4,k2⟩
  ·obtain⟨b',eI,hb',_⟩:=hs.obj id o h5;have:=ht.ext _ _ hb';rw[k2]at this;cases this;have he:=UB id o _ _ h5 h4 hb';rw[hc]at he;rw[he]at h1;cases h1;rfl
 refine⟨⟨h'.fresh,h'.lt,λb hb=>ant (hs.mf b hb) ht.size,λid o hg=>?_,λid id' o o' b x y hg hg' hb hb'=>?_⟩,htF,agl,agE⟩
 ·rcases qM id o hg with h3|⟨_,h4,h5⟩
  ·obtain⟨b,base,hb,hno,hor⟩:=h'.obj id o h3;refine⟨b,base,hb,λacs=>hno (.inl acs),?_⟩;rw[show(λb=>iG own β G V b\/live β' V' b)=LF own β' (Eng.glue G V V')from agl]at hor;exact hor
  ·obtain⟨b,base,hb,hno,hor⟩:=hs.obj id o h5;exact⟨b,base,ht.ext _ _ hb,hno,hor.later htF.later (UB id o b base h5 h4 hb)⟩
 ·have X:∀id1 id2 o1 o2 x1 x2,V'.get id1=some o1->V.get id2=none->G id2=some o2->β' id1=some (b,x1)->β' id2=some (b,x2)->False:=by
   intro id1 id2 o1 o2 x1 x2 k1 k2 k3 k4 k5;obtain⟨b1,Y1,hb1,hno,_⟩:=h'.obj id1 o1 k1;rw[k4]at hb1;cases hb1;obtain⟨b2,kp,hb2,_⟩:=hs.obj id2 o2 k3;have:=ht.ext _ _ hb2;rw[k5]at this;cases this;exact hno (.inr ⟨id2,o2,x2,k3,k2,hb2⟩)
  rcases qM id o hg with h3|⟨_,h4,h5⟩
  ·rcases qM id' o' hg' with k3|⟨_,k4,k5⟩
   ·exact h'.inj id id' o o' b x y h3 k3 hb hb'
   ·exact(X id id' o o' x y h3 k4 k5 hb hb').elim
  ·rcases qM id' o' hg' with k3|⟨_,k4,k5⟩
   ·exact(X id' id o' o y x k3 h4 h5 hb' hb).elim
   ·obtain⟨b1,Y1,hb1,_⟩:=hs.obj id o h5;obtain⟨b2,kp,hb2,_⟩:=hs.obj id' o' k5;have e1:=ht.ext _ _ hb1;have e2:=ht.ext _ _ hb2;rw[hb]at e1;rw[hb']at e2;cases e1;cases e2;exact hs.inj id id' o o' b x y h5 k5 hb1 hb2
end
theorem vg{t:Nat}:∀ {l:List Nat},C0 t l=true↔t∈l
 |[]=>by simp[C0]
 |x::r=>by simp[C0,vg (l:=r)]
section
variable {T T':Tm}
theorem eh{x:Opd}(h:∀t∈x.use,T'.get t=T.get t):x.ev T'=x.ev T:=by
 cases x with
 |tmp t=>simp only[Opd.ev];rw[h t (by simp[Opd.use])]
 |const v=>rfl
theorem mX{x:Option Opd}(h:∀t∈yR x,T'.get t=T.get t):x.map (·.ev T')=x.map (·.ev T):=by
 cases x with
 |none=>rfl
 |some x=>simp only[Option.map_some];rw[eh h]
theorem lB:∀ {xs:List Opd},(∀t∈tr xs,T'.get t=T.get t)->xs.map (·.ev T')=xs.map (·.ev T)
 |[],_=>rfl
 |x::xs,h=>by
  simp only[anO];rw[eh (λt ht=>h t (by simp[tr,ht])),lB (λt ht=>h t (by simp[tr,ht]))]
theorem nq:∀ {ps:List (Nat×Nat×Opd)} {cs:List AV},(∀t∈El ps,T'.get t=T.get t)->fS T' cs ps=fS T cs ps
 |[],_,_=>rfl
 |(o,s,x)::ps,cs,h=>by
  unfold fS;rw[eh (x:=x) (λt ht=>h t (by simp[El,ht]))];split
  ·simp only;split
   ·split
    ·exact nq (λt ht=>h t (by simp[El,ht]))
    ·rfl
   ·rfl
  ·rfl
theorem su{cl:cI}{h:AH}{ao:AOp}(hT:∀t∈ao.mN,T'.get t=T.get t):aop cl T' h ao=aop cl T h ao:=by
 cases ao<;>simp only[AOp.mN]at hT<;>simp only[aop,aB,aG,cU,fh,aO,aQ,eK,bj,kSt,aq,ae,arJ,NF,pb,kUn,cB,Nf,ah,aF,fv,Nb,dH,kSl,gI,bh,cL,sT,zy,dK,yq,iy,cm,Nn,nZ,wN,<-br];all_goals first
  |(rw[eh (λt ht=>hT t ht)];done)
  |(rw[eh (λt ht=>hT t (by simp[ht])),eh (λt ht=>hT t (by simp[ht]))];done)
  |(rw[eh (λt ht=>hT t (by simp[ht])),eh (λt ht=>hT t (by simp[ht])),eh (λt ht=>hT t (by simp[ht]))];done)
  |(rw[nq (λt ht=>hT t ht)];done)
  |(rw[lB (λt ht=>hT t ht)];done)
  |(rw[lB (λt ht=>hT t (by simp[ht])),lB (λt ht=>hT t (by simp[ht]))];done)
  |(rw[eh (λt ht=>hT t (by simp[ht])),lB (λt ht=>hT t (by simp[ht]))];done)
  |(rw[eh (λt ht=>hT t (by simp[ht])),mX (λt ht=>hT t (by simp[ht])),mX (λt ht=>hT t (by simp[ht])),mX (λt ht=>hT t (by simp[ht]))];done)
  |(rw[eh (λt ht=>hT t (by simp[ht])),mX (λt ht=>hT t (by simp[ht])),mX (λt ht=>hT t (by simp[ht]))];done)
  |skip
theorem Au{ao:AOp}(hT:∀t∈ao.mN,T'.get t=T.get t):eg T' ao=eg T ao:=by
 cases ao<;>simp only[AOp.mN]at hT<;>simp only[eg];all_goals first
  |(rw[eh (λt ht=>hT t ht)];done)
  |(rw[eh (λt ht=>hT t (by simp[ht])),eh (λt ht=>hT t (by simp[ht]))];done)
  |(rw[nq (λt ht=>hT t ht)];done)
  |(rw[lB (λt ht=>hT t ht)];done)
  |skip
end
theorem Vi{h h':AH}{k:XK}{as:List AV}{v:AV}(hA:xA k=false)(hE:xE k=false)(hR:xRd k as=none)(h1:kX h k as=some (v,h')):h'=h/\∀h2,kX h2 k as=some (v,h2):=by
 cases k<;>simp only[xE]at hE<;>(try(cases hE;done))<;>simp only[xA]at hA<;>(try(cases hA;done));case CM k ok zero=>
  match as,hR,h1 with
  |[],_,h1=>simp[kX]at h1
  |[_],_,h1=>simp[kX]at h1
  |m::key::x::r,_,h1=>simp[kX]at h1
  |[m,key],hR,h1=>
   cases m<;>simp[kX,D5]at h1;case dP=>
    simp only[kX,D5];obtain⟨q1,q2⟩:=h1;simp only[q1,anH];simp only[Es]at q2 ⊢;cases q2;exact⟨rfl,λ_=>rfl⟩
   case jR id=>simp[xRd]at hR
 case b2s=>
  match as,hR,h1 with
  |[],_,h1=>simp[kX]at h1
  |m::x::r,_,h1=>simp[kX]at h1
  |[m],hR,h1=>
   have key:∀g:AH,cj g 1 m=cj h 1 m:=λg=>by cases m<;>first|rfl|(simp[xRd]at hR)
   simp only[kX]at h1 ⊢;cases ha:cj h 1 m with
   |none=>rw[ha]at h1;cases h1
   |some cs=>
    cases hl:fj m with
    |none=>rw[ha,hl]at h1;cases h1
    |some n=>
     rw[ha,hl]at h1;cases hb:lJ cs with
     |none=>simp only[hb]at h1;cases h1
     |some s=>simp only[hb]at h1;cases h1;exact⟨rfl,λg=>by rw[key g,ha];simp only[hb]⟩
 case r2s=>
  match as,hR,h1 with
  |[],_,h1=>simp[kX]at h1
  |m::x::r,_,h1=>simp[kX]at h1
  |[m],hR,h1=>
   have key:∀g:AH,cj g 1 m=cj h 1 m:=λg=>by cases m<;>first|rfl|(simp[xRd]at hR)
   simp only[kX]at h1 ⊢;cases ha:cj h 1 m with
   |none=>rw[ha]at h1;cases h1
   |some cs=>
    cases hl:fj m with
    |none=>rw[ha,hl]at h1;cases h1
    |some n=>
     rw[ha,hl]at h1;cases hb:wV cs with
     |some s=>simp only[hb]at h1;cases h1;exact⟨rfl,λg=>by rw[key g,ha];simp only[hb]⟩
     |none=>
      cases hi:xq cs with
      |none=>simp only[hb,hi]at h1;cases h1
      |some ns=>simp only[hb,hi]at h1;cases h1;exact⟨rfl,λg=>by rw[key g,ha];simp only[hb,hi]⟩
 case i2s=>
  match as,h1 with
  |[],h1=>simp[kX]at h1
  |m::x::r,h1=>cases m<;>simp[kX]at h1
  |[m],h1=>
   cases m<;>simp[kX]at h1;obtain⟨rfl,rfl⟩:=h1;exact⟨rfl,λ_=>by simp[kX]⟩
 case s2b=>
  match as,h1 with
  |[],h1=>simp[kX]at h1
  |m::x::r,h1=>cases m<;>simp[kX]at h1
  |[m],h1=>
   cases m<;>simp[kX]at h1;obtain⟨h0,rfl,rfl⟩:=h1;exact⟨rfl,λ_=>by simp[kX,h0]⟩
 case arH t=>
  match as,h1 with
  |[],h1=>simp[kX]at h1
  |m::x::r,h1=>simp[kX]at h1
  |[m],h1=>
   simp[kX]at h1;obtain⟨rfl,rfl⟩:=h1;exact⟨rfl,λ_=>by simp[kX]⟩
 case ym neg=>
  match as,h1 with
  |[],h1=>simp[kX]at h1
  |m::x::r,h1=>cases m<;>simp[kX]at h1
  |[m],h1=>
   cases m<;>simp[kX]at h1;all_goals (obtain⟨rfl,rfl⟩:=h1;exact⟨rfl,λ_=>by simp[kX]⟩)
 case CJ=>
  match as,hR,h1 with
  |[],_,h1=>simp[kX]at h1
  |m::x::r,_,h1=>simp[kX]at h1
  |[m],hR,h1=>
   cases m<;>simp[kX,D5]at h1;case dP=>
    obtain⟨rfl,rfl⟩:=h1;exact⟨rfl,λ_=>by simp[kX,D5]⟩
   case jR id=>simp[xRd]at hR
theorem WG{h h':AH}{k:XK}{as:List AV}{v:AV}{x:Nat}(hR:xRd k as=some x)(h1:kX h k as=some (v,h')):
  h'=h/\(∃ob,h.H.get x=some ob)/\∀h2:AH,h2.H.get x=h.H.get x->kX h2 k as=some (v,h2):=by
 have hm:∀h2:AH,h2.H.get x=h.H.get x->h2.pn x=h.pn x:=λh2 he=>by unfold AH.pn;rw[he]
 have hs:∀kvs,h.pn x=some kvs->∃ob,h.H.get x=some ob:=λkvs hk=>by
  unfold AH.pn at hk;split at hk
  ·rename_i hg;exact⟨_,hg⟩
  ·cases hk
 unfold xRd at hR;split at hR
 ·rename_i k ok zero id r;cases hR;match r,h1 with
  |[],h1=>simp[kX]at h1
  |key::y::r,h1=>simp[kX]at h1
  |[key],h1=>
   simp only[kX,D5]at h1 ⊢;split at h1
   ·rename_i hk;cases hq:h.pn x with
    |none=>simp[hq]at h1
    |some kvs=>
     simp only[hq]at h1;refine⟨?_,hs _ hq,λh2 he=>?_⟩
     ·split at h1<;>cases h1<;>rfl
     ·rw[am1 hk,hm h2 he,hq];simp only;split at h1
      ·rename_i hf;cases h1;simp only[hf]
      ·rename_i hf;cases h1;simp only[hf]
      ·cases h1
   ·cases h1
 ·rename_i id r;cases hR;match r,h1 with
  |y::r,h1=>simp[kX]at h1
  |[],h1=>
   simp only[kX,D5]at h1 ⊢;cases hq:h.pn x with
   |none=>simp[hq]at h1
   |some kvs=>
    simp only[hq]at h1;cases h1;exact⟨rfl,hs _ hq,λh2 he=>by rw[hm h2 he,hq]⟩
 ·rename_i id off len z r;cases hR;match r,h1 with
  |y::r,h1=>simp[kX]at h1
  |[],h1=>
   have key:∀g:AH,g.H.get x=h.H.get x->cj g 1 (.rsl x off len z)=cj h 1 (.rsl x off len z):=λg he=>by
    have:g.ab x=h.ab x:=by unfold AH.ab;rw[he]
    simp only[cj,this]
   have hob:∀cs,cj h 1 (.rsl x off len z)=some cs->∃ob,h.H.get x=some ob:=λcs hc=>by
    simp only[cj]at hc;split at hc
    ·split at hc
     ·rename_i c2 hc2;unfold AH.ab at hc2;split at hc2
      ·rename_i hg;exact⟨_,hg⟩
      all_goals first|(rename_i hg;exact⟨_,hg⟩)|(cases hc2)
     ·cases hc
    ·cases hc
   simp only[kX]at h1 ⊢;cases ha:cj h 1 (.rsl x off len z)with
   |none=>rw[ha]at h1;cases h1
   |some cs=>
    rw[ha]at h1;simp only[fj]at h1 ⊢;cases hb:lJ cs with
    |none=>simp only[hb]at h1;cases h1
    |some s=>simp only[hb]at h1;cases h1;exact⟨rfl,hob _ ha,λg he=>by rw[key g he,ha];simp only[hb]⟩
 ·rename_i id off len z r;cases hR;match r,h1 with
  |y::r,h1=>simp[kX]at h1
  |[],h1=>
   have key:∀g:AH,g.H.get x=h.H.get x->cj g 1 (.rsl x off len z)=cj h 1 (.rsl x off len z):=λg he=>by
    have:g.ab x=h.ab x:=by unfold AH.ab;rw[he]
    simp only[cj,this]
   have hob:∀cs,cj h 1 (.rsl x off len z)=some cs->∃ob,h.H.get x=some ob:=λcs hc=>by
    simp only[cj]at hc;split at hc
    ·split at hc
     ·rename_i c2 hc2;unfold AH.ab at hc2;split at hc2
      ·rename_i hg;exact⟨_,hg⟩
      all_goals first|(rename_i hg;exact⟨_,hg⟩)|(cases hc2)
     ·cases hc
    ·cases hc
   simp only[kX]at h1 ⊢;cases ha:cj h 1 (.rsl x off len z)with
   |none=>rw[ha]at h1;cases h1
   |some cs=>
    rw[ha]at h1;simp only[fj]at h1 ⊢;cases hb:wV cs with
    |some s=>simp only[hb]at h1;cases h1;exact⟨rfl,hob _ ha,λg he=>by rw[key g he,ha];simp only[hb]⟩
    |none=>
     cases hi:xq cs with
     |none=>simp only[hb,hi]at h1;cases h1
     |some ns=>simp only[hb,hi]at h1;cases h1;exact⟨rfl,hob _ ha,λg he=>by rw[key g he,ha];simp only[hb,hi]⟩
 ·cases hR
theorem QH{cl:cI}{T:Tm}{h h':AH}{ao:AOp}{v:AV}(hA:aA ao=false)(hE:aE ao=false)(hR:aRd T ao=none)(h1:aop cl T h ao=some (v,h')):h'=h/\∀h2,aop cl T h2 ao=some (v,h2):=by
 cases ao<;>simp only[aA,aE]at hA hE<;>(try(cases hA;done))<;>(try(cases hE;done))<;>simp only[aop,aB,aG,cU,fh,aO,aQ,eK,bj,kSt,aq,ae,arJ,NF,pb,kUn,cB,Nf,ah,aF,fv,Nb,dH,kSl,gI,bh,cL,sT,zy,dK,yq,iy,cm,Nn,nZ,wN,<-br]at h1 ⊢;case xo k as=>exact Vi hA hE hR h1
 case ld1 x=>
  simp only[aRd]at hR;cases hx:x.ev T<;>rw[hx]at h1 hR<;>simp only[jQ]at h1 ⊢ <;> (try(cases h1;done))<;>(try(cases hR;done));split at h1
  ·rename_i hq;cases h1;exact⟨rfl,λh2=>by first|rfl|rw[hq]⟩
  ·cases h1
 case ldn n x=>
  simp only[aRd]at hR;cases hx:x.ev T<;>rw[hx]at h1 hR<;>simp only[gm]at h1 ⊢ <;> (try(cases h1;done))<;>(try(cases hR;done));split at h1
  ·rename_i hq;cases h1;exact⟨rfl,λh2=>by first|rfl|rw[hq]⟩
  ·cases h1
 case pick c x y=>
  split at h1
  ·rename_i t ht;cases h1;exact⟨rfl,λh2=>by first|rfl|simp only[ht]⟩
  ·cases h1
 case CK x=>
  split at h1<;>first|(cases h1;done)|(rename_i hx;cases h1;exact⟨rfl,λh2=>by first|rfl|simp only[hx]⟩)
 case eqs neg x y=>
  split at h1
  ·rename_i hx hy;cases h1;exact⟨rfl,λh2=>by first|rfl|simp only[hx,hy]⟩
  ·cases h1
 case eqf neg ks x y=>
  split at h1
  ·rename_i xs ys hx hy;cases hq:bA ks xs ys with
   |none=>simp[hq]at h1
   |some b=>simp only[hq]at h1;cases h1;exact⟨rfl,λh2=>by first|rfl|simp only[hx,hy,hq]⟩
  ·cases h1
 case Mw k x=>
  split at h1
  ·rename_i hx;cases h1;exact⟨rfl,λh2=>by first|rfl|simp only[hx]⟩
  ·cases h1
 case fld off n x=>
  split at h1
  ·rename_i cs hx;cases hq:J9 n cs off with
   |none=>simp[hq]at h1
   |some b=>simp only[hq]at h1;cases h1;exact⟨rfl,λh2=>by first|rfl|simp only[hx,hq]⟩
  ·cases h1
 case uU len z x i=>
  split at h1
  ·rename_i j hj;cases hq:n9 (j*z) (x.ev T)with
   |none=>simp[hq]at h1
   |some b=>simp only[hq]at h1;cases h1;exact⟨rfl,λh2=>by first|rfl|simp only[hj,hq]⟩
  ·cases h1
 case idx len z n x i=>
  split at h1
  ·rename_i j cs hj hx;cases hq:J9 n cs (j*z)with
   |none=>simp[hq]at h1
   |some b=>simp only[hq]at h1;cases h1;exact⟨rfl,λh2=>by first|rfl|simp only[hj,hx,hq]⟩
  ·cases h1
 case Xo x i=>
  split at h1
  ·rename_i s hx;cases hj:aix s.length (i.ev T)with
   |none=>simp[hj]at h1
   |some j=>
    simp only[hj]at h1;cases hq:s[j]? with
    |none=>simp[hq]at h1
    |some c=>simp only[hq]at h1;cases h1;exact⟨rfl,λh2=>by first|rfl|simp only[hx,hj,hq]⟩
  ·cases h1
 case slS x lo hi=>
  split at h1
  ·rename_i s hx;cases hq:mC s (lo.map (·.ev T)) (hi.map (·.ev T))with
   |none=>simp[hq]at h1
   |some b=>simp only[hq]at h1;cases h1;exact⟨rfl,λh2=>by first|rfl|simp only[hx,hq]⟩
  ·cases h1
 case Xq x=>
  split at h1
  ·rename_i hx;cases h1;exact⟨rfl,λh2=>by first|rfl|simp only[hx]⟩
  ·cases h1
 case Ur x=>
  split at h1
  ·rename_i hx;cases h1;exact⟨rfl,λh2=>by first|rfl|simp only[hx]⟩
  ·cases h1
 case Ut mx x y=>
  split at h1
  ·rename_i hx hy;cases h1;exact⟨rfl,λh2=>by first|rfl|simp only[hx,hy]⟩
  ·rename_i hxy;split at h1
   ·rename_i hv;cases h1;exact⟨rfl,λh2=>by first|rfl|simp only[hv]⟩
   ·cases h1
 case ext x i=>
  split at h1
  ·rename_i vs hx;cases hq:vs[i]? with
   |none=>simp[hq]at h1
   |some b=>simp only[hq]at h1;cases h1;exact⟨rfl,λh2=>by first|rfl|simp only[hx,hq]⟩
  ·cases h1
 all_goals first
  |(cases h1;done)
  |(cases h1;exact⟨rfl,λ_=>rfl⟩)
  |(split at h1
    ·rename_i hq;cases h1;exact⟨rfl,λh2=>by first|rfl|simp only[hq]⟩
    ·cases h1)
theorem Q0{cl:cI}{T:Tm}{h h':AH}{ao:AOp}{v:AV}{x:Nat}(hR:aRd T ao=some x)(h1:aop cl T h ao=some (v,h')):
  h'=h/\(∃ob,h.H.get x=some ob)/\∀h2:AH,h2.H.get x=h.H.get x->aop cl T h2 ao=some (v,h2):=by
 cases ao<;>simp only[aRd]at hR<;>(try(cases hR;done))<;>simp only[aop,aB,aG,cU,fh,aO,aQ,eK,bj,kSt,aq,ae,arJ,NF,pb,kUn,cB,Nf,ah,aF,fv,Nb,dH,kSl,gI,bh,cL,sT,zy,dK,yq,iy,cm,Nn,nZ,wN,<-br]at h1 ⊢;case xo k as=>exact WG hR h1
 case ld1 a=>
  cases ha:a.ev T<;>rw[ha]at h1 hR<;>simp only at hR<;>(try(cases hR;done));all_goals (
   rename_i id off;cases hR;simp only[jQ,AH.ab,AH.mL]at h1 ⊢;cases hg:h.H.get x with
   |none=>simp[hg]at h1
   |some ob=>
    refine⟨?_,⟨ob,rfl⟩,λh2 he=>?_⟩
    ·split at h1
     ·cases h1;rfl
     ·cases h1
    ·rw[he];rw[hg]at h1;split at h1
     ·rename_i hq;cases h1;first|rfl|rw[hq]
     ·cases h1)
 case ldn n a=>
  cases ha:a.ev T<;>rw[ha]at h1 hR<;>simp only at hR<;>(try(cases hR;done));all_goals (
   rename_i id off;cases hR;simp only[gm,AH.ab,AH.mL]at h1 ⊢;cases hg:h.H.get x with
   |none=>simp[hg]at h1
   |some ob=>
    refine⟨?_,⟨ob,rfl⟩,λh2 he=>?_⟩
    ·split at h1
     ·cases h1;rfl
     ·cases h1
    ·rw[he];rw[hg]at h1;split at h1
     ·rename_i hq;cases h1;first|rfl|rw[hq]
     ·cases h1)
def p_(T:Tm):List Nat->Tm
 |[]=>.leaf
 |t::l=>match T.get t with
  |some v=>(p_ T l).put t v
  |none=>p_ T l
theorem pK(T:Tm):∀(l:List Nat) (t:Nat),(p_ T l).get t=if t∈l then T.get t else none
 |[],t=>by simp[p_,Tm.xJ]
 |x::l,t=>by
  unfold p_;split
  ·rename_i v hv;rw[Tm.jA];by_cases h:t=x
   ·subst h;simp[hv]
   ·simp[h,pK T l t]
  ·rename_i hv;rw[pK T l t];by_cases h:t=x
   ·subst h;simp[hv]
   ·simp[h]
inductive DSp(cl:cI)(o:aY)(r:Nat)(T:Tm)(h:AH):bR->Prop where
 |skip (hg:gd T o.guard=some false):DSp cl o r T h ⟨T,h,eX,.pure⟩
 |alloc (hg:gd T o.guard=some true) (cs:dx) (mk:Nat->AV) (ha:eg T o.op=some (cs,mk)):DSp cl o r T h ⟨T,h,mk r,.alloc r cs⟩
 |eff (hg:gd T o.guard=some true) (v:AV) (h':AH) (ha:aop cl T h o.op=some (v,h')) (hup:h.nx<=h'.nx):DSp cl o r T h ⟨T,h,v,.eff h h'⟩
 |read (hg:gd T o.guard=some true) (v:AV) (h':AH) (x:Nat) (ha:aop cl T h o.op=some (v,h')) (hr:aRd T o.op=some x):DSp cl o r T h ⟨T,h,v,.read x⟩
 |pure (hg:gd T o.guard=some true) (v:AV) (h':AH) (ha:aop cl T h o.op=some (v,h')) (hA:aA o.op=false) (hE:aE o.op=false) (hr:aRd T o.op=none):DSp cl o r T h ⟨T,h,v,.pure⟩
theorem Ug{cl:cI}{o:aY}{r:Nat}{T:Tm}{h:AH}{s:bR}(hs:nX cl o r T h=some s):DSp cl o r T h s:=by
 unfold nX at hs;split at hs
 ·rename_i hg;cases hs;exact .skip hg
 ·rename_i hg;split at hs
  ·split at hs
   ·rename_i cs mk ha;cases hs;exact .alloc hg cs mk ha
   ·cases hs
  ·rename_i hA;split at hs
   ·rename_i v h' ha;split at hs
    ·split at hs
     ·rename_i hup;cases hs;exact .eff hg v h' ha (aoK hup)
     ·cases hs
    ·rename_i hE;split at hs
     ·rename_i x hx;cases hs;exact .read hg v h' x ha hx
     ·rename_i hx;cases hs;exact .pure hg v h' ha (by simpa using hA) (by simpa using hE) hx
   ·cases hs
 ·cases hs
structure mc(P:Program)(nt:Nat)(ops:Array Oper)(π:Nat->Nat)(n r0:Nat)(o:Nat->aY)(s:Nat->bR)(b:Nat->Nat)(Ts:Nat->Tm)(Hs:Nat->AH):Prop where
 cop:∀i,i<n->∃oo,ops[π i]?=some oo/\Ef P nt ops oo=some (o i)
 step:∀i,i<n->∃cl,HOk P cl/\DSp cl (o i) (r0+i) (Ts i) (Hs i) (s i)
 Tn:∀i,i<n->Ts (i+1)=lh (Ts i) (o i).dst (s i).v
 Hn:∀i,i<n->Hs (i+1)=(s i).h'
 pair:∀i j,i<j->j<n->Nat.testBit (b j) i=true\/(l8 (o i) (o j)=true/\aU (s i).k (s j).k=true)
 nx0:r0+n<=(Hs 0).nx
 YN:∀id,r0<=id->(Hs 0).H.get id=none
structure DL(P:Program)(nt:Nat)(ops:Array Oper)(L:List (aY×Nat))(π:Nat->Nat):Prop where
 len:L.length=ops.size
 lt:∀i,i<ops.size->π i<ops.size
 out:∀i,ops.size<=i->π i=i
 inj:∀i j,i<ops.size->j<ops.size->π i=π j->i=j
 sur:∀j,j<ops.size->∃i,i<ops.size/\π i=j
 cop:∀i x,L[i]?=some x->∃oo,ops[π i]?=some oo/\Ef P nt ops oo=some x.1
 bef:∀i x,L[i]?=some x->∀oo,ops[π i]?=some oo->∀j,Nat.testBit x.2 j=true->∃e∈oo.after,Region.binds .any e=true/\(e.on=π j\/∃k y,L[k]?=some y/\π k=e.on/\Nat.testBit y.2 j=true)
 Xs:∀i oo,ops[π i]?=some oo->∀e∈oo.after,Region.binds .any e=true->∃k,k<i/\e.on=π k
mutual
theorem AV.beq_eq:∀(a b:AV),AV.beq a b=true->a=b
 |.undef,b,h=>by cases b<;>simp[AV.beq]at h<;>rfl
 |.bool a,b,h=>by cases b<;>simp[AV.beq]at h;subst h;rfl
 |.int k a,b,h=>by cases b<;>simp[AV.beq]at h;obtain⟨rfl,rfl⟩:=h;rfl
 |.str a,b,h=>by cases b<;>simp[AV.beq]at h;subst h;rfl
 |.agg a,b,h=>by cases b<;>simp[AV.beq]at h;rw[AV.jX _ _ h]
 |.tup a,b,h=>by cases b<;>simp[AV.beq]at h;rw[AV.jX _ _ h]
 |.ptr x y,b,h=>by cases b<;>simp[AV.beq]at h;obtain⟨rfl,rfl⟩:=h;rfl
 |.dS,b,h=>by cases b<;>simp[AV.beq]at h<;>rfl
 |.lz a,b,h=>by cases b<;>simp[AV.beq]at h;rw[AV.jX _ _ h]
 |.fY a c,b,h=>by cases b<;>simp[AV.beq]at h;rw[h.1,h.2]
 |.aa,b,h=>by cases b<;>simp[AV.beq]at h<;>rfl
 |.esl,b,h=>by cases b<;>simp[AV.beq]at h<;>rfl
 |.psl a,b,h=>by cases b<;>simp[AV.beq]at h;rw[AV.EG _ _ h]
 |.rsl x y z u,b,h=>by cases b<;>simp[AV.beq]at h;obtain⟨⟨⟨rfl,rfl⟩,rfl⟩,rfl⟩:=h;rfl
 |.jR x,b,h=>by cases b<;>simp[AV.beq]at h;subst h;rfl
 |.dP,b,h=>by cases b<;>simp[AV.beq]at h<;>rfl
 |.func f x y,b,h=>by cases b<;>simp[AV.beq]at h;obtain⟨⟨rfl,h1⟩,h2⟩:=h;rw[AV.jX _ _ h1,AV.jX _ _ h2]
 |.dt,b,h=>by cases b<;>simp[AV.beq]at h<;>rfl
 |.gf,b,h=>by cases b<;>simp[AV.beq]at h<;>rfl
 |.iface t a,b,h=>by cases b<;>simp[AV.beq]at h;obtain⟨rfl,h1⟩:=h;rw[AV.beq_eq _ _ h1]
 |.sX k m r i j l lo hi,b,h=>by cases b<;>simp[AV.beq]at h;obtain⟨⟨⟨⟨⟨⟨⟨rfl,rfl⟩,rfl⟩,rfl⟩,rfl⟩,rfl⟩,rfl⟩,rfl⟩:=h;rfl
 |.qJ k rs,b,h=>by cases b<;>simp[AV.beq]at h;obtain⟨rfl,rfl⟩:=h;rfl
 |.sint k m i c lo hi,b,h=>by cases b<;>simp[AV.beq]at h;obtain⟨⟨⟨⟨⟨rfl,rfl⟩,rfl⟩,rfl⟩,rfl⟩,rfl⟩:=h;rfl
theorem AV.jX:∀(a b:List AV),AV.pU a b=true->a=b
 |[],b,h=>by cases b<;>simp[AV.pU]at h;rfl
 |x::a,b,h=>by cases b<;>simp[AV.pU]at h;rw[AV.beq_eq _ _ h.1,AV.jX _ _ h.2]
theorem AV.EG:∀(a b:List (List AV)),AV.tI a b=true->a=b
 |[],b,h=>by cases b<;>simp[AV.tI]at h;rfl
 |x::a,b,h=>by cases b<;>simp[AV.tI]at h;rw[AV.jX _ _ h.1,AV.EG _ _ h.2]
end
theorem DU:∀(a b:List (AV×AV)),q_ a b=true->a=b
 |[],b,h=>by cases b<;>simp[q_]at h;rfl
 |(x,y)::a,b,h=>by
  cases b with
  |nil=>simp[q_]at h
  |cons p b=>
   obtain⟨u,v⟩:=p;simp[q_]at h;rw[AV.beq_eq _ _ h.1.1,AV.beq_eq _ _ h.1.2,DU _ _ h.2]
theorem Lf{a b:Option dx}(h:Di a b=true):a=b:=by
 unfold Di at h;split at h
 ·rfl
 ·rw[AV.jX _ _ h]
 ·rw[DU _ _ h]
 ·rename_i s p t q;simp at h;obtain⟨h1,rfl⟩:=h;have:s=t:=ByteArray.ext h1;rw[this]
 ·simp at h;obtain⟨rfl,h2⟩:=h;rw[AV.jX _ _ h2]
 ·simp at h;obtain⟨rfl,h2⟩:=h;rw[AV.jX _ _ h2]
 ·cases h
section
variable {P:Program} {nt:Nat} {ds:List Deferred} {ops:Array Oper} {π:Nat->Nat} {n r0:Nat} {o:Nat->aY} {s:Nat->bR} {b:Nat->Nat} {Ts:Nat->Tm} {Hs:Nat->AH}
def gJ(s:Nat->bR)(i:Nat):Prop:=∃V C,(s i).k =.eff V C
def fA(s:Nat->bR)(i:Nat):Prop:=∃r cs,(s i).k =.alloc r cs
theorem mc.aiB(c:mc P nt ops π n r0 o s b Ts Hs){i:Nat}(hi:i<n){V C:AH}(hk:(s i).k =.eff V C):V=Hs i/\C=Hs (i+1):=by
 have h1:=c.Hn i hi;obtain⟨cl,_,h2⟩:=c.step i hi;generalize s i=t at*;cases h2<;>simp only at hk<;>cases hk;exact⟨rfl,by rw[h1];rfl⟩
theorem mc.als(c:mc P nt ops π n r0 o s b Ts Hs){i:Nat}(hi:i<n){r:Nat}{cs:dx}(hk:(s i).k =.alloc r cs):r=r0+i/\Hs (i+1)=⟨(Hs i).H.put (r0+i) cs,(Hs i).nx⟩:=by
 have h1:=c.Hn i hi;obtain⟨cl,_,h2⟩:=c.step i hi;generalize s i=t at*;cases h2<;>simp only at hk<;>cases hk;exact⟨rfl,by rw[h1];rfl⟩
theorem mc.stays(c:mc P nt ops π n r0 o s b Ts Hs){i:Nat}(hi:i<n)(h1:¬gJ s i)(h2:¬fA s i):Hs (i+1)=Hs i:=by
 have h3:=c.Hn i hi;obtain⟨cl,_,h4⟩:=c.step i hi;unfold gJ at h1;unfold fA at h2;generalize s i=t at*;cases h4
 ·rw[h3];rfl
 ·exact absurd ⟨_,_,rfl⟩ h2
 ·exact absurd ⟨_,_,rfl⟩ h1
 ·rw[h3];rfl
 ·rw[h3];rfl
def TSp(o:Nat->aY)(s:Nat->bR)(T0:Tm)(n:Nat)(L:Nat->Prop)(t:Nat)(u:AV):Prop:=
 (∃i,i<n/\L i/\(o i).dst=some t/\u=(s i).v/\∀i',i'<n->L i'->(o i').dst=some t->i'<=i)\/((∀i,i<n->L i->(o i).dst≠some t)/\T0.get t=some u)
theorem mc.text(c:mc P nt ops π n r0 o s b Ts Hs):∀(i:Nat),i<=n->∀t u,(Ts i).get t=some u->TSp o s (Ts 0) n (· < i) t u:=by
 intro i;induction i with
 |zero=>intro _ t u h;exact .inr ⟨λi _ h=>by simp at h,h⟩
 |succ i ih=>
  intro hi t u h;rw[c.Tn i (by omega)]at h;cases hd:(o i).dst with
  |none=>
   rw[hd]at h;simp only[lh]at h;rcases ih (by omega) t u h with⟨k,h1,h2,h3,h4,h5⟩|⟨h1,h2⟩
   ·refine .inl ⟨k,h1,by simp only at h2 ⊢; omega,h3,h4,λi' a1 a2 a3=>?_⟩;by_cases he:i'=i
    ·subst he;rw[hd]at a3;cases a3
    ·exact h5 i' a1 (by simp only at a2 ⊢; omega) a3
   ·refine .inr ⟨λi' a1 a2 a3=>?_,h2⟩;by_cases he:i'=i
    ·subst he;rw[hd]at a3;cases a3
    ·exact h1 i' a1 (by simp only at a2 ⊢; omega) a3
  |some d=>
   rw[hd]at h;simp only[lh]at h;by_cases ht:t=d
   ·subst ht;rw[Tm.cq]at h;cases h;exact .inl ⟨i,by omega,by simp only;omega,hd,rfl,λi' a1 a2 a3=>by simp only at a2;omega⟩
   ·rw[Tm.ch _ _ ht]at h;rcases ih (by omega) t u h with⟨k,h1,h2,h3,h4,h5⟩|⟨h1,h2⟩
    ·refine .inl ⟨k,h1,by simp only at h2 ⊢; omega,h3,h4,λi' a1 a2 a3=>?_⟩;by_cases he:i'=i
     ·subst he;rw[hd]at a3;cases a3;exact absurd rfl ht
     ·exact h5 i' a1 (by simp only at a2 ⊢; omega) a3
    ·refine .inr ⟨λi' a1 a2 a3=>?_,h2⟩;by_cases he:i'=i
     ·subst he;rw[hd]at a3;cases a3;exact absurd rfl ht
     ·exact h1 i' a1 (by simp only at a2 ⊢; omega) a3
structure Inv(own:Nat->Prop)(β0:Bl)(w0:World)(nt:Nat)(ds:List Deferred)(n r0:Nat)(o:Nat->aY)(s:Nat->bR)(b:Nat->Nat)(Ts:Nat->Tm)(Hs:Nat->AH)(L:Nat->Prop)(β:Bl)(G:HF)(m:Nat)(a:Act)(w:World):Prop where
 sim:E_ own β G (Hs m).nx w
 sz:a.tmps.size=nt
 df:a.defers=ds
 closed:∀i,i<n->L i->∀j,Nat.testBit (b i) j=true->L j
 mle:m<=n
 cut:m=0\/∃e,m=e+1/\L e/\gJ s e
 CN:∀e,e<n->gJ s e->L e->e<m
 g1:∀x,(x<r0+m\/r0+n<=x)->G x=(Hs m).H.get x
 g2:∀j,m<=j->j<n->L j->∀r cs,(s j).k =.alloc r cs->G (r0+j)=some cs
 g3:∀j,m<=j->j<n->(¬L j\/¬fA s j)->G (r0+j)=none
 m0:∀j,m<=j->j<n->(Hs m).H.get (r0+j)=none
 EH:∀j,j<n->(¬L j\/¬fA s j)->β (r0+j)=none
 low:∀id,id<r0->β id=β0 id
 tm:∀t u,TSp o s (Ts 0) n L t u->VR w.heap (LF own β G) β u (a.tmps.getD t Go.undef)
 trans:kx β0 (λx=>(Hs 0).H.get x) w0 β G w
section
variable {own:Nat->Prop} {β0:Bl} {w0:World} {L:Nat->Prop} {β:Bl} {G:HF} {m:Nat} {a:Act} {w:World}
theorem mc.nxm(c:mc P nt ops π n r0 o s b Ts Hs)(hup:∀i,i<n->(Hs i).nx<=(Hs (i+1)).nx):∀i,i<=n->r0+n<=(Hs i).nx
 |0,_=>c.nx0
 |i+1,h=>ane (c.nxm hup i (by omega)) (hup i (by omega))
theorem Inv.ahead(c:mc P nt ops π n r0 o s b Ts Hs)(v:Inv own β0 w0 nt ds n r0 o s b Ts Hs L β G m a w){k:Nat}(hk:k<m)(h:gJ s k\/fA s k):L k:=by
 rcases v.cut with rfl|⟨e,rfl,he,hE⟩
 ·omega
 ·by_cases hke:k=e
  ·subst hke;exact he
  ·have hkn:e<n:=by have:=v.mle;omega
   rcases c.pair k e (by omega) hkn with hb|⟨_,hr⟩
   ·exact v.closed e hkn he k hb
   ·obtain⟨V,C,hV⟩:=hE;rcases h with⟨V',C',hV'⟩|⟨r,cs,hr'⟩
    ·rw[hV,hV']at hr;simp[aU]at hr
    ·rw[hV,hr']at hr;simp[aU]at hr
theorem Inv.Uw(c:mc P nt ops π n r0 o s b Ts Hs)(v:Inv own β0 w0 nt ds n r0 o s b Ts Hs L β G m a w){i x:Nat}(hi:i<n)(hL:¬L i)(hP:∀j,Nat.testBit (b i) j=true->L j)(hk:(s i).k =.read x){ob:dx}(hob:(Hs i).H.get x=some ob):G x=some ob:=by
 have hiE:¬gJ s i:=by rintro⟨V,C,h⟩;rw[hk]at h;cases h
 have hiA:¬fA s i:=by rintro⟨V,C,h⟩;rw[hk]at h;cases h
 have Jf:∀k,k<n->(k<i->m<=k)->(i<=k->k<m)->x≠r0+k\/¬fA s k->(Hs (k+1)).H.get x=(Hs k).H.get x:=by
  intro k hkn h1 h2 hx;by_cases hE:gJ s k
  ·obtain⟨V,C,hV⟩:=hE;obtain⟨rfl,rfl⟩:=c.aiB hkn hV;rcases Nat.lt_trichotomy k i with hlt|heq|hgt
   ·have hnL:¬L k:=λh=>by have:=v.CN k hkn ⟨_,_,hV⟩ h;have:=h1 hlt;omega
    rcases c.pair k i hlt hi with hb|⟨_,hr⟩
    ·exact absurd (hP k hb) hnL
    ·rw[hV,hk]at hr;simp only[aU]at hr;exact(Lf hr).symm
   ·subst heq;exact absurd ⟨_,_,hV⟩ hiE
   ·rcases c.pair i k hgt hkn with hb|⟨_,hr⟩
    ·exact absurd (v.closed k hkn (v.ahead c (h2 (by omega)) (.inl ⟨_,_,hV⟩)) i hb) hL
    ·rw[hV,hk]at hr;simp only[aU]at hr;exact(Lf hr).symm
  ·by_cases hA:fA s k
   ·obtain⟨r,cs,hr⟩:=hA;rw[(c.als hkn hr).2,PM.ch];exact hx.resolve_right (λh=>h ⟨r,cs,hr⟩)
   ·rw[c.stays hkn hE hA]
 rcases aoi i m with him|hmi
 ·-- the cut lies behind
  have eQ:∀k,i<=k->k<=m->(Hs k).H.get x=some ob:=by
   intro k hik;induction hik with
   |refl=>intro _;exact hob
   | @step k hik ih=>
    intro hkm;have agt:k<m:=hkm;rw[Jf k (by have:=v.mle;omega) (λh=>by have:i<=k:=hik;omega) (λ_=>agt) ?_]
    ·exact ih (by omega)
    ·by_cases hA:fA s k
     ·left;have alF:i<=k:=hik;have hne:i≠k:=λh=>by subst h;exact hiA hA
      rcases c.pair i k (by omega) (by have:=v.mle;omega)with hb|⟨_,hr⟩
      ·exact absurd (v.closed k (by have:=v.mle;omega) (v.ahead c agt (.inr hA)) i hb) hL
      ·obtain⟨r,cs,hrk⟩:=hA;rw[hk,hrk]at hr;simp only[aU]at hr;rw[(c.als (by have:=v.mle;omega) hrk).1]at hr;intro he;subst he;simp at hr
     ·exact .inr hA
  have hm:=eQ m (by omega) (amY _);rw[v.g1 x ?_,hm];by_cases hx:r0+m<=x/\x<r0+n
  ·have:=v.m0 (x-r0) (by omega) (by omega);rw[show r0+(x-r0)=x by omega,hm]at this;cases this
  ·omega
 ·by_cases hx:∃k,m<=k/\k<i/\x=r0+k/\fA s k
  ·obtain⟨k,hk1,hk2,rfl,hA⟩:=hx;obtain⟨r,cs,hr⟩:=hA;have hLk:L k:=by
    rcases c.pair k i hk2 hi with hb|⟨_,hrr⟩
    ·exact hP k hb
    ·rw[hr,hk]at hrr;simp only[aU]at hrr;rw[(c.als (by omega) hr).1]at hrr;simp at hrr
   have eQ:∀q,k+1<=q->q<=i->(Hs q).H.get (r0+k)=some cs:=by
    intro q hq;induction hq with
    |refl=>intro _;rw[(c.als (by omega) hr).2,PM.cq]
    | @step q hq ih=>
     intro hqi;have hq':k+1<=q:=hq;have XE:q<i:=hqi;rw[Jf q (by omega) (λ_=>by omega) (λh=>by omega) (.inl (by omega))];exact ih (by omega)
   have:=eQ i (by omega) (amY _);rw[hob]at this;rw[this];exact v.g2 k hk1 (by omega) hLk r cs hr
  ·have eQ:∀q,m<=q->q<=i->(Hs q).H.get x=(Hs m).H.get x:=by
    intro q hq;induction hq with
    |refl=>intro _;rfl
    | @step q hq ih=>
     intro hqi;have hq':m<=q:=hq;have XE:q<i:=hqi;rw[Jf q (by omega) (λ_=>hq') (λh=>by omega) ?_,ih (by omega)];by_cases hA:fA s q
     ·left;intro he;exact hx ⟨q,hq',XE,he,hA⟩
     ·exact .inr hA
   have hm:=eQ i hmi (amY _);rw[hob]at hm;rw[v.g1 x ?_,<-hm];by_cases hx2:r0+m<=x/\x<r0+n
   ·have:=v.m0 (x-r0) (by omega) (by omega);rw[show r0+(x-r0)=x by omega,<-hm]at this;cases this
   ·omega
theorem Inv.abE(c:mc P nt ops π n r0 o s b Ts Hs)(v:Inv own β0 w0 nt ds n r0 o s b Ts Hs L β G m a w){i:Nat}(hi:i<n)(hL:¬L i)(hP:∀j,Nat.testBit (b i) j=true->L j)(hE:gJ s i):
  m<=i/\(Hs i).nx=(Hs m).nx/\(∀x ob,(Hs i).H.get x=some ob->G x=some ob)/\(∀x,(x<r0+(i+1)\/r0+n<=x)->(Hs i).H.get x=none->G x=none)/\(∀j,i<j->j<n->(Hs i).H.get (r0+j)=none):=by
 have hmi:m<=i:=by
  rcases aoi i m with h|h
  ·exact absurd (v.ahead c h (.inl hE)) hL
  ·exact h
 have noE:∀k,m<=k->k<i->¬gJ s k:=by
  intro k h1 h2 hk;rcases c.pair k i h2 hi with hb|⟨_,hr⟩
  ·have:=v.CN k (by omega) hk (hP k hb);omega
  ·obtain⟨V,C,hV⟩:=hE;obtain⟨V',C',hV'⟩:=hk;rw[hV,hV']at hr;simp[aU]at hr
 have alL:∀k,m<=k->k<i->fA s k->L k:=by
  intro k h1 h2 hk;rcases c.pair k i h2 hi with hb|⟨_,hr⟩
  ·exact hP k hb
  ·obtain⟨V,C,hV⟩:=hE;obtain⟨r,cs,hr'⟩:=hk;rw[hV,hr']at hr;simp[aU]at hr
 have eQ:∀q,m<=q->q<=i->(Hs q).nx=(Hs m).nx/\(∀x,(∀k,m<=k->k<q->fA s k->x≠r0+k)->(Hs q).H.get x=(Hs m).H.get x)/\(∀k,m<=k->k<q->∀r cs,(s k).k =.alloc r cs->(Hs q).H.get (r0+k)=some cs):=by
  intro q hq;induction hq with
  |refl=>intro _;exact⟨rfl,λ_ _=>rfl,λk h1 h2=>by omega⟩
  | @step q hq ih=>
   intro hqi;have hq':m<=q:=hq;have XE:q<i:=hqi;obtain⟨a1,a2,a3⟩:=ih (by omega);by_cases hA:fA s q
   ·obtain⟨r,cs,hr⟩:=hA;have hH:=(c.als (by omega) hr).2;refine⟨by rw[hH];exact a1,λx hx=>?_,λk h1 h2 r' cs' hr'=>?_⟩
    ·rw[hH,PM.ch _ _ (hx q hq' (by omega) ⟨r,cs,hr⟩)];exact a2 x (λk h1 h2=>hx k h1 (by omega))
    ·by_cases hkq:k=q
     ·subst hkq;rw[hr]at hr';cases hr';rw[hH,PM.cq]
     ·rw[hH,PM.ch _ _ (by omega)];exact a3 k h1 (by omega) r' cs' hr'
   ·have hH:=c.stays (i:=q) (by omega) (noE q hq' XE) hA;rw[hH];refine⟨a1,λx hx=>a2 x (λk h1 h2=>hx k h1 (by omega)),λk h1 h2 r' cs' hr'=>?_⟩;by_cases hkq:k=q
    ·subst hkq;exact absurd ⟨r',cs',hr'⟩ hA
    ·exact a3 k h1 (by omega) r' cs' hr'
 obtain⟨a1,a2,a3⟩:=eQ i hmi (amY _);have res:∀x,(∀k,m<=k->k<i->fA s k->x≠r0+k)->r0+m<=x->x<r0+n->(Hs i).H.get x=none:=by
  intro x hx h1 h2;rw[a2 x hx];have:=v.m0 (x-r0) (by omega) (by omega);rwa [show r0+(x-r0)=x by omega]at this
 refine⟨hmi,a1,λx ob hob=>?_,λx hx hn=>?_,λj h1 h2=>res _ (λk _ hk _=>by omega) (by omega) (by omega)⟩
 ·by_cases hx:∃k,m<=k/\k<i/\fA s k/\x=r0+k
  ·obtain⟨k,h1,h2,hA,rfl⟩:=hx;obtain⟨r,cs,hr⟩:=hA;rw[a3 k h1 h2 r cs hr]at hob;rw[v.g2 k h1 (by omega) (alL k h1 h2 ⟨r,cs,hr⟩) r cs hr,hob]
  ·have hx':∀k,m<=k->k<i->fA s k->x≠r0+k:=λk h1 h2 h3 he=>hx ⟨k,h1,h2,h3,he⟩
   by_cases hr:r0+m<=x/\x<r0+n
   ·rw[res x hx' hr.1 hr.2]at hob;cases hob
   ·rw[v.g1 x (by omega),<-a2 x hx',hob]
 ·by_cases hx2:∃k,m<=k/\k<i/\fA s k/\x=r0+k
  ·obtain⟨k,h1,h2,hA,rfl⟩:=hx2;obtain⟨r,cs,hr⟩:=hA;rw[a3 k h1 h2 r cs hr]at hn;cases hn
  ·have hx':∀k,m<=k->k<i->fA s k->x≠r0+k:=λk h1 h2 h3 he=>hx2 ⟨k,h1,h2,h3,he⟩
   by_cases hr:r0+m<=x/\x<r0+n
   ·have:=v.g3 (x-r0) (by omega) (by omega) (.inr (λhA=>by
     by_cases hxi:x-r0=i
     ·rw[hxi]at hA;obtain⟨V,C,hV⟩:=hE;obtain⟨r,cs,hr'⟩:=hA;rw[hV]at hr';cases hr'
     ·exact hx' (x-r0) (by omega) (by omega) hA (by omega)))
    rwa [show r0+(x-r0)=x by omega]at this
   ·rw[v.g1 x (by omega),<-a2 x hx',hn]
theorem Inv.look(c:mc P nt ops π n r0 o s b Ts Hs)(v:Inv own β0 w0 nt ds n r0 o s b Ts Hs L β G m a w){i:Nat}(hi:i<n)(hL:¬L i)(hP:∀j,Nat.testBit (b i) j=true->L j){t:Nat}(ht:t∈(o i).mN){u:AV}(hu:(Ts i).get t=some u):VR w.heap (LF own β G) β u (a.tmps.getD t Go.undef):=by
 refine v.tm t u ?_;have later:∀i',i'<n->L i'->(o i').dst=some t->i'<i:=by
  intro i' a1 a2 a3;rcases Nat.lt_trichotomy i' i with h|h|h
  ·exact h
  ·subst h;exact absurd a2 hL
  ·rcases c.pair i i' h a1 with hb|⟨ht2,_⟩
   ·exact absurd (v.closed i' a1 a2 i hb) hL
   ·simp only[l8,AW,a3,amZ,anX]at ht2;have:=ht2.1.2;rw[vg.2 ht]at this;cases this
 rcases c.text i (by omega) t u hu with⟨k,h1,h2,h3,h4,h5⟩|⟨h1,h2⟩
 ·have h2:k<i:=h2;have hLk:L k:=by
   rcases c.pair k i h2 hi with hb|⟨ht2,_⟩
   ·exact hP k hb
   ·simp only[l8,AW,h3,amZ,anX]at ht2;have:=ht2.1.1;rw[vg.2 ht]at this;cases this
  exact .inl ⟨k,h1,hLk,h3,h4,λi' a1 a2 a3=>h5 i' a1 (later i' a1 a2 a3) a3⟩
 ·exact .inr ⟨λi' a1 a2 a3=>h1 i' a1 (later i' a1 a2 a3) a3,h2⟩
theorem Dz(c:mc P nt ops π n r0 o s b Ts Hs)(v:Inv own β0 w0 nt ds n r0 o s b Ts Hs L β G m a w){i:Nat}(hi:i<n)(hL:¬L i){t:Nat}{u:AV}(h:TSp o s (Ts 0) n (λj=>j=i\/L j) t u):
  ((o i).dst=some t/\u=(s i).v)\/((o i).dst≠some t/\TSp o s (Ts 0) n L t u):=by
 by_cases hd:(o i).dst=some t
 ·left;refine⟨hd,?_⟩;rcases h with⟨k,h1,h2,h3,h4,h5⟩|⟨h1,h2⟩
  ·have hik:=h5 i hi (.inl rfl) hd;by_cases hki:k=i
   ·subst hki;exact h4
   ·have hLk:=h2.resolve_left hki;rcases c.pair i k (by omega) h1 with hb|⟨ht2,_⟩
    ·exact absurd (v.closed k h1 hLk i hb) hL
    ·simp only[l8,hd,h3,amZ,anX]at ht2;have:=ht2.2;simp at this
  ·exact absurd hd (h1 i hi (.inl rfl))
 ·right;refine⟨hd,?_⟩;rcases h with⟨k,h1,h2,h3,h4,h5⟩|⟨h1,h2⟩
  ·have hki:k≠i:=λe=>by subst e;exact hd h3
   exact .inl ⟨k,h1,h2.resolve_left hki,h3,h4,λi' a1 a2 a3=>h5 i' a1 (.inr a2) a3⟩
  ·exact .inr ⟨λi' a1 a2 a3=>h1 i' a1 (.inr a2) a3,h2⟩
end
end
theorem S2{T T':Tm}{o:aY}(h:∀t∈o.mN,T'.get t=T.get t):gd T' o.guard=gd T o.guard:=by
 unfold aY.mN at h;cases hg:o.guard with
 |none=>rfl
 |some p=>
  obtain⟨t,b⟩:=p;rw[hg]at h;simp only[gd];rw[h t (by simp)]
theorem uB{o:aY}{t:Nat}(h:t∈o.op.mN):t∈o.mN:=by
 unfold aY.mN;split
 ·exact List.mem_cons_of_mem _ h
 ·exact h
section
variable {P:Program} {nt:Nat} {ds:List Deferred} {ops:Array Oper} {π:Nat->Nat} {n r0:Nat} {o:Nat->aY} {s:Nat->bR} {b:Nat->Nat} {Ts:Nat->Tm} {Hs:Nat->AH}
variable {own:Nat->Prop} {β0:Bl} {w0:World} {L:Nat->Prop} {β:Bl} {G:HF} {m:Nat} {a:Act} {w:World}
theorem Inv.next(c:mc P nt ops π n r0 o s b Ts Hs)(v:Inv own β0 w0 nt ds n r0 o s b Ts Hs L β G m a w){i:Nat}(hi:i<n)(hL:¬L i)(hP:∀j,Nat.testBit (b i) j=true->L j)(hE:¬gJ s i)
  {β':Bl} {G':HF} {w':World} {cv:Value} (hd:EC nt (o i).dst=true) (hs:E_ own β' G' (Hs m).nx w') (ht:kx β G w β' G' w') (hv:VR w'.heap (LF own β' G') β' (s i).v cv)
  (uk:∀id,id<(Hs m).nx->id≠r0+i->β' id=β id) (hbi:¬fA s i->β' (r0+i)=none) (hnx:r0+n<=(Hs m).nx)
  (hG:∀x,x≠r0+i->G' x=G x) (hGi:¬fA s i->G' (r0+i)=G (r0+i)) (hGa:∀r cs,(s i).k =.alloc r cs->m<=i/\G' (r0+i)=some cs):
  Inv own β0 w0 nt ds n r0 o s b Ts Hs (λj=>j=i\/L j) β' G' m (a.put (o i).dst cv) w':=by
 have old:∀t u,TSp o s (Ts 0) n L t u->VR w'.heap (LF own β' G') β' u (a.tmps.getD t Go.undef):=λt u hu=>(v.tm t u hu).later ht.later
 refine⟨hs,?_,?_,?_,v.mle,?_,?_,?_,?_,?_,v.m0,?_,?_,?_,v.trans.trans ht⟩
 ·cases hdd:(o i).dst<;>simp[Act.put,v.sz]
 ·cases hdd:(o i).dst<;>simp[Act.put,v.df]
 ·intro j hj hLj k hk;rcases hLj with rfl|hLj
  ·exact .inr (hP k hk)
  ·exact .inr (v.closed j hj hLj k hk)
 ·rcases v.cut with h|⟨e,h1,h2,h3⟩
  ·exact .inl h
  ·exact .inr ⟨e,h1,.inr h2,h3⟩
 ·intro e he hEe hLe;rcases hLe with rfl|hLe
  ·exact absurd hEe hE
  ·exact v.CN e he hEe hLe
 ·intro x hx;by_cases hxi:x=r0+i
  ·subst hxi;by_cases hA:fA s i
   ·obtain⟨r,cs,hr⟩:=hA;obtain⟨h1,_⟩:=hGa r cs hr;omega
   ·rw[hGi hA];exact v.g1 _ hx
  ·rw[hG x hxi];exact v.g1 x hx
 ·intro j h1 h2 hLj r cs hr;by_cases hji:j=i
  ·subst hji;exact(hGa r cs hr).2
  ·rw[hG _ (by omega)];exact v.g2 j h1 h2 (hLj.resolve_left hji) r cs hr
 ·intro j h1 h2 hj;by_cases hji:j=i
  ·subst hji;rcases hj with hj|hj
   ·exact absurd (.inl rfl) hj
   ·rw[hGi hj];exact v.g3 j h1 h2 (.inr hj)
  ·rw[hG _ (by omega)];exact v.g3 j h1 h2 (hj.imp (λh hl=>h (.inr hl)) id)
 ·intro j h1 hj;by_cases hji:j=i
  ·subst hji;rcases hj with hj|hj
   ·exact absurd (.inl rfl) hj
   ·exact hbi hj
  ·rw[uk _ (by omega) (by omega)];exact v.EH j h1 (hj.imp (λh hl=>h (.inr hl)) id)
 ·intro id hid;rw[uk id (by omega) (by omega)];exact v.low id hid
 ·intro t u hu;rcases Dz c v hi hL hu with⟨h1,rfl⟩|⟨h1,h2⟩
  ·have hlt:t<a.tmps.size:=by
    rw[v.sz];rw[h1]at hd;simpa[EC]using hd
   rw[h1];simpa[Act.put,hlt]using hv
  ·have:=old t u h2;cases hdd:(o i).dst with
   |none=>exact this
   |some d=>
    have hne:d≠t:=λe=>by subst e;exact h1 hdd
    simpa[Act.put,anU hne]using this
theorem Inv.step(c:mc P nt ops π n r0 o s b Ts Hs)(hnx:∀i,i<=n->r0+n<=(Hs i).nx)(v:Inv own β0 w0 nt ds n r0 o s b Ts Hs L β G m a w){i:Nat}(hi:i<n)(hL:¬L i)(hP:∀j,Nat.testBit (b i) j=true->L j)
  {K:Act->World->Prop} {Q:Exit->Act->World->Prop} (hK:∀β' G' m' a' w',Inv own β0 w0 nt ds n r0 o s b Ts Hs (λj=>j=i\/L j) β' G' m' a' w'->K a' w'):wpOp P ops Q (π i) K a w:=by
 obtain⟨oo,hoo,hco⟩:=c.cop i hi;obtain⟨q1,q2,q3⟩:=pH hco;unfold wpOp;simp only[hoo];have hTr:∀t∈(o i).mN,(p_ (Ts i) (o i).mN).get t=(Ts i).get t:=λt ht=>by rw[pK,am1 ht]
 have x6:∀V:Hp,(∀id ob,V.get id=some ob->G id=some ob)->Sim nt ds (iG own β G V) β (p_ (Ts i) (o i).mN) ⟨V,(Hs m).nx⟩ a w:=by
  intro V hV;refine⟨v.sim.split hV,v.sz,λt u hu=>?_,v.df⟩;rw[pK]at hu;split at hu
  ·rename_i ht;have:=v.look c hi hL hP ht hu;rw[show LL (iG own β G V) β (⟨V,(Hs m).nx⟩:AH).H=LF own β G from xp hV];exact this
  ·cases hu
 have zH:∀id ob,(PM.leaf:Hp).get id=some ob->G id=some ob:=λid ob h=>by simp[PM.get]at h
 have hgd:=S2 hTr;have q2':EC nt (o i).dst=true:=by rw[q3];exact q2
 obtain⟨cl,hcl,hst⟩:=c.step i hi;have quiet:∀(V:Hp),(∀id ob,V.get id=some ob->G id=some ob)->(¬gJ s i)->(¬fA s i)->∀u,(s i).v=u->aop cl (p_ (Ts i) (o i).mN) ⟨V,(Hs m).nx⟩ (o i).op=some (u,⟨V,(Hs m).nx⟩)->oo.wp P a w K Q:=by
  intro V hV hE hA u hu ha;refine C_ hcl (x6 V hV) q1 ha λcv w' β' g1 g2 g3=>?_
  obtain⟨k1,k2,k3,_⟩:=v.sim.glue hV g1 g3;have hGG:Eng.glue G V V=G:=by
   funext x
   unfold Eng.glue;cases hx:V.get x with
   |some ob=>exact(hV x ob hx).symm
   |none=>rfl
  rw[hGG]at k1 k2 k3;rw[<-q3];refine hK β' G m _ w' (v.next c hi hL hP hE q2' k1 k2 ?_ (λid hid _=>g3.low id hid) (λh=>?_) (hnx m v.mle) (λx _=>rfl) (λ_=>rfl) (λr cs hr=>absurd ⟨r,cs,hr⟩ hA))
  ·rw[hu];rw[show LL (iG own β G V) β' (⟨V,(Hs m).nx⟩:AH).H=LF own β' G from k3]at g2;exact g2
  ·rw[g3.low _ (by have:=hnx m v.mle;simp only;omega)];exact v.EH i hi (.inr h)
 generalize hsi:s i=si at hst;cases hst with
 |skip hg=>
  have hw:=gk (x6 .leaf zH) hco (hgd.trans hg);rw[hw,amU (by simp)];have hE:¬gJ s i:=by rintro⟨V,C,h⟩;rw[hsi]at h;cases h
  have hA:¬fA s i:=by rintro⟨V,C,h⟩;rw[hsi]at h;cases h
  rw[<-q3];refine hK β G m _ w (v.next c hi hL hP hE q2' v.sim (.refl _ _ _) ?_ (λ_ _ _=>rfl) (λh=>v.EH i hi (.inr h)) (hnx m v.mle) (λ_ _=>rfl) (λ_=>rfl) (λr cs hr=>absurd ⟨r,cs,hr⟩ hA));rw[hsi];exact .tup [] #[] rfl (λi c v hc=>by simp at hc)
 |alloc hg cs mk ha=>
  have hw:=gk (x6 .leaf zH) hco (hgd.trans hg);rw[hw,am1 rfl];refine .inl ?_;have hE:¬gJ s i:=by rintro⟨V,C,h⟩;rw[hsi]at h;cases h
  have hAl:fA s i:=⟨_,_,by rw[hsi]⟩;have hmi:m<=i:=by
   rcases aoi i m with h|h
   ·exact absurd (v.ahead c h (.inr hAl)) hL
   ·exact h
  have ha':eg (p_ (Ts i) (o i).mN) (o i).op=some (cs,mk):=by
   rw[Au (λt ht=>hTr t (uB ht))];exact ha
  have kH:=x6 .leaf zH;obtain⟨cv,w',fc,g1,g2,_,g3⟩:=MX (P:=P) (a:=a) kH.hp (λx y hxy=>fT kH hxy) q1 ha' (r0+i) (v.EH i hi (.inl hL));obtain⟨k1,k2,k3,_⟩:=v.sim.glue zH g1 g3;have aja:=hnx m v.mle;have N8:max (Hs m).nx (r0+i+1)=(Hs m).nx:=by omega
  rw[N8]at k1;unfold Oper.wp;rw[fc];show K _ _
  rw[<-q3];have hGx:∀x,x≠r0+i->Eng.glue G .leaf ((PM.leaf:Hp).put (r0+i) cs) x=G x:=by
   intro x hx;unfold Eng.glue;rw[PM.ch _ _ hx];simp[PM.get]
  have hGi:Eng.glue G .leaf ((PM.leaf:Hp).put (r0+i) cs) (r0+i)=some cs:=by
   unfold Eng.glue;rw[PM.cq]
  refine hK _ _ m _ w' (v.next c hi hL hP hE q2' k1 k2 ?_ (λid _ hne=>fK _ _ _ hne) (λh=>absurd hAl h) aja hGx (λh=>absurd hAl h) (λr cs' hr=>?_))
  ·rw[hsi];rw[k3]at g2;exact g2
  ·rw[hsi]at hr;cases hr;exact⟨hmi,hGi⟩
 |eff hg u h' ha hup=>
  have hE:gJ s i:=⟨_,_,by rw[hsi]⟩;obtain⟨e1,e2,e3,e4,e5⟩:=v.abE c hi hL hP hE;have hH1:Hs (i+1)=h':=by rw[c.Hn i hi,hsi];rfl
  have kH:=x6 (Hs i).H e3;have hw:=gk kH hco (hgd.trans hg);rw[hw,am1 rfl];refine .inl ?_;have hHi:(⟨(Hs i).H,(Hs m).nx⟩:AH)=Hs i:=by rw[<-e2]
  have ha':aop cl (p_ (Ts i) (o i).mN) ⟨(Hs i).H,(Hs m).nx⟩ (o i).op=some (u,h'):=by
   rw[su (λt ht=>hTr t (uB ht)),hHi];exact ha
  refine C_ hcl kH q1 ha' λcv w' β' g1 g2 g3=>?_
  obtain⟨k1,k2,k3,k4⟩:=v.sim.glue e3 g1 g3;have alR:=hnx m v.mle;have uk:∀id,id<(Hs m).nx->β' id=β id:=g3.low;have hC0:∀j,i<j->j<n->h'.H.get (r0+j)=none:=by
   intro j h1 h2;cases hq:h'.H.get (r0+j)with
   |none=>rfl
   |some ob=>
    exfalso;by_cases hc:L j/\fA s j
    ·obtain⟨r,cs,hr⟩:=hc.2;exact k4 (r0+j) _ ob (v.g2 j (by omega) h2 hc.1 r cs hr) (e5 j h1 h2) hq
    ·obtain⟨b1,Y1,hb1,_⟩:=g1.obj _ _ hq;rw[uk _ (by omega),v.EH j h2 (by
      by_cases hLj:L j
      ·exact .inr (λhA=>hc ⟨hLj,hA⟩)
      ·exact .inl hLj)]at hb1
     cases hb1
  have agD:∀x,(x<r0+(i+1)\/r0+n<=x)->Eng.glue G (Hs i).H h'.H x=h'.H.get x:=by
   intro x hx;unfold Eng.glue;cases hq:h'.H.get x with
   |some ob=>rfl
   |none=>
    cases hq2:(Hs i).H.get x with
    |none=>exact e4 x hx hq2
    |some ob=>rfl
  have UO:∀j,i<j->j<n->Eng.glue G (Hs i).H h'.H (r0+j)=G (r0+j):=by
   intro j h1 h2;unfold Eng.glue;rw[hC0 j h1 h2,e5 j h1 h2]
  rw[<-q3];refine hK β' (Eng.glue G (Hs i).H h'.H) (i+1) _ w' ?_;have old:∀t u,TSp o s (Ts 0) n L t u->VR w'.heap (LF own β' (Eng.glue G (Hs i).H h'.H)) β' u (a.tmps.getD t Go.undef):=λt u hu=>(v.tm t u hu).later k2.later
  refine⟨by rw[hH1];exact k1,?_,?_,?_,hi,.inr ⟨i,rfl,.inl rfl,hE⟩,?_,?_,?_,?_,?_,?_,?_,?_,v.trans.trans k2⟩
  ·cases hdd:(o i).dst<;>simp[Act.put,v.sz]
  ·cases hdd:(o i).dst<;>simp[Act.put,v.df]
  ·intro j hj hLj k hk;rcases hLj with rfl|hLj
   ·exact .inr (hP k hk)
   ·exact .inr (v.closed j hj hLj k hk)
  ·intro e he hEe hLe;rcases hLe with rfl|hLe
   ·omega
   ·have:=v.CN e he hEe hLe;omega
  ·intro x hx;rw[hH1];exact agD x hx
  ·intro j h1 h2 hLj r cs hr;rw[UO j (by omega) h2];exact v.g2 j (by omega) h2 (hLj.resolve_left (by omega)) r cs hr
  ·intro j h1 h2 hj;rw[UO j (by omega) h2];exact v.g3 j (by omega) h2 (hj.imp (λh hl=>h (.inr hl)) id)
  ·intro j h1 h2;rw[hH1];exact hC0 j (by omega) h2
  ·intro j h1 hj;rw[uk _ (by omega)];by_cases hji:j=i
   ·subst hji;exact v.EH j h1 (.inl hL)
   ·exact v.EH j h1 (hj.imp (λh hl=>h (.inr hl)) id)
  ·intro id hid;rw[uk id (by omega)];exact v.low id hid
  ·intro t u' hu;rcases Dz c v hi hL hu with⟨h1,rfl⟩|⟨h1,h2⟩
   ·have hlt:t<a.tmps.size:=by
     rw[v.sz];rw[h1]at q2';simpa[EC]using q2'
    rw[h1,hsi];rw[k3]at g2;simpa[Act.put,hlt]using g2
   ·have:=old t u' h2;cases hdd:(o i).dst with
    |none=>exact this
    |some d=>
     have hne:d≠t:=λe=>by subst e;exact h1 hdd
     simpa[Act.put,anU hne]using this
 |read hg u h' x ha hr=>
  have hE:¬gJ s i:=by rintro⟨V,C,h⟩;rw[hsi]at h;cases h
  have hA:¬fA s i:=by rintro⟨V,C,h⟩;rw[hsi]at h;cases h
  obtain⟨_,⟨ob,hob⟩,abU⟩:=Q0 hr ha;have hGx:=v.Uw c hi hL hP (by rw[hsi]) hob;have hV:∀id ob',((PM.leaf:Hp).put x ob).get id=some ob'->G id=some ob':=by
   intro id ob' h;rw[PM.jA]at h;split at h
   ·rename_i he;cases h;rw[he];exact hGx
   ·simp[PM.get]at h
  have hw:=gk (x6 _ hV) hco (hgd.trans hg);rw[hw,am1 rfl];refine .inl (quiet _ hV hE hA u (by rw[hsi]) ?_);rw[su (λt ht=>hTr t (uB ht))];exact abU _ (by rw[PM.cq,hob])
 |pure hg u h' ha hcA hcE hr=>
  have hE:¬gJ s i:=by rintro⟨V,C,h⟩;rw[hsi]at h;cases h
  have hA:¬fA s i:=by rintro⟨V,C,h⟩;rw[hsi]at h;cases h
  obtain⟨_,abU⟩:=QH hcA hcE hr ha;have hw:=gk (x6 .leaf zH) hco (hgd.trans hg);rw[hw,am1 rfl];refine .inl (quiet .leaf zH hE hA u (by rw[hsi]) ?_);rw[su (λt ht=>hTr t (uB ht))];exact abU _
