/- The abstract interpreter as a transformer of predicates: calls by contracts, loops by invariants, joins by predicates. -/
import Derived.Test.YtndpneieplopaaaGreatDoorEngT
import Derived.LoopNIn
import Derived.Lib.AtoiAll
import Derived.Lib.ItoaMem
import Derived.Lib.ValidU
set_option linter.unusedSimpArgs false
set_option linter.unusedVariables false
noncomputable section
namespace Go.Eng
open Go.RowKit
abbrev LA:=List AV
abbrev QT:=AV->AH->Prop
abbrev I(n:Int):AV:=.int .i64 n
abbrev NT:=List AV->AH->Prop
abbrev KT:=AX->List AV->List AV->AH->Prop
abbrev JT:=AX->List AV->AH->Prop
abbrev RT:=AX->AH->Prop
def Fex(P:Program)(f:Nat):Prop:=∃fn,P.funcs[f]?=some fn/\fn.body.isSome=true/\fn.name ≠ "runtime.NumGoroutine"
def aJ(P:Program)(f:Nat)(args:List AV)(h:AH)(Q:AV->AH->Prop):Prop:=
 Fex P f/\∀(own:Nat->Prop) (β:Bl) (w:World) (cS:Array Value),bV own β h.H h.nx w->RL w.heap (LL own β h.H) β args cS.toList->
  Calls P f cS w λe w'=>∃cv v h' β',e =.returned cv/\Q v h'/\bV own β' h'.H h'.nx w'/\VR w'.heap (LL own β' h'.H) β' v cv/\bJ own β h w β' h' w'
def aK(P:Program)(f:Nat)(args:List AV)(h:AH)(v:AV)(h':AH):Prop:=aJ P f args h λv1 h1=>v1=v/\h1=h'
theorem aJ.mono{P:Program}{f:Nat}{args:List AV}{h:AH}{Q R:AV->AH->Prop}(hc:aJ P f args h Q)(hq:∀v h',Q v h'->R v h'):aJ P f args h R:=
 ⟨hc.1,λown β w cS hs hR=>(hc.2 own β w cS hs hR).mono λe w' ⟨cv,v,h',β',h1,h2,h3⟩=>⟨cv,v,h',β',h1,hq _ _ h2,h3⟩⟩
theorem aK.calls{P:Program}{f:Nat}{args:List AV}{h h':AH}{v:AV}{Q:AV->AH->Prop}(hc:aK P f args h v h')(hq:Q v h'):aJ P f args h Q:=
 hc.mono λv1 h1 he=>by obtain⟨rfl,rfl⟩:=he;exact hq
open Classical in
noncomputable def O1(f:Nat)(args:List AV)(h:AH)(v:AV)(h':AH):cI:=λf1 YU h1=>if f1=f/\YU=args/\h1=h then some (v,h')else none
theorem MV(f:Nat)(args:List AV)(h:AH)(v:AV)(h':AH):O1 f args h v h' f args h=some (v,h'):=by simp[O1]
theorem W5{P:Program}{f:Nat}{args:List AV}{h h':AH}{v:AV}(hc:aK P f args h v h'):HOk P (O1 f args h v h'):=by
 intro f1 YU h1 v1 h1' he;unfold O1 at he;split at he
 ·rename_i hq;obtain⟨rfl,rfl,rfl⟩:=hq;cases he;refine⟨hc.1,λown β w cS hs hR=>(hc.2 own β w cS hs hR).mono ?_⟩;rintro e w' ⟨cv,v2,h2,β',h1,⟨rfl,rfl⟩,h3,h4,h5⟩;exact⟨cv,β',h1,h3,h4,h5⟩
 ·cases he
def noH:cI:=λ_ _ _=>none
theorem l_{P:Program}:HOk P noH:=λf args h v h' he=>by simp[noH]at he
def wk(r:Option (AV×AH))(k:AV->AH->Prop):Prop:=
 match r with
 |some (v,h')=>k v h'
 |none=>False
abbrev CL:=Nat->List AV->AH->(AV->AH->Prop)->Prop
def bt(P:Program)(cl:CL):Prop:=∀f args h Q,cl f args h Q->∃v h',aK P f args h v h'/\Q v h'
def ax(cl:CL)(f:AV)(args:List AV)(h:AH)(k:AV->AH->Prop):Prop:=
 match f with
 |.func (.func g) first captured=>cl g (first++args++captured) h k
 |_=>False
def wop(cl:CL)(op:AOp)(T:Tm)(h:AH)(k:AV->AH->Prop):Prop:=
 match op with
 |.call f args=>ax cl (f.ev T) (args.map (·.ev T)) h k
 |.mov x=>k (x.ev T) h
 |op=>wk (aop noH T h op) k
def wg(g:Option Bool)(A:(AV->AH->Prop)->Prop)(h:AH)(k:AV->AH->Prop):Prop:=
 match g with
 |some b=>(b=true->A k)/\(b=false->k eX h)
 |none=>False
def MO(cl:CL):List aY->Tm->AH->(Tm->AH->Prop)->Prop
 |[],T,h,k=>k T h
 |⟨d,op,none⟩::r,T,h,k=>wop cl op T h λv h'=>MO cl r (lh T d v) h' k
 |⟨d,op,some g⟩::r,T,h,k=>wg (gd T (some g)) (wop cl op T h) h λv h'=>MO cl r (lh T d v) h' k
def wsp(v:AV)(K:AV->Prop):Prop:=
 match v with
 |.bool b=>(b=true->K (.bool true))/\(b=false->K (.bool false))
 |v=>K v
def NC(o:Option Nat)(T:Tm)(K:Tm->Prop):Prop:=
 match o with
 |none=>K T
 |some r=>match T.get r with
  |some v=>wsp v λv=>K (T.put r v)
  |none=>K T
def zx(cl:CL):List (aY×Option Nat)->Tm->AH->(Tm->AH->Prop)->Prop
 |[],T,h,k=>k T h
 |(⟨d,op,none⟩,sp)::r,T,h,k=>NC sp T λT=>wop cl op T h λv h'=>zx cl r (lh T d v) h' k
 |(⟨d,op,some g⟩,sp)::r,T,h,k=>NC sp T λT=>wg (gd T (some g)) (wop cl op T h) h λv h'=>zx cl r (lh T d v) h' k
def rdK(o:Option Nat):Rec:=
 match o with
 |some x=>.read x
 |none=>.pure
def wal(r:Option (dx×(Nat->AV)))(k:dx->(Nat->AV)->Prop):Prop:=
 match r with
 |some (cs,mk)=>k cs mk
 |none=>False
def Dw(cl:CL)(op:AOp)(r:Nat)(T:Tm)(h:AH)(k:AV->Rec->AH->Prop):Prop:=
 cond (aA op) (wal (eg T op) λcs mk=>k (mk r) (.alloc r cs) (h.set r cs))
  (match op with
  |.call f args=>ax cl (f.ev T) (args.map (·.ev T)) h λv h'=>h.nx<=h'.nx/\k v (.eff h h') h'
  |op=>cond (aE op) (wk (aop noH T h op) λv h'=>h.nx<=h'.nx/\k v (.eff h h') h') (wk (aop noH T h op) λv _=>k v (rdK (aRd T op)) h))
def wgd(g:Option Bool)(A:(AV->Rec->AH->Prop)->Prop)(h:AH)(k:AV->Rec->AH->Prop):Prop:=
 match g with
 |some b=>(b=true->A k)/\(b=false->k eX .pure h)
 |none=>False
def qP(cl:CL):List aY->Nat->Tm->AH->(List Rec->Tm->AH->Prop)->Prop
 |[],_,T,h,k=>k [] T h
 |⟨d,op,none⟩::l,r,T,h,k=>Dw cl op r T h λv c h'=>qP cl l (r+1) (lh T d v) h' λks=>k (c::ks)
 |⟨d,op,some g⟩::l,r,T,h,k=>wgd (gd T (some g)) (Dw cl op r T h) h λv c h'=>qP cl l (r+1) (lh T d v) h' λks=>k (c::ks)
def sO(cl:CL):List (aY×Option Nat)->Nat->Tm->AH->(List Rec->Tm->AH->Prop)->Prop
 |[],_,T,h,k=>k [] T h
 |(⟨d,op,none⟩,sp)::l,r,T,h,k=>NC sp T λT=>Dw cl op r T h λv c h'=>sO cl l (r+1) (lh T d v) h' λks=>k (c::ks)
 |(⟨d,op,some g⟩,sp)::l,r,T,h,k=>NC sp T λT=>wgd (gd T (some g)) (Dw cl op r T h) h λv c h'=>sO cl l (r+1) (lh T d v) h' λks=>k (c::ks)
def stK(op:AOp):Nat:=
 cond (aA op) 2 (cond (aE op) 3 (match op with |.ld1 _=>1 |.ldn _ _=>1 |.xo _ _=>1|_=>0))
def wK(a b:Nat):Bool:=
 Nat.beq a 0||Nat.beq b 0||(Nat.beq a 1&&Nat.beq b 1)||(Nat.beq a 2&&Nat.beq b 2)||(Nat.beq a 3&&Nat.beq b 2)
def aqz(o:aY)(bits j:Nat):Nat->List aY->List (Nat×Nat)
 |_,[]=>[]
 |i,p::r=>cond (Nat.testBit bits i||wK (stK p.op) (stK o.op)) (aqz o bits j (i+1) r) ((i,j)::aqz o bits j (i+1) r)
def iB:List (aY×Nat)->Nat->List aY->List (Nat×Nat)
 |[],_,_=>[]
 |(o,bits)::l,j,acc=>aqz o bits j 0 acc++iB l (j+1) (acc++[o])
def A_(o:aY)(bits:Nat):Nat->List aY->Bool
 |_,[]=>true
 |i,p::r=>(Nat.testBit bits i||l8 p o)&&A_ o bits (i+1) r
def fq:List (aY×Nat)->List aY->Bool
 |[],_=>true
 |(o,bits)::l,acc=>A_ o bits 0 acc&&fq l (acc++[o])
def chk(ks:List Rec):List (Nat×Nat)->Prop->Prop
 |[],p=>p
 |(i,j)::r,p=>aU (ks.getD i .pure) (ks.getD j .pure)=true/\chk ks r p
def swp(ops:List (aY×Nat)):Bool:=
 match ops.drop (ops.length-2)with
 |[x,y]=>cond (Nq x.1) (cond (Nq y.1) (!(Nat.testBit y.2 (ops.length-2))&&ops.all λz=>Nat.blt z.2 (2^(ops.length-2))) false) false
 |_=>false
def Dv(ops:List (aY×Nat)):List (aY×Nat):=
 match ops.drop (ops.length-2)with
 |[x,y]=>ops.take (ops.length-2)++[x,(y.1,y.2 ||| 2^(ops.length-2))]
 |_=>ops
def VA(ops:List (aY×Nat)):List (aY×Nat):=ops.take (ops.length-2)++(ops.drop (ops.length-2)).reverse
def Rn(cl:CL)(ops:List (aY×Nat))(T:Tm)(h:AH)(k:Tm->AH->Prop):Prop:=
 cond (fq (Dv ops) []&&fq (Dv (VA ops)) []) (qP cl ((ops.take (ops.length-2)).map (·.1)) h.nx T ⟨h.H,h.nx+ops.length⟩ λks T h'=>
  (qP cl ((ops.drop (ops.length-2)).map (·.1)) (h.nx+(ops.length-2)) T h' λks2 T' h'=>chk (ks++ks2) (iB (Dv ops) 0 []) (k T' h'))/\
  (qP cl ((ops.drop (ops.length-2)).reverse.map (·.1)) (h.nx+(ops.length-2)) T h' λks2 T' h'=>chk (ks++ks2) (iB (Dv (VA ops)) 0 []) (k T' h'))) False
def Oz(cl:CL)(ops:List (aY×Nat))(T:Tm)(h:AH)(k:Tm->AH->Prop):Prop:=
 cond (fq ops []) (qP cl (ops.map (·.1)) h.nx T ⟨h.H,h.nx+ops.length⟩ λks T' h'=>chk ks (iB ops 0 []) (k T' h')) False
def Sa(cl:CL)(ops:List (aY×Nat))(T:Tm)(h:AH)(k:Tm->AH->Prop):Prop:=
 cond (swp ops) (Rn cl ops T h k) (Oz cl ops T h k)
def GC(cl:CL)(ops:List ((aY×Nat)×Option Nat))(T:Tm)(h:AH)(k:Tm->AH->Prop):Prop:=
 cond (fq (ops.map (·.1)) []) (sO cl (ops.map λx=>(x.1.1,x.2)) h.nx T ⟨h.H,h.nx+ops.length⟩ λks T' h'=>chk ks (iB (ops.map (·.1)) 0 []) (k T' h')) False
def wif(c:AV)(x y:Prop):Prop:=
 match c with
 |.bool b=>(b=true->x)/\(b=false->y)
 |_=>False
def vJ(A:(AX->List AV->AH->Prop)->Prop)(k:AX->List AV->AH->Prop):Prop:=
 ∃M:AX->List AV->AH->Prop,A M/\∀x vs h,M x vs h->k x vs h
def aI(A:(List AV->AH->Prop)->Prop)(k:List AV->AH->Prop):Prop:=
 ∃M:List AV->AH->Prop,A M/\∀vs h,M vs h->k vs h
def lk(m:Nat)(I:Nat->List AV->AH->Prop)(k:AX->List AV->AH->Prop):AX->List AV->List AV->AH->Prop
 |.nrm,vi,_,h=>∃m',m'<m/\I m' vi h
 |.exit j,_,vo,h=>k (.exit j) vo h
 |.ret,_,vo,h=>k .ret vo h
def b9(B:List AV->AH->(AX->List AV->List AV->AH->Prop)->Prop)(gE:List AV)(h:AH)(k:AX->List AV->AH->Prop):Prop:=
 ∃(I:Nat->List AV->AH->Prop) (m:Nat),I m gE h/\∀m vs h,I m vs h->B vs h (lk m I k)
def lkT(m:Nat)(I:Nat->Tm->AH->Prop)(k:AX->Tm->AH->Prop):AX->Tm->AH->Prop
 |.nrm,T,h=>∃m',m'<m/\I m' T h
 |.exit j,T,h=>k (.exit j) T h
 |.ret,T,h=>k .ret T h
def Qj(B:Tm->AH->(AX->Tm->AH->Prop)->Prop)(T:Tm)(h:AH)(k:AX->Tm->AH->Prop):Prop:=
 ∃(I:Nat->Tm->AH->Prop) (m:Nat),I m T h/\∀m T h,I m T h->B T h (lkT m I k)
abbrev xs(x:AX)(kn:Prop)(ke:Nat->Prop)(kr:Prop):Prop:=
 match x with
 |.nrm=>kn
 |.exit j=>ke j
 |.ret=>kr
def aqj(z:Nat):Nat->List AV->List (List AV)
 |0,_=>[]
 |n+1,l=>l.take z::aqj z n (l.drop z)
theorem arW(z:Nat):∀(n:Nat) (l:List AV),(aqj z n l).length=n
 |0,_=>rfl
 |n+1,l=>by simp[aqj,arW z n]
theorem arS(z:Nat):∀(n:Nat) (l:List AV) (k:Nat),k<n->(aqj z n l)[k]?=some ((l.drop (k*z)).take z)
 |0,_,k,h=>by omega
 |n+1,l,0,h=>by simp[aqj]
 |n+1,l,k+1,h=>by
  simp only[aqj,aCt];rw[arS z n (l.drop z) k (by omega),an4,aoQ,Nat.add_comm]
def arl(h:AH)(z:Nat)(v:AV):Option (List (List AV)):=
 match v with
 |.aa=>some []
 |.esl=>some []
 |.psl xs=>if xs.all (λx=>Nat.beq x.length z&&dj x)&&Nat.ble xs.length 9223372036854775807 then some xs else none
 |.rsl id off len z'=>if z'=z then match h.ab id with
  |some cs=>match cut cs off (len*z)with
   |some l=>if dj l then some (aqj z len l)else none
   |none=>none
  |none=>none
  else none
 |_=>none
def elV(en:Option Nat)(x:List AV):AV:=
 match en with
 |none=>x.headD .undef
 |some _=>.agg x
def afr(vs:List AV)(h:AH)(k:List AV->AH->Prop):Prop:=
 ∃vs':List AV,(∀(own:Nat->Prop) (β:Bl) (w:World),bV own β h.H h.nx w->∀(i:Nat) (a b:AV) (v:Value),vs[i]?=some a->vs'[i]?=some b->VR w.heap (LL own β h.H) β a v->VR w.heap (LL own β .leaf) β b v)/\k vs' ⟨.leaf,h.nx⟩
def ff(cl:CL):dh->Tm->AH->(AX->Tm->AH->Prop)->Prop
 |.skip,T,h,k=>k .nrm T h
 |.reg ops,T,h,k=>MO cl ops T h λT h=>k .nrm T h
 |.draw ops,T,h,k=>Sa cl ops T h λT h=>k .nrm T h
 |.I5 ops,T,h,k=>zx cl ops T h λT h=>k .nrm T h
 |.xG ops,T,h,k=>GC cl ops T h λT h=>k .nrm T h
 |.seq a b,T,h,k=>ff cl a T h λx T h=>xs x (ff cl b T h k) (λj=>k (.exit j) T h) (k .ret T h)
 |.cond c t e,T,h,k=>wif (c.ev T) (ff cl t T h k) (ff cl e T h k)
 |.block id b,T,h,k=>ff cl b T h λx T h=>xs x (k .nrm T h) (λj=>cond (Nat.beq j id) (k .nrm T h) (k (.exit j) T h)) (k .ret T h)
 |.loop li lo b,T,h,k=>b9 (λgE h k'=>ff cl b (mkT li gE) h λx T h=>k' x (yd li T) (yd lo T) h) (yd li T) h λx gE h=>k x (mkT lo gE) h
 |.join lo a,T,h,k=>vJ (λk'=>ff cl a T h λx T h=>k' x (yd lo T) h) λx gE h=>k x (mkT lo gE) h
 |.xI lo a,T,h,k=>aI (λk'=>ff cl a T h λx T h=>xs x (k' (yd lo T) h) (λ_=>False) False) λgE h=>k .nrm (mkT lo gE) h
 |.exit id,T,h,k=>k (.exit id) T h
 |.ret,T,h,k=>k .ret T h
 |.stuck,_,_,_=>False
 |.frz lo a,T,h,k=>afr (yd lo T) h λgE h=>ff cl a (mkT lo gE) h k
 |.zF b,T,h,k=>Qj (ff cl b) T h k
 |.rng _ _ _ _ _,_,_,_=>False
def bP(r:Option (List AV))(h:AH)(Q:AV->AH->Prop):Prop:=
 match r with
 |some vs=>Q (IC vs) h
 |none=>False
def afi(res:List NG)(Q:AV->AH->Prop)(x:AX)(T:Tm)(h:AH):Prop:=
 xs x (bP (BM T h res) h Q) (λ_=>False) (bP (BM T h res) h Q)
def ZF(cl:CL)(f:SFn)(args:List AV)(h:AH)(Q:AV->AH->Prop):Prop:=
 cond (Nat.ble args.length f.nt) (ff cl f.body (zf args 0 .leaf) h (afi f.res Q)) False
section
variable {P:Program} {nt:Nat} {ds:List Deferred} {own:Nat->Prop} {β:Bl} {T:Tm} {h:AH} {a:Act} {w:World}
theorem W0{cl:CL}(hcl:bt P cl)(hs:Sim nt ds own β T h a w){o:Oper}{f:Opd}{args:List Opd}(hc:ud P o.op =.call f args){k:AV->AH->Prop}(ha:ax cl (f.ev T) (args.map (·.ev T)) h k)
  {K:Act->World->Prop} {Q:Exit->Act->World->Prop}
  (hK:∀v h',k v h'->∀cv w' β',bV own β' h'.H h'.nx w'->VR w'.heap (LL own β' h'.H) β' v cv->bJ own β h w β' h' w'->K (a.put o.dst cv) w'):o.wp P a w K Q:=by
 have hop:=Ej (zE hc);obtain⟨c,fo,hop,hco,hf,has⟩:=hop;have hfv:=fT hs hf;unfold ax at ha;cases hfe:f.ev T<;>rw[hfe]at ha hfv<;>(try simp only at ha)<;>try(cases ha;done)
 rename_i fn first captured
 cases fn<;>(try simp only at ha)<;>try(cases ha;done)
 rename_i g;obtain⟨v0,h0,hd,hk0⟩:=hcl _ _ _ _ ha;obtain⟨⟨fn,hfn,U3,ET⟩,Jh⟩:=hd.calls hk0;generalize hce:a.eval fo=cf at hfv;cases hfv;rename_i f2 c2 hl1 h1 hl2 h2;have hR:RL w.heap (LL own β h.H) β (first++args.map (·.ev T)++captured) (f2++c.args.map a.eval++c2).toList:=by
  have r1:RL w.heap (LL own β h.H) β first f2.toList:=⟨by simpa using hl1,λi c v hc hv=>h1 i c v hc (by simpa using hv)⟩
  have r2:RL w.heap (LL own β h.H) β captured c2.toList:=⟨by simpa using hl2,λi c v hc hv=>h2 i c v hc (by simpa using hv)⟩;have r3:=vH hs has;have:=(r1.append r3).append r2;simpa using this
 have fc:(execOp a.eval o).run P w =.ok (.enter g (f2++c.args.map a.eval++c2)) w:=by
  have hb:fn.body.isNone=false:=by cases hq:fn.body<;>simp_all
  simp only[execOp,hop,resolve,hco,hce,Deferred.ofValue,anq,anG,ani,invoke,callFunc,run_program,hfn];simp[ET,hb]
 unfold Oper.wp;rw[fc];show Calls P g _ w _
 refine(Jh own β w _ hs.hp hR).mono ?_;rintro e w' ⟨cv,v,h',β',rfl,h3,h4,h5,h6⟩;exact hK v h' h3 cv w' β' h4 h5 h6
theorem SV{cl:CL}(hcl:bt P cl)(hs:Sim nt ds own β T h a w){o:Oper}{ao:AOp}(hc:ud P o.op=ao){k:AV->AH->Prop}(ha:wop cl ao T h k)
  {K:Act->World->Prop} {Q:Exit->Act->World->Prop}
  (hK:∀v h',k v h'->∀cv w' β',bV own β' h'.H h'.nx w'->VR w'.heap (LL own β' h'.H) β' v cv->bJ own β h w β' h' w'->K (a.put o.dst cv) w'):o.wp P a w K Q:=by
 unfold wop at ha;split at ha
 ·rename_i f args;exact W0 hcl hs hc ha hK
 ·rename_i x;exact C_ l_ hs hc (by rfl) (hK (x.ev T) h ha)
 ·unfold wk at ha;split at ha
  ·rename_i v h' hop;exact C_ l_ hs hc hop (hK v h' ha)
  ·exact ha.elim
theorem Cm{cl:CL}(hcl:bt P cl){ops:Array Oper}{Q:Exit->Act->World->Prop}:∀(l:List Oper) (al:List aY) (T:Tm) (h:AH) (k:Tm->AH->Prop) (a:Act) (w:World) (β:Bl),jY P nt ops l=some al->MO cl al T h k->Sim nt ds own β T h a w->
  (∀T' h',k T' h'->∀β' a' w',Sim nt ds own β' T' h' a' w'->bJ own β h w β' h' w'->Q .normal a' w')->wpList P ops Q l a w
 |[],al,T,h,k,a,w,β,hc,ha,hs,hQ=>by
  simp[jY]at hc;subst hc;exact hQ T h ha β a w hs (.refl _ _ _ _)
 |o::l,al,T,h,k,a,w,β,hc,ha,hs,hQ=>by
  unfold jY at hc;split at hc;case h_2=>cases hc
  rename_i ao al' h1 h2;cases hc;obtain⟨q1,q2,q3⟩:=pH h1;have run:wop cl ao.op T h (λv h'=>MO cl al' (lh T ao.dst v) h' k)->gd T ao.guard=some true->wpList P ops Q (o::l) a w:=by
   intro ha hg;have hw:=gk hs h1 hg;unfold wpList;rw[hw,am1 rfl];refine .inl (SV hcl hs q1 ha λv h' hk cv w' β' g1 g2 g3=>?_);rw[q3]at hk;exact Cm hcl l al' _ h' k _ w' β' h2 hk (hs.put q2 g1 g2 g3) λT' h'' hk' β'' a'' w'' k1 k2=>hQ T' h'' hk' β'' a'' w'' k1 (g3.trans k2)
  obtain⟨d,op,gu⟩:=ao;cases gu with
  |none=>exact run ha rfl
  |some g=>
   simp only[MO,wg]at ha;split at ha;case h_2=>exact ha.elim
   rename_i b hg;cases b with
   |true=>exact run (ha.1 rfl) hg
   |false=>
    have hw:=gk hs h1 hg;unfold wpList;rw[hw,amU (by simp)];have hk:=ha.2 rfl;rw[show d=o.dst from q3]at hk;refine Cm hcl l al' _ h k _ w β h2 hk (hs.put q2 hs.hp (?_:VR _ _ _ eX Go.undef) (.refl _ _ _ _)) λT' h'' hk' β'' a'' w'' k1 k2=>hQ T' h'' hk' β'' a'' w'' k1 k2
    exact .tup [] #[] rfl (λi c v hc=>by simp at hc)
end
section
variable {P:Program} {nt:Nat} {ds:List Deferred} {own:Nat->Prop}
theorem Tm.xK{T:Tm}{r:Nat}{v:AV}(h:T.get r=some v):T.put r v=T:=by
 funext t
 show cond (Nat.beq t r) (some v) (T t)=T t
 cases hb:Nat.beq t r with
 |true=>obtain rfl:=an8 hb;exact h.symm
 |false=>rfl
theorem pA{o:Option Nat}{T:Tm}{K:Tm->Prop}(hw:NC o T K):K T:=by
 unfold NC at hw;split at hw
 ·exact hw
 ·split at hw
  ·rename_i r v hv;unfold wsp at hw;split at hw
   ·rename_i b;cases b with
    |true=>have:=hw.1 rfl;simp only[Tm.xK hv]at this;exact this
    |false=>have:=hw.2 rfl;simp only[Tm.xK hv]at this;exact this
   ·rwa [Tm.xK hv]at hw
  ·exact hw
theorem wj{cl:CL}(hcl:bt P cl){ops:Array Oper}{Q:Exit->Act->World->Prop}:∀(l:List Oper) (al:List (aY×Option Nat)) (T:Tm) (h:AH) (k:Tm->AH->Prop) (a:Act) (w:World) (β:Bl),jY P nt ops l=some (al.map (·.1))->zx cl al T h k->Sim nt ds own β T h a w->
  (∀T' h',k T' h'->∀β' a' w',Sim nt ds own β' T' h' a' w'->bJ own β h w β' h' w'->Q .normal a' w')->wpList P ops Q l a w
 |[],al,T,h,k,a,w,β,hc,ha,hs,hQ=>by
  simp[jY]at hc;subst hc;exact hQ T h ha β a w hs (.refl _ _ _ _)
 |o::l,al,T,h,k,a,w,β,hc,ha,hs,hQ=>by
  unfold jY at hc;split at hc;case h_2=>cases hc
  rename_i ao al' h1 h2;cases al with
  |nil=>simp at hc
  |cons x al=>
  obtain⟨⟨d,op,gu⟩,sp⟩:=x;simp at hc;obtain⟨rfl,hal⟩:=hc;rw[hal]at h2;obtain⟨q1,q2,q3⟩:=pH h1;have run:∀T,Sim nt ds own β T h a w->wop cl op T h (λv h'=>zx cl al (lh T d v) h' k)->gd T gu=some true->wpList P ops Q (o::l) a w:=by
   intro T hs ha hg;have hw:=gk hs h1 hg;unfold wpList;rw[hw,am1 rfl];refine .inl (SV hcl hs q1 ha λv h' hk cv w' β' g1 g2 g3=>?_);rw[show d=o.dst from q3]at hk;exact wj hcl l al _ h' k _ w' β' h2 hk (hs.put q2 g1 g2 g3) λT' h'' hk' β'' a'' w'' k1 k2=>hQ T' h'' hk' β'' a'' w'' k1 (g3.trans k2)
  cases gu with
  |none=>
   exact run T hs (pA ha) rfl
  |some g=>
   simp only[zx]at ha;have ha':=pA ha;simp only[wg]at ha';split at ha';case h_2=>exact ha'.elim
   rename_i b hg;cases b with
   |true=>exact run T hs (ha'.1 rfl) hg
   |false=>
    have hw:=gk hs h1 hg;unfold wpList;rw[hw,amU (by simp)];have hk:=ha'.2 rfl;rw[show d=o.dst from q3]at hk;refine wj hcl l al _ h k _ w β h2 hk (hs.put q2 hs.hp (?_:VR _ _ _ eX Go.undef) (.refl _ _ _ _)) λT' h'' hk' β'' a'' w'' k1 k2=>hQ T' h'' hk' β'' a'' w'' k1 k2
    exact .tup [] #[] rfl (λi c v hc=>by simp at hc)
end
def tZ(n:Nat)(k:Rec):Prop:=
 k =.pure\/(n=1/\∃x,k =.read x)\/(n=2/\∃r cs,k =.alloc r cs)\/(n=3/\∃V C,k =.eff V C)
theorem La{a b:Nat}{x y:Rec}(hf:wK a b=true)(hx:tZ a x)(hy:tZ b y):aU x y=true:=by
 rcases hx with rfl|⟨rfl,_,rfl⟩|⟨rfl,_,_,rfl⟩|⟨rfl,_,_,rfl⟩<;>rcases hy with rfl|⟨rfl,_,rfl⟩|⟨rfl,_,_,rfl⟩|⟨rfl,_,_,rfl⟩<;>first|rfl|(simp[wK]at hf)
theorem yr{P:Program}{cl:CL}(hcl:bt P cl){d:Option Nat}{op:AOp}{g:Option (Nat×Bool)}{r:Nat}{T:Tm}{h:AH}{k:AV->Rec->AH->Prop}(hg:gd T g=some true)(hw:Dw cl op r T h k):
  ∃cl s,HOk P cl/\nX cl ⟨d,op,g⟩ r T h=some s/\k s.v s.k s.h'/\tZ (stK op) s.k:=by
 unfold Dw at hw;cases hA:aA op with
 |true=>
  rw[hA]at hw;simp only[aoB,wal]at hw;split at hw
  ·rename_i cs mk ha;exact⟨noH,⟨T,h,mk r,.alloc r cs⟩,l_,by simp[nX,hg,hA,ha],hw,.inr (.inr (.inl ⟨by simp[stK,hA],_,_,rfl⟩))⟩
  ·exact hw.elim
 |false=>
  rw[hA]at hw;simp only[cond_false]at hw;split at hw
  ·rename_i f args;unfold ax at hw;split at hw
   ·rename_i g' first captured hfe
    obtain⟨v,h',hc,hle,hk⟩:=hcl _ _ _ _ hw;refine⟨_,⟨T,h,v,.eff h h'⟩,W5 hc,?_,hk,.inr (.inr (.inr ⟨rfl,_,_,rfl⟩))⟩;have:aop (O1 g' (first++args.map (·.ev T)++captured) h v h') T h (.call f args)=some (v,h'):=by
     simp only[aop,wN,hfe,MV]
    simp only[aok]at this ⊢;simp[nX,hg,aA,this,aE,hle]
   ·exact hw.elim
  ·rename_i hnc;cases hE:aE op with
   |true=>
    rw[hE]at hw;simp only[aoB,wk]at hw;split at hw
    ·rename_i v h' ha;exact⟨noH,⟨T,h,v,.eff h h'⟩,l_,by simp[nX,hg,hA,ha,hE,hw.1],hw.2,.inr (.inr (.inr ⟨by simp[stK,hA,hE],_,_,rfl⟩))⟩
    ·exact hw.elim
   |false=>
    rw[hE]at hw;simp only[cond_false,wk]at hw;split at hw
    ·rename_i v h' ha;cases hr:aRd T op with
     |some x=>
      rw[hr]at hw;refine⟨noH,⟨T,h,v,.read x⟩,l_,by simp[nX,hg,hA,ha,hE,hr],hw,.inr (.inl ⟨?_,_,rfl⟩)⟩;cases op<;>simp[aRd]at hr<;>first|rfl|simp[stK,hA,hE]
     |none=>
      rw[hr]at hw;exact⟨noH,⟨T,h,v,.pure⟩,l_,by simp[nX,hg,hA,ha,hE,hr],hw,.inl rfl⟩
    ·exact hw.elim
theorem lC{P:Program}{cl:CL}(hcl:bt P cl):∀(l:List aY) (r:Nat) (T:Tm) (h:AH) (k:List Rec->Tm->AH->Prop),qP cl l r T h k->
  ∃ss T' h',oi P l r T h ss T' h'/\k (ss.map (·.k)) T' h'/\∀(i:Nat) (o:aY) (s:bR),l[i]?=some o->ss[i]?=some s->tZ (stK o.op) s.k
 |[],r,T,h,k,hw=>⟨[],T,h,.nil _ _ _,hw,λi o s ho=>by simp at ho⟩
 |⟨d,op,gu⟩::l,r,T,h,k,hw=>by
  have run:gd T gu=some true->Dw cl op r T h (λv c h'=>qP cl l (r+1) (lh T d v) h' λks=>k (c::ks))->∃ss T' h',oi P (⟨d,op,gu⟩::l) r T h ss T' h'/\k (ss.map (·.k)) T' h'/\∀(i:Nat) (o:aY) (s:bR),((⟨d,op,gu⟩:aY)::l)[i]?=some o->ss[i]?=some s->tZ (stK o.op) s.k:=by
   intro hg hw;obtain⟨cl',s,acv,hs,hk,hR⟩:=yr hcl (d:=d) hg hw;obtain⟨ss,T',h',e1,e2,e3⟩:=lC hcl l (r+1) _ _ _ hk;refine⟨s::ss,T',h',.cons cl' acv hs e1,e2,λi o s' ho hs'=>?_⟩;cases i with
   |zero=>simp at ho hs';subst ho;subst hs';exact hR
   |succ i=>simp at ho hs';exact e3 i o s' ho hs'
  cases gu with
  |none=>exact run rfl hw
  |some g=>
   simp only[qP,wgd]at hw;split at hw;case h_2=>exact hw.elim
   rename_i b hg;cases b with
   |true=>exact run hg (hw.1 rfl)
   |false=>
    obtain⟨ss,T',h',e1,e2,e3⟩:=lC hcl l (r+1) _ _ _ (hw.2 rfl);refine⟨⟨T,h,eX,.pure⟩::ss,T',h',.cons noH l_ (by simp[nX,hg]) e1,e2,λi o s' ho hs'=>?_⟩;cases i with
    |zero=>simp at ho hs';subst ho;subst hs';exact .inl rfl
    |succ i=>simp at ho hs';exact e3 i o s' ho hs'
theorem qo{P:Program}{cl:CL}(hcl:bt P cl):∀(l:List (aY×Option Nat)) (r:Nat) (T:Tm) (h:AH) (k:List Rec->Tm->AH->Prop),sO cl l r T h k->
  ∃ss T' h',oi P (l.map (·.1)) r T h ss T' h'/\k (ss.map (·.k)) T' h'/\∀(i:Nat) (o:aY) (s:bR),(l.map (·.1))[i]?=some o->ss[i]?=some s->tZ (stK o.op) s.k
 |[],r,T,h,k,hw=>⟨[],T,h,.nil _ _ _,hw,λi o s ho=>by simp at ho⟩
 |(⟨d,op,gu⟩,sp)::l,r,T,h,k,hw=>by
  have run:gd T gu=some true->Dw cl op r T h (λv c h'=>sO cl l (r+1) (lh T d v) h' λks=>k (c::ks))->∃ss T' h',oi P (⟨d,op,gu⟩::l.map (·.1)) r T h ss T' h'/\k (ss.map (·.k)) T' h'/\∀(i:Nat) (o:aY) (s:bR),((⟨d,op,gu⟩:aY)::l.map (·.1))[i]?=some o->ss[i]?=some s->tZ (stK o.op) s.k:=by
   intro hg hw;obtain⟨cl',s,acv,hs,hk,hR⟩:=yr hcl (d:=d) hg hw;obtain⟨ss,T',h',e1,e2,e3⟩:=qo hcl l (r+1) _ _ _ hk;refine⟨s::ss,T',h',.cons cl' acv hs e1,e2,λi o s' ho hs'=>?_⟩;cases i with
   |zero=>simp at ho hs';subst ho;subst hs';exact hR
   |succ i=>
    simp only[aCt]at ho hs';exact e3 i o s' ho hs'
  cases gu with
  |none=>exact run rfl (pA hw)
  |some g=>
   simp only[sO]at hw;have hw:=pA hw;simp only[wgd]at hw;split at hw;case h_2=>exact hw.elim
   rename_i b hg;cases b with
   |true=>exact run hg (hw.1 rfl)
   |false=>
    obtain⟨ss,T',h',e1,e2,e3⟩:=qo hcl l (r+1) _ _ _ (hw.2 rfl);refine⟨⟨T,h,eX,.pure⟩::ss,T',h',.cons noH l_ (by simp[nX,hg]) e1,e2,λi o s' ho hs'=>?_⟩;cases i with
    |zero=>simp at ho hs';subst ho;subst hs';exact .inl rfl
    |succ i=>
     simp only[anO,aCt]at ho hs';exact e3 i o s' ho hs'
theorem aqL{o:aY}{bits j:Nat}:∀(l:List aY) (k:Nat) (i:Nat) (p:aY),l[i]?=some p->Nat.testBit bits (k+i)=true\/wK (stK p.op) (stK o.op)=true\/(k+i,j)∈aqz o bits j k l
 |[],k,i,p,hi=>by simp at hi
 |p0::l,k,i,p,hi=>by
  cases i with
  |zero=>
   simp at hi;subst hi;cases hb:Nat.testBit bits k with
   |true=>exact .inl (by simp)
   |false=>
    cases hf:wK (stK p0.op) (stK o.op)with
    |true=>exact .inr (.inl rfl)
    |false=>exact .inr (.inr (by simp[aqz,hb,hf]))
  |succ i=>
   simp at hi;have:=aqL (o:=o) (bits:=bits) (j:=j) l (k+1) i p hi;rw[show k+1+i=k+(i+1)by omega]at this;rcases this with h|h|h
   ·exact .inl h
   ·exact .inr (.inl h)
   ·refine .inr (.inr ?_);simp only[aqz];cases(Nat.testBit bits k||wK (stK p0.op) (stK o.op))<;>simp[h]
theorem mF:∀(l:List (aY×Nat)) (n:Nat) (acc:List aY),acc.length=n->∀(j:Nat) (o:aY) (bits:Nat),l[j]?=some (o,bits)->∀i p,(acc++l.map (·.1))[i]?=some p->i<n+j->
  Nat.testBit bits i=true\/wK (stK p.op) (stK o.op)=true\/(i,n+j)∈iB l n acc
 |[],n,acc,hn,j,o,bits,hj,i,p,hi,hlt=>by simp at hj
 |(o0,b0)::l,n,acc,hn,j,o,bits,hj,i,p,hi,hlt=>by
  cases j with
  |zero=>
   simp at hj;obtain⟨rfl,rfl⟩:=hj;rw[aod,am1 (by omega)]at hi;have:=aqL (o:=o0) (bits:=b0) (j:=n) acc 0 i p hi;rw[aoe]at this;rcases this with h|h|h
   ·exact .inl h
   ·exact .inr (.inl h)
   ·exact .inr (.inr (by simp[iB,h]))
  |succ j=>
   simp at hj;have:=mF l (n+1) (acc++[o0]) (by simp[hn]) j o bits hj i p (by simpa using hi) (by omega);rw[show n+1+j=n+(j+1)by omega]at this;rcases this with h|h|h
   ·exact .inl h
   ·exact .inr (.inl h)
   ·exact .inr (.inr (by simp[iB,h]))
theorem tq{o:aY}{bits:Nat}:∀(l:List aY) (k:Nat),A_ o bits k l=true->∀(i:Nat) (p:aY),l[i]?=some p->Nat.testBit bits (k+i)=true\/l8 p o=true
 |[],k,h,i,p,hi=>by simp at hi
 |p0::l,k,h,i,p,hi=>by
  simp only[A_,amZ,anV]at h;cases i with
  |zero=>simp at hi;subst hi;exact h.1
  |succ i=>
   simp at hi;have:=tq l (k+1) h.2 i p hi;rwa [show k+1+i=k+(i+1)by omega]at this
theorem mJ:∀(l:List (aY×Nat)) (acc:List aY),fq l acc=true->∀(j:Nat) (o:aY) (bits:Nat),l[j]?=some (o,bits)->∀i p,(acc++l.map (·.1))[i]?=some p->i<acc.length+j->Nat.testBit bits i=true\/l8 p o=true
 |[],acc,h,j,o,bits,hj,i,p,hi,hlt=>by simp at hj
 |(o0,b0)::l,acc,h,j,o,bits,hj,i,p,hi,hlt=>by
  simp only[fq,amZ]at h;cases j with
  |zero=>
   simp at hj;obtain⟨rfl,rfl⟩:=hj;rw[aod,am1 (by omega)]at hi;have:=tq acc 0 h.1 i p hi;rwa [aoe]at this
  |succ j=>
   simp at hj;exact mJ l (acc++[o0]) h.2 j o bits hj i p (by simpa using hi) (by simp;omega)
theorem vG{ks:List Rec}:∀(l:List (Nat×Nat)) (p:Prop),chk ks l p->p/\∀i j,(i,j)∈l->aU (ks.getD i .pure) (ks.getD j .pure)=true
 |[],p,h=>⟨h,λi j hm=>by simp at hm⟩
 |(i0,j0)::l,p,h=>by
  obtain⟨h1,h2⟩:=vG l p h.2;refine⟨h1,λi j hm=>?_⟩;simp at hm;rcases hm with⟨rfl,rfl⟩|hm
  ·exact h.1
  ·exact h2 i j hm
section
variable {P:Program} {nt:Nat} {ds:List Deferred} {own:Nat->Prop} {β:Bl} {T:Tm} {h:AH} {a:Act} {w:World}
theorem u_{ops:Array Oper}{L:List (aY×Nat)}{π:Nat->Nat}(x9:P.follows .mixedOrders=true)(hd:DL P nt ops L π){k:Tm->AH->Prop}(ht:fq L []=true){ss:List bR}{T':Tm}{h':AH}(e1:oi P (L.map (·.1)) h.nx T ⟨h.H,h.nx+L.length⟩ ss T' h')(e2:chk (ss.map (·.k)) (iB L 0 []) (k T' h'))(e3:∀(i:Nat) (o:aY) (s:bR),(L.map (·.1))[i]?=some o->ss[i]?=some s->tZ (stK o.op) s.k)(hs:Sim nt ds own β T h a w)
  {Q:Exit->Act->World->Prop} (hQ:∀T' h',k T' h'->∀β' a' w',Sim nt ds own β' T' h' a' w'->bJ own β h w β' h' w'->Q .normal a' w'):wpAny P .any ops Q ops.size (Array.replicate ops.size false) a { w with drawn:=w.drawn+1 }:=by
 obtain⟨hk,aci⟩:=vG _ _ e2;refine yy x9 hd e1 (λi j p o q s bits bp hij h1 h2 h3 h4=>?_) hs (hQ T' h' hk);have hz:L[j]?=some (o,bits):=h3;have hz2:(([]:List aY)++L.map (·.1))[i]?=some p:=by
  rw[anx,anb,h1];rfl
 have hz3:(L.map (·.1))[j]?=some o:=by rw[anb,h3];rfl
 have hz4:(L.map (·.1))[i]?=some p:=by rw[anb,h1];rfl
 rcases mJ _ _ ht j o bits hz i p hz2 (by simpa using hij)with h6|h6
 ·exact .inl h6
 rcases mF _ 0 [] rfl j o bits hz i p hz2 (by omega)with h7|h7|h7
 ·exact .inl h7
 ·exact .inr ⟨h6,La h7 (e3 i p q hz4 h2) (e3 j o s hz3 h4)⟩
 ·refine .inr ⟨h6,?_⟩;have:=aci i (0+j) h7;rw[aoe]at this;simpa[h2,h4]using this
theorem oG{P:Program}:∀(l1 l2:List aY) (r:Nat) (T:Tm) (h:AH) (s1:List bR) (T1:Tm) (h1:AH) (s2:List bR) (T2:Tm) (h2:AH),oi P l1 r T h s1 T1 h1->oi P l2 (r+l1.length) T1 h1 s2 T2 h2->oi P (l1++l2) r T h (s1++s2) T2 h2
 |[],l2,r,T,h,s1,T1,h1,s2,T2,h2,d1,d2=>by cases d1;exact d2
 |o::l1,l2,r,T,h,s1,T1,h1,s2,T2,h2,d1,d2=>by
  cases d1 with
  |cons cl hcl hs hr=>
   refine .cons cl hcl hs (oG l1 l2 _ _ _ _ _ _ _ _ _ hr ?_);rw[show r+1+l1.length=r+(l1.length+1)by omega];exact d2
theorem rL{P:Program}:∀(l:List aY) (r:Nat) (T:Tm) (h:AH) (ss:List bR) (T1:Tm) (h1:AH),oi P l r T h ss T1 h1->ss.length=l.length
 |[],_,_,_,_,_,_,d=>by cases d;rfl
 |o::l,_,_,_,_,_,_,d=>by
  cases d with
  |cons cl hcl hs hr=>simp[rL l _ _ _ _ _ _ hr]
theorem Dj{L:List (aY×Nat)}{ss:List bR}{p:Prop}(ht:fq L []=true)(e2:chk (ss.map (·.k)) (iB L 0 []) p)(e3:∀(i:Nat) (o:aY) (s:bR),(L.map (·.1))[i]?=some o->ss[i]?=some s->tZ (stK o.op) s.k):
  p/\∀(i j:Nat) (p o:aY) (q s:bR) (bits bp:Nat),i<j->L[i]?=some (p,bp)->ss[i]?=some q->L[j]?=some (o,bits)->ss[j]?=some s->Nat.testBit bits i=true\/(l8 p o=true/\aU q.k s.k=true):=by
 obtain⟨hk,aci⟩:=vG _ _ e2;refine⟨hk,λi j p o q s bits bp hij h1 h2 h3 h4=>?_⟩;have hz2:(([]:List aY)++L.map (·.1))[i]?=some p:=by
  rw[anx,anb,h1];rfl
 have hz3:(L.map (·.1))[j]?=some o:=by rw[anb,h3];rfl
 have hz4:(L.map (·.1))[i]?=some p:=by rw[anb,h1];rfl
 rcases mJ _ _ ht j o bits h3 i p hz2 (by simpa using hij)with h6|h6
 ·exact .inl h6
 rcases mF _ 0 [] rfl j o bits h3 i p hz2 (by omega)with h7|h7|h7
 ·exact .inl h7
 ·exact .inr ⟨h6,La h7 (e3 i p q hz4 h2) (e3 j o s hz3 h4)⟩
 ·refine .inr ⟨h6,?_⟩;have:=aci i (0+j) h7;rw[aoe]at this;simpa[h2,h4]using this
theorem tj{A B:List aY}{s1 s2:List bR}(hl:s1.length=A.length)(h1:∀(i:Nat) (o:aY) (s:bR),A[i]?=some o->s1[i]?=some s->tZ (stK o.op) s.k)(h2:∀(i:Nat) (o:aY) (s:bR),B[i]?=some o->s2[i]?=some s->tZ (stK o.op) s.k):
  ∀(i:Nat) (o:aY) (s:bR),(A++B)[i]?=some o->(s1++s2)[i]?=some s->tZ (stK o.op) s.k:=by
 intro i o s ho hs;by_cases hi:i<A.length
 ·rw[anz hi]at ho;rw[anz (by omega)]at hs;exact h1 i o s ho hs
 ·rw[anj (by omega)]at ho;rw[anj (by omega),hl]at hs;exact h2 _ o s ho hs
theorem M_{cl:CL}(hcl:bt P cl){ops:Array Oper}{L:List (aY×Nat)}{π:Nat->Nat}(x9:P.follows .mixedOrders=true)(hd:DL P nt ops L π)(hc:Vu ops L π){k:Tm->AH->Prop}(ha:Sa cl L T h k)(hs:Sim nt ds own β T h a w)
  {Q:Exit->Act->World->Prop} (hQ:∀T' h',k T' h'->∀β' a' w',Sim nt ds own β' T' h' a' w'->bJ own β h w β' h' w'->Q .normal a' w'):wpAny P .any ops Q ops.size (Array.replicate ops.size false) a { w with drawn:=w.drawn+1 }:=by
 unfold Sa at ha;cases hsw:swp L with
 |false=>
  rw[hsw]at ha;simp only[cond_false]at ha;unfold Oz at ha;cases ht:fq L []with
  |false=>rw[ht]at ha;exact ha.elim
  |true=>
  rw[ht]at ha;simp only[aoB]at ha;obtain⟨ss,T',h',e1,e2,e3⟩:=lC hcl _ _ _ _ _ ha;exact u_ x9 hd ht e1 e2 e3 hs hQ
 |true=>
  rw[hsw]at ha;simp only[aoB]at ha;unfold Rn at ha;obtain⟨R,x,y,rfl,hR2,uk⟩:∃R x y,L=R++[x,y]/\L.length-2=R.length/\∀z∈L,Nat.blt z.2 (2^R.length)=true:=by
   unfold swp at hsw;split at hsw;case h_2=>cases hsw
   rename_i x y hxy;have hlen:L.length-(L.length-2)=2:=by have:=congrArg List.length hxy;simpa using this
   refine⟨L.take (L.length-2),x,y,by rw[<-hxy,an9],by simp,λz hz=>?_⟩;cases h1:Nq x.1 with
   |false=>rw[h1]at hsw;cases hsw
   |true=>
    cases h2:Nq y.1 with
    |false=>rw[h1,h2]at hsw;cases hsw
    |true=>
     rw[h1,h2]at hsw;simp only[aoB,amZ]at hsw;have:=anK.1 hsw.2 z hz;rw[show(L.take (L.length-2)).length=L.length-2 by simp];exact this
  have htk:(R++[x,y]).take R.length=R:=by simp
  have hdr:(R++[x,y]).drop R.length=[x,y]:=by simp
  have acK:Dv (R++[x,y])=R++[x,(y.1,y.2 ||| 2^R.length)]:=by unfold Dv;rw[hR2,hdr,htk]
  have hsl:VA (R++[x,y])=R++[y,x]:=by unfold VA;rw[hR2,hdr,htk];rfl
  have aiM:(R++[y,x]).length-2=R.length:=by simp
  have agu:Dv (R++[y,x])=R++[y,(x.1,x.2 ||| 2^R.length)]:=by
   unfold Dv;rw[aiM,show(R++[y,x]).drop R.length=[y,x]by simp,show(R++[y,x]).take R.length=R by simp]
  rw[hsl,acK,agu,hR2,htk,hdr]at ha;cases ht1:fq (R++[x,(y.1,y.2 ||| 2^R.length)]) []with
  |false=>rw[ht1]at ha;exact ha.elim
  |true=>
  cases ht2:fq (R++[y,(x.1,x.2 ||| 2^R.length)]) []with
  |false=>rw[ht1,ht2]at ha;exact ha.elim
  |true=>
  rw[ht1,ht2]at ha;simp only[Bool.and_self,aoB]at ha;obtain⟨sr,Tm0,hm0,er1,⟨eA,eB⟩,er3⟩:=lC hcl _ _ _ _ _ ha;obtain⟨t1,T1,h1,a1,a2,a3⟩:=lC hcl _ _ _ _ _ eA;obtain⟨t2,T2,h2,b1,b2,b3⟩:=lC hcl _ _ _ _ _ eB;have hsr:=rL _ _ _ _ _ _ _ er1;have hl1:=rL _ _ _ _ _ _ _ a1;have hl2:=rL _ _ _ _ _ _ _ b1;have agV:(R++[x,y]).length=ops.size:=hd.len;rw[agV]at er1;have hRl:(R.map (·.1)).length=R.length:=by simp
  have d1:=oG _ _ _ _ _ _ _ _ _ _ _ er1 (by rw[hRl];exact a1);have d2:=oG _ _ _ _ _ _ _ _ _ _ _ er1 (by rw[hRl];exact b1);rw[<-aoC]at a2 b2;have p1:=Dj (L:=R++[x,(y.1,y.2 ||| 2^R.length)]) ht1 a2 (by
   rw[aoC];exact tj hsr er3 a3)
  have p2:=Dj (L:=R++[y,(x.1,x.2 ||| 2^R.length)]) ht2 b2 (by
   rw[aoC];exact tj hsr er3 b3)
  refine Oo (R:=R) (x:=x) (y:=y) hd hc (λz hz j hj=>?_) (by simpa using hl1) (by simpa using hl2) (by simpa using hsr) (by rw[aoC];exact d1) (by rw[aoC];exact d2) p1.2 p2.2 hs (hQ T1 h1 p1.1) (hQ T2 h2 p2.1);have hz2:=aoK (uk z hz);rcases aoi j R.length with h|h
  ·exact h
  ·exfalso;have:z.2<2^j:=ant hz2 (Nat.pow_le_pow_right (by omega) h);rw[Nat.testBit_lt_two_pow this]at hj;cases hj
theorem Iz{cl:CL}(hcl:bt P cl){ops:Array Oper}{L:List (aY×Nat)}{π:Nat->Nat}{xs:List ((aY×Nat)×Option Nat)}(hx:L=xs.map (·.1))(x9:P.follows .mixedOrders=true)(hd:DL P nt ops L π){k:Tm->AH->Prop}(ha:GC cl xs T h k)(hs:Sim nt ds own β T h a w)
  {Q:Exit->Act->World->Prop} (hQ:∀T' h',k T' h'->∀β' a' w',Sim nt ds own β' T' h' a' w'->bJ own β h w β' h' w'->Q .normal a' w'):wpAny P .any ops Q ops.size (Array.replicate ops.size false) a { w with drawn:=w.drawn+1 }:=by
 unfold GC at ha;rw[<-hx]at ha;cases ht:fq L []with
 |false=>rw[ht]at ha;exact ha.elim
 |true=>
 rw[ht]at ha;simp only[aoB]at ha;obtain⟨ss,T',h',e1,e2,e3⟩:=qo hcl _ _ _ _ _ ha;have hm:(xs.map λx=>(x.1.1,x.2)).map (·.1)=L.map (·.1):=by
  rw[hx];simp
 have hl:xs.length=L.length:=by rw[hx];simp
 rw[hm,hl]at e1;rw[hm]at e3;exact u_ x9 hd ht e1 e2 e3 hs hQ
end
def JF:AOp->Bool
 |.stuck=>true
 |_=>false
def dh.rnd:dh->Bool
 |.skip |.reg _ |.I5 _ |.exit _ |.ret |.stuck=>true
 |.seq a b=>a.rnd&&b.rnd
 |.cond _ a b=>a.rnd&&b.rnd
 |.block _ a=>a.rnd
 |.join _ a=>a.rnd
 |.xI _ a=>a.rnd
 |.draw ops=>ops.all λx=> !JF x.1.op
 |.xG ops=>ops.all λx=> !JF x.1.1.op
 |.loop _ _ a=>a.rnd
 |.zF a=>a.rnd
 |.rng _ _ _ _ _ |.frz _ _=>false
def dh.rok:dh->Bool
 |.skip |.reg _ |.I5 _ |.exit _ |.ret |.stuck |.draw _ |.xG _=>true
 |.seq a b=>a.rok&&b.rok
 |.cond _ a b=>a.rok&&b.rok
 |.block _ a=>a.rok
 |.loop _ _ a=>a.rok
 |.zF a=>a.rok
 |.join _ a=>a.rok
 |.xI _ a=>a.rok
 |.rng _ _ _ a b=>a.rnd&&b.rnd
 |.frz _ a=>a.rok
def dh.its:dh->List It
 |.skip |.reg _ |.I5 _ |.exit _ |.ret |.stuck |.draw _ |.xG _=>[]
 |.seq a b=>a.its++b.its
 |.cond _ a b=>a.its++b.its
 |.block _ a=>a.its
 |.loop _ _ a=>a.its
 |.zF a=>a.its
 |.join _ a=>a.its
 |.xI _ a=>a.its
 |.rng its _ _ _ _=>its
 |.frz _ a=>a.its
section
variable {P:Program} {nt:Nat} {ds:List Deferred} {own:Nat->Prop} {β:Bl} {T:Tm} {h:AH} {a:Act} {w:World}
end
section
variable {P:Program} {nt:Nat} {ds:List Deferred} {own:Nat->Prop}
end
section
variable {P:Program} {nt:Nat} {own:Nat->Prop}
theorem avQ{own:Nat->Prop}{β1:Bl}{h1:AH}{W:World}(hs:bV own β1 h1.H h1.nx W){sl:AV}{sv:Value}(hv:VR W.heap (LL own β1 h1.H) β1 sl sv){xl:List (List AV)}{en:Option Nat}(he:arl h1 (en.getD 1) sl=some xl):
  xl.length<=maxLen/\((xl.length=0/\∃a cap,sv =.slice a 0 cap)\/∃b' o cap,sv =.slice (some ⟨b',o,none⟩) xl.length cap/\
   ∀k,k<xl.length->∃v,F4 W b' (o+k*en.getD 1) en v/\∀x,xl[k]?=some x->VR W.heap (LL own β1 h1.H) β1 (elV en x) v):=by
 have key:∀(b' o:Nat) (CV:Array Value) (e2:TypeId) (fz:Nat×Nat) (x:List AV),W.heap[b']?=some (.cells CV e2 fz)->x.length=en.getD 1->dj x=true->o+en.getD 1<=CV.size->
   (∀(j:Nat) (c:AV) (u:Value),x[j]?=some c->CV[o+j]?=some u->VR W.heap (LL own β1 h1.H) β1 c u)->∃v,F4 W b' o en v/\VR W.heap (LL own β1 h1.H) β1 (elV en x) v:=by
  intro b' o CV e2 fz x r1 hxl iC hsz azs;cases en with
  |none=>
   simp only[Option.getD_none]at hxl hsz;match x,hxl with
   |[c],_=>
    exact⟨CV[o],by simp[F4,World.cell?,r1,show o<CV.size by omega],azs 0 c _ rfl (by simp[show o<CV.size by omega])⟩
  |some n=>
   simp only[Option.getD_some]at hxl hsz;refine⟨.agg (CV.extract o (o+n)),⟨_,rfl,by simp;omega,λj c hj=>?_,λj c hj=>?_⟩,.agg _ _ (by simp;omega) λj c u hj hu=>?_⟩
   ·rw[aCv]at hj;split at hj
    ·simp[World.cell?,r1,hj]
    ·cases hj
   ·rw[aCv]at hj;split at hj
    ·rename_i hjn;have hjx:j<x.length:=by omega
     have h1:x[j].one=true:=anK.1 iC _ (anL hjx);exact(azs j x[j] c (by simp[hjx]) hj).one h1
    ·cases hj
   ·rw[aCv]at hu;split at hu
    ·exact azs j c u hj hu
    ·cases hu
 unfold arl at he;split at he
 ·cases he;cases hv;exact⟨by simp,.inl ⟨rfl,_,_,rfl⟩⟩
 ·cases he;cases hv;exact⟨by simp,.inl ⟨rfl,_,_,rfl⟩⟩
 ·rename_i ys;split at he;case isFalse=>cases he
  rename_i eQ;simp only[amZ]at eQ;obtain rfl:ys=xl:=by simpa using he
  have hlz:∀(i:Nat) (x:List AV),ys[i]?=some x->x.length=en.getD 1/\dj x=true:=λi x hi=>by
   have hq:=anK.1 eQ.1 x (am9 hi);rw[amZ]at hq;exact⟨an8 hq.1,hq.2⟩
  cases hv with
  |jS a cap=>exact⟨by simp,.inl ⟨rfl,_,_,rfl⟩⟩
  |psl _ z b2 o2 cap CV e2 fz hb2 hL hs2 hz ta hx=>
   refine⟨aoK eQ.2,.inr ⟨_,_,_,rfl,λk hk=>?_⟩⟩;have h0:ys[k]?=some ys[k]:=by simp[hk]
   have hzz:z=en.getD 1:=by rw[<-hz k _ h0];exact(hlz k _ h0).1
   subst hzz;have hkz:k*en.getD 1+en.getD 1<=ys.length*en.getD 1:=by
    have:=anS (en.getD 1) (show k+1<=ys.length by omega);rw[aoQ]at this;exact this
   obtain⟨v,hv1,hv2⟩:=key b2 (o2+k*en.getD 1) CV e2 fz ys[k] hb2 (hlz k _ h0).1 (hlz k _ h0).2 (by omega) (λj c u hj hu=>hx k _ j c u h0 hj hu);refine⟨v,hv1,λx hxk=>?_⟩;rw[h0]at hxk;cases hxk;exact hv2
 ·rename_i id off len z';split at he;case isFalse=>cases he
  rename_i hzz;subst hzz;split at he;case h_2=>cases he
  rename_i cs hcs;split at he;case h_2=>cases he
  rename_i l hl;split at he;case isFalse=>cases he
  rename_i agH;cases he;obtain⟨hl1,rfl⟩:=mY hl;obtain⟨b2,kp,hb2,_,CV,e2,r1,r2,r3⟩:=hs.obj id _ (z8 hcs);rw[arW];cases hv with
  |rsl _ _ _ _ b3 aAF cap aBO e3 fz3 h hb3 hc3 hm hs3=>
   rw[hb2]at h;cases h;rw[r1]at hb3;cases hb3;refine⟨by omega,.inr ⟨_,_,_,rfl,λk hk=>?_⟩⟩;have hkz:k*en.getD 1+en.getD 1<=len*en.getD 1:=by
    have:=anS (en.getD 1) (show k+1<=len by omega);rw[aoQ]at this;exact this
   obtain⟨v,hv1,hv2⟩:=key b2 (kp+off+k*en.getD 1) CV e2 (0,0) (((cs.drop off).take (len*en.getD 1)).drop (k*en.getD 1) |>.take (en.getD 1)) r1 (by simp;omega) (anK.2 λc hc=>anK.1 agH c (List.mem_of_mem_drop (aCp hc))) (by omega) (λj c u hj hu=>by
    rw[anZ]at hj;split at hj
    ·rename_i hjz;rw[anl,anZ]at hj;split at hj
     ·rw[anl]at hj;exact r3 _ c u hj (by rw[<-hu];congr 1;omega)
     ·cases hj
    ·cases hj)
   refine⟨v,hv1,λx hx=>?_⟩;rw[arS _ _ _ _ hk]at hx;cases hx;exact hv2
  |nQ _ _ _ b3 aAF o h=>exact⟨by simp,.inl ⟨rfl,_,_,rfl⟩⟩
 ·cases he
theorem PK{cl:CL}(hcl:bt P cl):∀(sc:dh) (c:Code) (ds:List Deferred) (β:Bl) (T:Tm) (h:AH) (a:Act) (w:World) (k:AX->Tm->AH->Prop),sc.rok=true->(∀i,i∈sc.its->Fh P i)->cY P nt c=some sc.erase->ff cl sc T h k->Sim nt ds own β T h a w->
  ∀Q:Exit->Act->World->Prop,(∀x T' h',k x T' h'->∀ds' β' a' w',Sim nt ds' own β' T' h' a' w'->bJ own β h w β' h' w'->rM w.heap.size w' ds ds'->Q x.abz a' w')->c.wp P Q a w:=by
 intro sc;induction sc with
 |skip=>
  intro c ds β T h a w k hr hi hc he hs Q hQ;simp only[ff]at he;exact zK (N:=0) l_ c .skip β T h a w .nrm T h hc rfl hs Q λβ' a' w' s t=>hQ .nrm T h he ds β' a' w' s t (.refl _ _ _)
 |reg ops=>
  intro c ds β T h a w k hr hi hc he hs Q hQ;simp only[ff]at he;cases c<;>simp only[cY,dh.erase]at hc<;>(try(cases hc;done));case region rid ops' draw=>
   split at hc
   ·rename_i l hl;cases draw with
    |true=>simp only[anH]at hc;split at hc<;>cases hc
    |false=>
     simp only[am7,ans]at hc;cases hc;exact wp_region_list (Cm hcl _ _ _ _ _ _ _ _ hl he hs λT' h' hk β' a' w' s t=>hQ .nrm T' h' hk ds β' a' w' s t (.refl _ _ _))
   ·cases hc
  all_goals (repeat' (split at hc))<;>cases hc
 |draw ops=>
  intro c ds β T h a w k hr hi hc he hs Q hQ;simp only[ff]at he;cases c<;>simp only[cY,dh.erase]at hc<;>(try(cases hc;done));case region rid ops' draw=>
   split at hc
   ·rename_i l hl;cases draw with
    |true=>
     simp only[anH]at hc;split at hc
     ·rename_i hm;cases hc;simp only[amZ]at hm;obtain⟨_,hdl,hcm⟩:=xh hm.2 hl;exact wp_region_any hm.1 (M_ hcl hm.1 hdl hcm he hs λT' h' hk β' a' w' s t=>hQ .nrm T' h' hk ds β' a' w' s t (.refl _ _ _))
     ·cases hc
    |false=>simp only[am7,ans]at hc;cases hc
   ·cases hc
  all_goals (repeat' (split at hc))<;>cases hc
 |I5 ops=>
  intro c ds β T h a w k hr hi hc he hs Q hQ;simp only[ff]at he;cases c<;>simp only[cY,dh.erase]at hc<;>(try(cases hc;done));case region rid ops' draw=>
   split at hc
   ·rename_i l hl;cases draw with
    |true=>simp only[anH]at hc;split at hc<;>cases hc
    |false=>
     simp only[am7,ans]at hc;cases hc;exact wp_region_list (wj hcl _ _ _ _ _ _ _ _ hl he hs λT' h' hk β' a' w' s t=>hQ .nrm T' h' hk ds β' a' w' s t (.refl _ _ _))
   ·cases hc
  all_goals (repeat' (split at hc))<;>cases hc
 |xG ops=>
  intro c ds β T h a w k hr hi hc he hs Q hQ;simp only[ff]at he;cases c<;>simp only[cY,dh.erase]at hc<;>(try(cases hc;done));case region rid ops' draw=>
   split at hc
   ·rename_i l hl;cases draw with
    |true=>
     simp only[anH]at hc;split at hc
     ·rename_i hm;simp only[am4,apg.draw.injEq]at hc;simp only[amZ]at hm;obtain⟨_,hdl,hcm⟩:=xh hm.2 hl;exact wp_region_any hm.1 (Iz hcl hc hm.1 hdl he hs λT' h' hk β' a' w' s t=>hQ .nrm T' h' hk ds β' a' w' s t (.refl _ _ _))
     ·cases hc
    |false=>simp only[am7,ans]at hc;cases hc
   ·cases hc
  all_goals (repeat' (split at hc))<;>cases hc
 |exit id=>
  intro c ds β T h a w k hr hi hc he hs Q hQ;simp only[ff]at he;exact zK (N:=0) l_ c (.exit id) β T h a w (.exit id) T h hc rfl hs Q λβ' a' w' s t=>hQ (.exit id) T h he ds β' a' w' s t (.refl _ _ _)
 |ret=>
  intro c ds β T h a w k hr hi hc he hs Q hQ;simp only[ff]at he;exact zK (N:=0) l_ c .ret β T h a w .ret T h hc rfl hs Q λβ' a' w' s t=>hQ .ret T h he ds β' a' w' s t (.refl _ _ _)
 |stuck=>intro c ds β T h a w k hr hi hc he;simp[ff]at he
 |join lo a ih=>
  intro c ds β T h a' w k hr hi hc he hs Q hQ;simp only[ff,vJ]at he;obtain⟨M,h1,h2⟩:=he;exact ih c ds β T h a' w _ hr hi hc h1 hs Q λx2 T2 h2' hk ds' β' a2 w2 s t m=>hQ x2 _ h2' (h2 _ _ _ hk) ds' β' a2 w2 (s.du lo) t m
 |frz lo a ih=>
  intro c ds β T h a' w k hr hi hc he hs Q hQ;simp only[ff,afr]at he;obtain⟨vs',hf,he⟩:=he;have mE:∀(i:Nat),PM.get (.leaf:PM dx) i=none:=λi=>by simp[PM.get]
  have hp0:bV own β (PM.leaf) h.nx w:=⟨hs.hp.fresh,hs.hp.lt,hs.hp.mf,(λid o hg=>by rw[mE]at hg;cases hg),(λid id' o o' b x y hg=>by rw[mE]at hg;cases hg)⟩;have hs':Sim nt ds own β (mkT lo vs') ⟨.leaf,h.nx⟩ a' w:=by
   refine⟨hp0,hs.sz,λt u hu=>?_,hs.df⟩;rcases xe _ lo 0 .leaf t u hu with⟨j,h1,h2⟩|h1
   ·cases hv:vs'[j]? with
    |none=>rw[h2];simp[ai,hv];exact .undef _
    |some b=>
     have hb:u=b:=by rw[h2];simp[ai,hv]
     subst hb;have hg:(yd lo T)[j]?=some (rg T t):=by simp[yd,h1]
     refine hf own β w hs.hp j _ _ _ hg hv ?_;unfold rg;cases hT:T.get t with
     |none=>exact .undef _
     |some x=>exact hs.tm t x hT
   ·cases t<;>cases h1
  have t0:bJ own β h w β ⟨.leaf,h.nx⟩ w:=⟨λ_ _ h=>h,λ_ _=>rfl,amY _,amY _,λ_ _ _=>rfl,(λb ⟨j,o,x,h1,h2⟩=>by rw[mE]at h1;cases h1),λ_ cur _ fz h=>⟨cur,fz,h,rfl,λ_=>rfl⟩,rfl,rfl,rfl⟩;exact ih c ds β _ _ a' w k hr hi hc he hs' Q λx2 T2 h2' hk ds' β' a2 w2 s t m=>hQ x2 T2 h2' hk ds' β' a2 w2 s (t0.trans t) m
 |xI lo a ih=>
  intro c ds β T h a' w k hr hi hc he hs Q hQ;simp only[ff,aI]at he;obtain⟨M,h1,h2⟩:=he;refine ih c ds β T h a' w _ hr hi hc h1 hs Q λx2 T2 h2' hk ds' β' a2 w2 s t m=>?_
  cases x2 with
  |nrm=>exact hQ .nrm _ h2' (h2 _ _ hk) ds' β' a2 w2 (s.du lo) t m
  |exit j=>exact hk.elim
  |ret=>exact hk.elim
 |seq a b iha ihb=>
  intro c ds β T h a' w k hr hi hc he hs Q hQ;obtain⟨c1,c2,rfl,h1,h2⟩:=NS hc;simp only[ff]at he;refine wp_seq ?_;simp only[dh.rok,amZ]at hr;refine iha c1 ds β T h a' w _ hr.1 (λi hh=>hi i (anP.2 (.inl hh))) h1 he hs _ λx T1 h1' hk ds1 β1 a1 w1 s1 t1 m1=>?_
  cases x with
  |nrm=>exact ihb c2 ds1 β1 T1 h1' a1 w1 k hr.2 (λi hh=>hi i (anP.2 (.inr hh))) h2 hk s1 Q λx T2 h2' hk2 ds2 β2 a2 w2 s2 t2 m2=>hQ x T2 h2' hk2 ds2 β2 a2 w2 s2 (t1.trans t2) (m1.trans t1.size s1.hp t2 m2)
  |exit j=>exact hQ (.exit j) T1 h1' hk ds1 β1 a1 w1 s1 t1 m1
  |ret=>exact hQ .ret T1 h1' hk ds1 β1 a1 w1 s1 t1 m1
 |cond co t e iht ihe=>
  intro c ds β T h a w k hr hi hc he hs Q hQ;obtain⟨o,c1,c2,rfl,h0,h1,h2⟩:=Fq hc;simp only[dh.rok,amZ]at hr;simp only[ff]at he;have hv:=fT hs h0;cases hyv:co.ev T<;>rw[hyv]at he hv<;>simp only[wif]at he;rename_i bb;generalize hce:a.eval o=cv at hv;cases hv;cases bb with
  |true=>exact wp_cond_true hce (iht c1 ds β T h a w k hr.1 (λi hh=>hi i (anP.2 (.inl hh))) h1 (he.1 rfl) hs Q hQ)
  |false=>exact wp_cond_false hce (ihe c2 ds β T h a w k hr.2 (λi hh=>hi i (anP.2 (.inr hh))) h2 (he.2 rfl) hs Q hQ)
 |block id b ih=>
  intro c ds β T h a w k hr hi hc he hs Q hQ;obtain⟨c1,rfl,h1⟩:=Ey hc;simp only[ff]at he;refine wp_block ?_;refine ih c1 ds β T h a w _ hr hi h1 he hs _ λx T1 h1' hk ds1 β1 a1 w1 s1 t1 m1=>?_
  cases x with
  |nrm=>exact hQ .nrm T1 h1' hk ds1 β1 a1 w1 s1 t1 m1
  |ret=>exact hQ .ret T1 h1' hk ds1 β1 a1 w1 s1 t1 m1
  |exit j=>
   show(if j=id then Q .normal a1 w1 else Q (.exit j) a1 w1)
   simp only[xs]at hk;cases hb:Nat.beq j id with
   |true=>
    rw[hb]at hk;rw[am1 (an8 hb)];exact hQ .nrm T1 h1' hk ds1 β1 a1 w1 s1 t1 m1
   |false=>
    rw[hb]at hk;rw[amU (Nat.ne_of_beq_eq_false hb)];exact hQ (.exit j) T1 h1' hk ds1 β1 a1 w1 s1 t1 m1
 |loop li lo b ih=>
  intro c ds β T h a w k hr hi hc he hs Q hQ;obtain⟨c1,rfl,h1⟩:=we hc;simp only[ff,b9]at he;obtain⟨I,m,hI,hB⟩:=he;refine wp_loop_rounds (m+1) ?_;have key:∀(n:Nat) (m:Nat) (ds1:List Deferred) (β1:Bl) (vs:List AV) (h1:AH) (a1:Act) (w1:World),m<n->I m vs h1->Sim nt ds1 own β1 (mkT li vs) h1 a1 w1->bJ own β h w β1 h1 w1->rM w.heap.size w1 ds ds1->Code.rounds P c1 Q n a1 w1:=by
   intro n;induction n with
   |zero=>intro m ds1 β1 vs h1 a1 w1 hm;omega
   |succ n ihn=>
    intro m ds1 β1 vs h1' a1 w1 hm hI s1 t1 m1;rw[rounds_succ];refine ih c1 ds1 β1 (mkT li vs) h1' a1 w1 _ hr hi h1 (hB m vs h1' hI) s1 _ λy T2 h2 hk ds2 β2 a2 w2 s2 t2 m2=>?_
    cases y with
    |nrm=>
     obtain⟨m',hm',hI'⟩:=hk;exact ihn m' ds2 β2 _ h2 a2 w2 (by omega) hI' (s2.du li) (t1.trans t2) (m1.trans t1.size s1.hp t2 m2)
    |exit j=>exact hQ _ _ h2 hk ds2 β2 a2 w2 (s2.du lo) (t1.trans t2) (m1.trans t1.size s1.hp t2 m2)
    |ret=>exact hQ _ _ h2 hk ds2 β2 a2 w2 (s2.du lo) (t1.trans t2) (m1.trans t1.size s1.hp t2 m2)
  exact key (m+1) m ds β _ h a w (Nat.lt_succ_self m) hI (hs.du li) (.refl _ _ _ _) (.refl _ _ _)
 |zF b ih=>
  intro c ds β T h a w k hr hi hc he hs Q hQ;obtain⟨c1,rfl,h1⟩:=we hc;simp only[ff,Qj]at he;obtain⟨I,m,hI,hB⟩:=he;refine wp_loop_rounds (m+1) ?_;have key:∀(n:Nat) (m:Nat) (ds1:List Deferred) (β1:Bl) (T1:Tm) (h1:AH) (a1:Act) (w1:World),m<n->I m T1 h1->Sim nt ds1 own β1 T1 h1 a1 w1->bJ own β h w β1 h1 w1->rM w.heap.size w1 ds ds1->Code.rounds P c1 Q n a1 w1:=by
   intro n;induction n with
   |zero=>intro m ds1 β1 T1 h1 a1 w1 hm;omega
   |succ n ihn=>
    intro m ds1 β1 T1 h1' a1 w1 hm hI s1 t1 m1;rw[rounds_succ];refine ih c1 ds1 β1 T1 h1' a1 w1 _ hr hi h1 (hB m T1 h1' hI) s1 _ λy T2 h2 hk ds2 β2 a2 w2 s2 t2 m2=>?_
    cases y with
    |nrm=>
     obtain⟨m',hm',hI'⟩:=hk;exact ihn m' ds2 β2 _ h2 a2 w2 (by omega) hI' s2 (t1.trans t2) (m1.trans t1.size s1.hp t2 m2)
    |exit j=>exact hQ _ _ h2 hk ds2 β2 a2 w2 s2 (t1.trans t2) (m1.trans t1.size s1.hp t2 m2)
    |ret=>exact hQ _ _ h2 hk ds2 β2 a2 w2 s2 (t1.trans t2) (m1.trans t1.size s1.hp t2 m2)
  exact key (m+1) m ds β _ h a w (Nat.lt_succ_self m) hI hs (.refl _ _ _ _) (.refl _ _ _)
 |rng it g ps sa sb iha ihb=>intro c ds β T h a w k hr hi hc he hs Q hQ;exact he.elim
end
theorem rp{P:Program}{fn:Func}{tmps:Array Value}{n0:Nat}{R:Ending->World->Prop}:∀(ms:List Nat) (w:World),ms.Nodup->(∀r∈ms,n0<=r/\w.heap[r]?=some (.deferred (some [])))->
  (∀w',kj n0 w w'->∃v,(results fn tmps).run P w' =.ok v w'/\R (.returned v) w')->LeavesInM Fence.wide 0 P fn tmps R (ms.map mk) .returning w
 |[],w,_,_,hR=>hR w (.refl _ _)
 |r::ms,w,hd,hm,hR=>by
  obtain⟨h1,h2⟩:=hm r (by simp);have hd':=List.nodup_cons.1 hd;have hq:kj n0 w (w.putObj r (.deferred none)):=kj.putObj _ h2 rfl h1;refine⟨by simp,.inl ⟨r,_,rfl,run_takeDeferred h2,?_⟩⟩;refine rp ms _ hd'.2 (λr' hr'=>⟨(hm r' (by simp[hr'])).1,?_⟩) λw' hq'=>hR w' (hq.trans hq')
  have hne:r'≠r:=λe=>by subst e;exact hd'.1 hr'
  rw[World.putObj_heap_other hne];exact(hm r' (by simp[hr'])).2
theorem ZX{P:Program}{cl:CL}(hcl:bt P cl){f:Nat}{fn:Func}{sf:SFn}(hf:P.funcs[f]?=some fn)(hc:cFn P fn=some sf.erase)(hn:fn.name ≠ "runtime.NumGoroutine")(hr:sf.body.rok=true)(hi:∀i,i∈sf.body.its->Fh P i){args:List AV}{h:AH}{R:AV->AH->Prop}(ha:ZF cl sf args h R):aJ P f args h R:=by
 refine⟨⟨fn,hf,OT hc,hn⟩,λown β w cS hs hR=>?_⟩;unfold cFn at hc;split at hc;case h_2=>cases hc
 rename_i c hb;split at hc;case h_2=>cases hc
 rename_i ac rs hac hrs;simp only[SFn.erase,am4,AFn.mk.injEq]at hc;obtain⟨hnt,acI,U3⟩:=hc;unfold ZF at ha;cases hlen:Nat.ble args.length sf.nt with
 |false=>rw[hlen]at ha;exact ha.elim
 |true=>
 rw[hlen]at ha;simp only[aoB]at ha;have ak9:args.length<=fn.ntmps:=by rw[hnt];exact aoK hlen
 have hal:args.length=cS.size:=by simpa using hR.1
 refine(callsIn_wide (n:=0)).1 (callsIn_of_wp_marks hf hb trivial ((wpIn_wide).2 ?_));have kH:Sim fn.ntmps [] own β (zf args 0 .leaf) h { tmps:=cS++Array.replicate (fn.ntmps-cS.size) Go.undef,defers:=[] } w:=by
  refine⟨hs,by simp;omega,λt u hu=>?_,rfl⟩;rw[zh]at hu;split at hu
  ·rename_i ht;obtain⟨cv,h1,h2⟩:=hR.get hu;have hlt:t<cS.size:=by omega
   have h3:cS[t]?=some cv:=by simpa using h1
   have:(cS++Array.replicate (fn.ntmps-cS.size) Go.undef).getD t Go.undef=cv:=by
    simp[Array.getElem?_append,hlt];simpa[hlt]using h3
   rw[this];exact h2
  ·simp[Tm.xJ]at hu
 refine PK hcl sf.body c [] β _ h _ w (afi sf.res R) hr hi (by rw[hac,U3]) ha kH _ λx T' h1 hk ds' β' a' w' s t m=>?_
 have fin:bP (BM T' h1 sf.res) h1 R->LeavesInM Fence.wide 0 P fn a'.tmps (λe w'=>∃cv v h' β',e =.returned cv/\R v h'/\bV own β' h'.H h'.nx w'/\VR w'.heap (LL own β' h'.H) β' v cv/\bJ own β h w β' h' w') a'.defers .returning w':=by
  intro hw;unfold bP at hw;split at hw;case h_2=>exact hw.elim
  rename_i vs hvs;rw[<-acI]at hvs;obtain⟨ms,hds,hnd,hm⟩:=m;rw[s.df,hds,am5];refine rp ms w' hnd hm λw2 hq=>?_
  have s2:Sim fn.ntmps ds' own β' T' h1 a' w2:=⟨s.hp.quiet hq,s.sz,λt u hu=>(s.tm t u hu).quiet hq,s.df⟩;have t2:=t.quiet hq;obtain⟨cvs,r1,r2⟩:=se (P:=P) s2 _ _ _ hrs hvs;have fc:(results fn a'.tmps).run P w2 =.ok (if hh:cvs.toArray.size=1 then cvs.toArray[0]else .tuple cvs.toArray) w2:=by
   have acI:results fn a'.tmps=(do let vs <-fn.results.mapM (sq a'.tmps);pure (if h:vs.size=1 then vs[0]else .tuple vs)):=rfl;rw[acI,Array.mapM_eq_mapM_toList];have:(Functor.map List.toArray (fn.results.toList.mapM (sq a'.tmps)):Sem (Array Value))=(do let l <-fn.results.toList.mapM (sq a'.tmps);pure l.toArray):=rfl;rw[this];simp only[anq,r1,ani,anG]
  have UZ:VR w2.heap (LL own β' h1.H) β' (IC vs) (if hh:cvs.toArray.size=1 then cvs.toArray[0]else .tuple cvs.toArray):=by
   have hl:=r2.1;match vs,cvs,r2,hl with
   |[],[],r2,_=>exact .tup [] _ rfl (λi c v hc=>by simp at hc)
   |[u],[cu],r2,_=>simpa[IC]using r2.head
   |u1::u2::us,c1::c2::cs,r2,_=>
    simp only[IC];rw[dif_neg (by simp)];exact RL.tup (by simpa using r2)
  exact⟨_,fc,_,_,h1,β',rfl,hw,s2.hp,UZ,t2⟩
 cases x with
 |exit j=>exact hk.elim
 |nrm=>exact fin hk
 |ret=>exact fin hk
theorem WT{P:Program}{l:List It}(h:l=[]):∀i,i∈l->Fh P i:=λi hi=>by subst h;cases hi
def gdv(b:Bool)(v:AV):Option Bool:=
 match some v with
 |some (.bool c)=>some (c==b)
 |some (.tup [])=>some false
 |_=>none
def rdv(a:AV):Option Nat:=
 match a with
 |.ptr id _=>some id
 |.fY g _=>some g
 |_=>none
def K0(zero:List AV):Option (dx×(Nat->AV)):=some (.cells zero,λr=>.ptr r 0)
def dC(z len:Nat)(zero:List AV)(parts:List (Nat×Nat×AV)):Option (dx×(Nat->AV)):=
 match bW zero parts with
 |some cs=>some (.cells cs,λr=>.rsl r 0 len z)
 |none=>none
def wdr(h:AH)(n:Nat)(k:Nat->AH->Prop):Prop:=k h.nx ⟨h.H,h.nx+n⟩
def wda(r:Nat)(h:AH)(x:Option (dx×(Nat->AV)))(k:AV->Rec->AH->Prop):Prop:=wal x λcs mk=>k (mk r) (.alloc r cs) (h.set r cs)
def wdp(h:AH)(x:Option (AV×AH))(c:Rec)(k:AV->Rec->AH->Prop):Prop:=wk x λv _=>k v c h
def wde(h:AH)(x:Option (AV×AH))(k:AV->Rec->AH->Prop):Prop:=wk x λv h'=>h.nx<=h'.nx/\k v (.eff h h') h'
def wdc(cl:CL)(f:AV)(args:List AV)(h:AH)(k:AV->Rec->AH->Prop):Prop:=ax cl f args h λv h'=>h.nx<=h'.nx/\k v (.eff h h') h'
inductive RV where
 |val (v:AV)
 |cell (a:AV) (n:Option Nat)
def na(h:AH):List RV->Option (List AV)
 |[]=>some []
 |.val v::r=>match na h r with
  |some l=>some (v::l)
  |none=>none
 |.cell a n::r=>
  match(match n with
   |none=>jQ h a
   |some n=>(gm h n a).map .agg),na h r with
  |some v,some l=>some (v::l)
  |_,_=>none
def emp:AH:=⟨.leaf,0⟩
def noB:Bl:=λ_=>none
inductive Frz(h:AH)(n:Bool):AV->AV->Prop where
 |undef (a:AV):Frz h n a .undef
 |bool (b:Bool):Frz h n (.bool b) (.bool b)
 |int (k:IntKind) (m:Int):Frz h n (.int k m) (.int k m)
 |str (s:List UInt8):Frz h n (.str s) (.str s)
 |dS:Frz h n .dS .dS
 |dt:Frz h n .dt .dt
 |gf:Frz h n .gf .gf
 |dP:Frz h n .dP .dP
 |dX:Frz h n .aa .aa
 |aa:Frz h n .aa (.psl [])
 |esl0:Frz h n .esl .esl
 |esl:Frz h n .esl (.psl [])
 |fY (g o:Nat):Frz h n (.fY g o) (.fY g o)
 |agg (cs ds:List AV) (hl:cs.length=ds.length) (hc:∀(i:Nat) (c d:AV),cs[i]?=some c->ds[i]?=some d->Frz h n c d):Frz h n (.agg cs) (.agg ds)
 |tup (cs ds:List AV) (hl:cs.length=ds.length) (hc:∀(i:Nat) (c d:AV),cs[i]?=some c->ds[i]?=some d->Frz h n c d):Frz h n (.tup cs) (.tup ds)
 |jS:Frz h n (.psl []) (.psl [])
 |psl (hn:n=false) (xs ys:List (List AV)) (hl:xs.length=ys.length) (hx:∀(i:Nat) (x y:List AV),xs[i]?=some x->ys[i]?=some y->x.length=y.length)
   (hc:∀(i:Nat) (x y:List AV) (j:Nat) (c d:AV),xs[i]?=some x->ys[i]?=some y->x[j]?=some c->y[j]?=some d->Frz h n c d):Frz h n (.psl xs) (.psl ys)
 |lz (hn:n=false) (cs ds:List AV) (hl:cs.length=ds.length) (hc:∀(i:Nat) (c d:AV),cs[i]?=some c->ds[i]?=some d->Frz h n c d):Frz h n (.lz cs) (.lz ds)
 |rsl (id off z:Nat) (cs:List AV) (ys:List (List AV)) (ho:h.ab id=some cs) (hs:off+ys.length*z<=cs.length) (hz:∀(i:Nat) (y:List AV),ys[i]?=some y->y.length=z)
   (hc:∀(i:Nat) (y:List AV) (j:Nat) (c d:AV),ys[i]?=some y->y[j]?=some d->cs[off+i*z+j]?=some c->Frz h n c d):Frz h n (.rsl id off ys.length z) (.psl ys)
 |ptr (id off:Nat) (cs ds:List AV) (ho:h.ab id=some cs) (hs:off+ds.length<=cs.length) (hc:∀(i:Nat) (c d:AV),cs[off+i]?=some c->ds[i]?=some d->Frz h n c d):Frz h n (.ptr id off) (.lz ds)
 |func (fn:Fn) (f1 c1 f2 c2:List AV) (hl1:f1.length=f2.length) (hl2:c1.length=c2.length) (h1:∀(i:Nat) (c d:AV),f1[i]?=some c->f2[i]?=some d->Frz h n c d) (h2:∀(i:Nat) (c d:AV),c1[i]?=some c->c2[i]?=some d->Frz h n c d):Frz h n (.func fn f1 c1) (.func fn f2 c2)
 |iface (t:TypeId) (a b:AV) (hb:Frz h n a b):Frz h n (.iface t a) (.iface t b)
theorem dF{α β:Type}{l:List α}{m:List β}(h:l.length=m.length){i:Nat}{x:β}(hx:m[i]?=some x):∃y,l[i]?=some y:=by
 have:i<m.length:=(amV.1 hx).1;exact⟨l[i],by simp[h▸this]⟩
theorem gN{h:AH}{id:Nat}{cs:List AV}(hc:h.ab id=some cs):h.H.get id=some (.cells cs):=by
 unfold AH.ab at hc;split at hc
 ·rename_i o ho;cases hc;exact ho
 ·cases hc
@[simp ↓] theorem ag2(v:AV)(h:AH)(k:AV->AH->Prop):wk (some (v,h)) k=k v h:=am_ rfl rfl
@[simp ↓] theorem aeu(b:Bool)(x y:Prop):wif (.bool b) x y=((b=true->x)/\(b=false->y)):=am_ rfl rfl
@[simp] theorem ae_(b:Bool):gdv b eX=some false:=am_ rfl rfl
@[simp ↓] theorem agZ(b:Bool)(A:(AV->AH->Prop)->Prop)(h:AH)(k:AV->AH->Prop):wg (some b) A h k=((b=true->A k)/\(b=false->k eX h)):=am_ rfl rfl
@[simp ↓] theorem adn(b:Bool)(A:(AV->Rec->AH->Prop)->Prop)(h:AH)(k:AV->Rec->AH->Prop):wgd (some b) A h k=((b=true->A k)/\(b=false->k eX .pure h)):=am_ rfl rfl
@[simp ↓] theorem adt(b:Bool)(K:AV->Prop):wsp (.bool b) K=((b=true->K (.bool true))/\(b=false->K (.bool false))):=am_ rfl rfl
@[simp ↓] theorem af_(K:AV->Prop):wsp eX K=K eX:=am_ rfl rfl
attribute [simp ↓] xs
@[simp ↓ high] theorem afA(K:AV->Prop):wsp (.bool true) K=K (.bool true):=by simp[wsp]
@[simp ↓ high] theorem acS(K:AV->Prop):wsp (.bool false) K=K (.bool false):=by simp[wsp]
@[simp ↓ high] theorem ag8(A:(AV->AH->Prop)->Prop)(h:AH)(k:AV->AH->Prop):wg (some true) A h k=A k:=by simp[wg]
@[simp ↓ high] theorem afK(A:(AV->AH->Prop)->Prop)(h:AH)(k:AV->AH->Prop):wg (some false) A h k=k eX h:=by simp[wg]
@[simp ↓ high] theorem afW(A:(AV->Rec->AH->Prop)->Prop)(h:AH)(k:AV->Rec->AH->Prop):wgd (some true) A h k=A k:=by simp[wgd]
@[simp ↓ high] theorem ada(A:(AV->Rec->AH->Prop)->Prop)(h:AH)(k:AV->Rec->AH->Prop):wgd (some false) A h k=k eX .pure h:=by simp[wgd]
@[simp ↓ high] theorem ads(x y:Prop):wif (.bool true) x y=x:=by simp[wif]
@[simp ↓ high] theorem ac9(x y:Prop):wif (.bool false) x y=y:=by simp[wif]
@[simp high] theorem ahj:gdv true (.bool true)=some true:=am_ rfl rfl
@[simp high] theorem ahV:gdv true (.bool false)=some false:=am_ rfl rfl
@[simp high] theorem aht:gdv false (.bool true)=some false:=am_ rfl rfl
@[simp high] theorem ahU:gdv false (.bool false)=some true:=am_ rfl rfl
@[simp high] theorem Zi(h:AH)(x y:AV):aG h (.bool true) x y=some (x,h):=am_ rfl rfl
@[simp high] theorem Yn(h:AH)(x y:AV):aG h (.bool false) x y=some (y,h):=am_ rfl rfl
@[simp ↓] theorem acP(vs:List AV)(h:AH)(Q:AV->AH->Prop):bP (some vs) h Q=Q (IC vs) h:=am_ rfl rfl
@[simp] theorem afT(v:AV):IC [v]=v:=am_ rfl rfl
@[simp] theorem af3(u v:AV)(vs:List AV):IC (u::v::vs) =.tup (u::v::vs):=am_ rfl rfl
@[simp] theorem ac4(a:AV)(l:List AV):ai (a::l) 0=a:=am_ rfl rfl
@[simp] theorem acL(a:AV)(l:List AV)(n:Nat):ai (a::l) (n+1)=ai l n:=am_ rfl rfl
@[simp ↓] theorem aiv(m:Nat)(I:Nat->List AV->AH->Prop)(k:AX->List AV->AH->Prop)(vi vo:List AV)(h:AH):lk m I k .nrm vi vo h = ∃m',m'<m/\I m' vi h:=am_ rfl rfl
@[simp ↓] theorem ahd(m:Nat)(I:Nat->List AV->AH->Prop)(k:AX->List AV->AH->Prop)(j:Nat)(vi vo:List AV)(h:AH):lk m I k (.exit j) vi vo h=k (.exit j) vo h:=am_ rfl rfl
@[simp ↓] theorem ahz(m:Nat)(I:Nat->List AV->AH->Prop)(k:AX->List AV->AH->Prop)(vi vo:List AV)(h:AH):lk m I k .ret vi vo h=k .ret vo h:=am_ rfl rfl
@[simp ↓] theorem Zg(cl:CL)(g:Nat)(first captured args:List AV)(h:AH)(k:AV->AH->Prop):ax cl (.func (.func g) first captured) args h k=cl g (first++args++captured) h k:=am_ rfl rfl
@[simp ↓] theorem afq(cl:CL)(g:Nat)(first captured args:List AV)(h:AH)(k:AV->Rec->AH->Prop):wdc cl (.func (.func g) first captured) args h k=cl g (first++args++captured) h λv h'=>h.nx<=h'.nx/\k v (.eff h h') h':=am_ rfl rfl
@[simp ↓] theorem ahw(h:AH)(n:Nat)(k:Nat->AH->Prop):wdr h n k=k h.nx ⟨h.H,h.nx+n⟩:=am_ rfl rfl
@[simp ↓] theorem aex(h:AH)(v:AV)(h':AH)(c:Rec)(k:AV->Rec->AH->Prop):wdp h (some (v,h')) c k=k v c h:=am_ rfl rfl
@[simp ↓] theorem adx(h:AH)(v:AV)(h':AH)(k:AV->Rec->AH->Prop):wde h (some (v,h')) k=(h.nx<=h'.nx/\k v (.eff h h') h'):=am_ rfl rfl
@[congr] theorem ae4{r r':Option (AV×AH)}{k:AV->AH->Prop}(h:r=r'):wk r k=wk r' k:=by rw[h]
@[congr] theorem ac7{c c':AV}{x y:Prop}(h:c=c'):wif c x y=wif c' x y:=by rw[h]
@[congr] theorem afx{g g':Option Bool}{A:(AV->AH->Prop)->Prop}{h:AH}{k:AV->AH->Prop}(hg:g=g'):wg g A h k=wg g' A h k:=by rw[hg]
@[congr] theorem acY{g g':Option Bool}{A:(AV->Rec->AH->Prop)->Prop}{h:AH}{k:AV->Rec->AH->Prop}(hg:g=g'):wgd g A h k=wgd g' A h k:=by rw[hg]
@[congr] theorem acV{h:AH}{x x':Option (AV×AH)}{c:Rec}{k:AV->Rec->AH->Prop}(hx:x=x'):wdp h x c k=wdp h x' c k:=by rw[hx]
@[congr] theorem ac5{h:AH}{x x':Option (AV×AH)}{k:AV->Rec->AH->Prop}(hx:x=x'):wde h x k=wde h x' k:=by rw[hx]
@[congr] theorem adg{r:Nat}{h:AH}{x x':Option (dx×(Nat->AV))}{k:AV->Rec->AH->Prop}(hx:x=x'):wda r h x k=wda r h x' k:=by rw[hx]
@[congr] theorem Z1{r r':Option (List AV)}{h:AH}{Q:AV->AH->Prop}(hr:r=r'):bP r h Q=bP r' h Q:=by rw[hr]
@[simp] theorem adq(cs:List AV):iU (.agg cs)=true:=by unfold iU;rfl
@[simp] theorem ad0(k:IntKind)(n:Int):iU (.int k n)=true:=by unfold iU;rfl
@[simp] theorem ac0(b:Bool):iU (.bool b)=true:=by unfold iU;rfl
@[simp] theorem adV(b:List UInt8):iU (.str b)=true:=by unfold iU;rfl
@[simp] theorem ae3(l:List (List AV)):iU (.psl l)=true:=by unfold iU;rfl
@[simp] theorem adk(a b c d:Nat):iU (.rsl a b c d)=true:=by unfold iU;rfl
@[simp] theorem azf:iU .aa=true:=by unfold iU;rfl
@[simp] theorem adh(h:AH):na h []=some []:=am_ rfl rfl
@[simp] theorem ac1(h:AH)(v:AV)(r:List RV):na h (.val v::r)=match na h r with|some l=>some (v::l)|none=>none:=am_ rfl rfl
@[simp] theorem X3(h:AH)(a:AV)(r:List RV):na h (.cell a none::r)=match jQ h a,na h r with|some v,some l=>some (v::l)|_,_=>none:=am_ rfl rfl
@[simp] theorem Yx(h:AH)(a:AV)(n:Nat)(r:List RV):na h (.cell a (some n)::r)=match(gm h n a).map .agg,na h r with|some v,some l=>some (v::l)|_,_=>none:=am_ rfl rfl
@[simp] theorem acT(h:AH)(zero:List AV)(ps:List (Nat×Nat×AV)):aO h zero ps=match bW zero ps with|some cs=>some (.agg cs,h)|none=>none:=am_ rfl rfl
@[simp] theorem acW(cs:List AV):bW cs []=some cs:=am_ rfl rfl
@[simp] theorem Zk(cs:List AV)(off size:Nat)(x:AV)(r:List (Nat×Nat×AV))(hs:iU x=true):bW cs ((off,size,x)::r)=if x.cells.length=size then(match fi cs off x.cells with|some cs'=>bW cs' r|none=>none)else none:=by
 show(if iU x then _ else _)=_
 rw[am1 hs];rfl
@[simp] theorem ahS(h:AH)(o:dx):(h.add o).nx=h.nx+1:=by cases h;rfl
@[simp] theorem np(h:AH)(i:Nat)(o:dx):(h.set i o).nx=h.nx:=by cases h;rfl
@[simp] theorem ag_(h:AH)(i:Nat):(h.kill i).nx=h.nx:=by cases h;rfl
@[simp] theorem akk(H:Hp)(n:Nat):AH.nx ⟨H,n⟩=n:=am_ rfl rfl
@[simp] theorem ah5:emp.nx=0:=by decide
theorem az(h:AH)(o:dx)(i:Nat):(h.add o).H.get i=if i=h.nx then some o else h.H.get i:=PM.jA _ _ _ _
theorem au(h:AH)(j:Nat)(o:dx)(i:Nat):(h.set j o).H.get i=if i=j then some o else h.H.get i:=PM.jA _ _ _ _
theorem ri(h:AH)(j:Nat)(i:Nat):(h.kill j).H.get i=if i=j then none else h.H.get i:=PM.CI _ _ _
theorem ay{h h':AH}{i:Nat}(he:h'.H.get i=h.H.get i):h'.ab i=h.ab i:=by unfold AH.ab;rw[he]
theorem bd(h:AH)(cs:List AV)(i:Nat)(hi:i=h.nx):(h.add (.cells cs)).ab i=some cs:=by unfold AH.ab;rw[az,am1 hi]
theorem aC(h:AH)(o:dx)(i:Nat)(hi:i≠h.nx):(h.add o).ab i=h.ab i:=ay (by rw[az,amU hi])
theorem eD(h:AH)(cs:List AV)(i j:Nat)(hi:i=j):(h.set j (.cells cs)).ab i=some cs:=by unfold AH.ab;rw[au,am1 hi]
theorem ak(h:AH)(o:dx)(i j:Nat)(hi:i≠j):(h.set j o).ab i=h.ab i:=ay (by rw[au,amU hi])
@[simp] theorem XL(h:AH)(cs:List AV)(i:Nat):(h.add (.cells cs)).ab i=if i=h.nx then some cs else h.ab i:=by
 split
 ·rename_i hi;exact bd h cs i hi
 ·rename_i hi;exact aC h _ i hi
@[simp] theorem XT(h:AH)(cs:List AV)(i j:Nat):(h.set j (.cells cs)).ab i=if i=j then some cs else h.ab i:=by
 split
 ·rename_i hi;exact eD h cs i j hi
 ·rename_i hi;exact ak h _ i j hi
@[simp] theorem ZT(h:AH)(n i:Nat):AH.ab ⟨h.H,n⟩ i=h.ab i:=am_ rfl rfl
@[simp] theorem ag0(h:AH)(x:AV):aB h x=some (x,h):=am_ rfl rfl
@[simp] theorem aha(h:AH)(zero:List AV):cU h zero=some (.ptr h.nx 0,h.add (.cells zero)):=am_ rfl rfl
@[simp] theorem aei(h:AH)(cs:List AV):fh h (.agg cs)=some (.ptr h.nx 0,h.add (.cells cs)):=am_ rfl rfl
theorem SG{h:AH}{id off n:Nat}{cs ds:List AV}(hc:h.ab id=some cs)(hv:cut cs off n=some ds):bj h n (.ptr id off)=some (.agg ds,h):=by
 simp[bj,gm,hc,hv]
@[simp] theorem ac3(h:AH)(id off:Nat):eK h (.ptr id off)=match h.ab id with|some cs=>(match cs[off]? with|some v=>some (v,h)|none=>none)|none=>none:=by
 simp only[eK,jQ];cases h.ab id<;>rfl
@[simp] theorem ade(h:AH)(n id off:Nat):bj h n (.ptr id off)=match h.ab id with|some cs=>(match cut cs off n with|some ds=>some (.agg ds,h)|none=>none)|none=>none:=by
 simp only[bj,gm];cases h.ab id<;>rfl
@[simp] theorem ac_(h:AH)(cs:List AV):eK h (.lz cs)=match cs[0]? with|some v=>some (v,h)|none=>none:=am_ rfl rfl
@[simp] theorem acQ(h:AH)(n:Nat)(cs:List AV):bj h n (.lz cs)=match cut cs 0 n with|some ds=>some (.agg ds,h)|none=>none:=am_ rfl rfl
theorem TP{cs:List AV}{a n:Nat}(b:Nat)(ha:a<=cs.length):cut (cs.drop a) b n=cut cs (a+b) n:=by
 unfold cut;have:(b+n<=(cs.drop a).length)↔(a+b+n<=cs.length):=by simp;omega
 simp only[this,an4]
@[simp] theorem ZM(h:AH)(n id off:Nat):gm h n (.ptr id off)=match h.ab id with|some cs=>cut cs off n|none=>none:=am_ rfl rfl
@[simp] theorem ahc{cs:List AV}{n:Nat}(hn:cs.length=n):cut cs 0 n=some cs:=by simp[cut,<-hn]
@[simp] theorem dG{cs new:List AV}(h:new.length=cs.length):fi cs 0 new=some new:=by simp[fi,h]
@[simp] theorem Yz(a b:AV)(l:List AV):fi (a::l) 0 [b]=some (b::l):=by simp[fi]
@[simp] theorem YD(a:AV)(l:List AV)(n:Nat)(new:List AV):fi (a::l) (n+1) new=(fi l n new).map (a :: ·):=by
 unfold fi;simp only[am6,List.take_succ_cons,aox,show n+1+new.length=(n+new.length)+1 by omega,Nat.add_le_add_iff_right];split<;>simp
theorem J7{h:AH}{n id off:Nat}{cs cs' new:List AV}(hn:new.length=n)(ho:dj new=true)(hc:h.ab id=some cs)(hs:fi cs off new=some cs'):kSt h n (.ptr id off) (.agg new)=some (.undef,h.set id (.cells cs')):=by
 simp[kSt,iU,AV.cells,hn,ho,hc,hs]
theorem ap1{h:AH}{id off:Nat}{v:AV}{cs cs':List AV}(ho:v.one=true)(hc:h.ab id=some cs)(hs:fi cs off [v]=some cs'):kSt h 1 (.ptr id off) v=some (.undef,h.set id (.cells cs')):=by
 have h1:iU v=true:=by cases v<;>first|rfl|simp[AV.one]at ho
 have h2:v.cells=[v]:=by cases v<;>first|rfl|simp[AV.one]at ho
 simp[kSt,h1,h2,dj,ho,hc,hs]
@[simp] theorem acN(cs:List AV):AV.cells (.agg cs)=cs:=am_ rfl rfl
@[simp] theorem acX(k:IntKind)(n:Int):AV.cells (.int k n)=[.int k n]:=am_ rfl rfl
@[simp] theorem aaL(b:Bool):AV.cells (.bool b)=[.bool b]:=am_ rfl rfl
@[simp] theorem acU(b:List UInt8):AV.cells (.str b)=[.str b]:=am_ rfl rfl
@[simp] theorem adf(l:List (List AV)):AV.cells (.psl l)=[.psl l]:=am_ rfl rfl
@[simp] theorem acR(a b c d:Nat):AV.cells (.rsl a b c d)=[.rsl a b c d]:=am_ rfl rfl
@[simp] theorem ayu:AV.cells .aa=[.aa]:=am_ rfl rfl
@[simp] theorem adY:dj []=true:=am_ rfl rfl
@[simp] theorem adb(a:AV)(l:List AV):dj (a::l)=(a.one&&dj l):=am_ rfl rfl
@[simp] theorem ag3(k:IntKind)(n:Int):AV.one (.int k n)=true:=am_ rfl rfl
@[simp] theorem aer(b:Bool):AV.one (.bool b)=true:=am_ rfl rfl
@[simp] theorem ahe(b:List UInt8):AV.one (.str b)=true:=am_ rfl rfl
@[simp] theorem ag7(l:List (List AV)):AV.one (.psl l)=true:=am_ rfl rfl
@[simp] theorem ahf(a b c d:Nat):AV.one (.rsl a b c d)=true:=am_ rfl rfl
@[simp] theorem acO:AV.one .aa=true:=am_ rfl rfl
@[simp] theorem afE(h:AH)(n id off:Nat)(x:AV)(hs:iU x=true):kSt h n (.ptr id off) x=if x.cells.length=n&&dj x.cells then(match h.ab id with|some cs=>(match fi cs off x.cells with|some cs'=>some (.undef,h.set id (.cells cs'))|none=>none)|none=>none)else none:=by
 show(if iU x then _ else _)=_
 rw[am1 hs];rfl
@[simp] theorem YA(h:AH)(a b:Nat):aq h (.ptr a b)=some (.ptr a b,h):=am_ rfl rfl
@[simp] theorem abp(h:AH)(k:IntKind)(a b:Int):ae h .eql (.int k a) (.int k b)=some (.bool (a==b),h):=by simp[ae,dy,ey,ao8]
@[simp] theorem aag(h:AH)(k:IntKind)(a b:Int):ae h .neq (.int k a) (.int k b)=some (.bool (a != b),h):=by simp[ae,dy,ey,ao8]
@[simp] theorem aab(h:AH)(k:IntKind)(a b:Int):ae h .lss (.int k a) (.int k b)=some (.bool (decide (a<b)),h):=by simp[ae,dy,ey,ao8]
@[simp] theorem ZJ(h:AH)(k:IntKind)(a b:Int):ae h .leq (.int k a) (.int k b)=some (.bool (decide (a<=b)),h):=by simp[ae,dy,ey,ao8]
@[simp] theorem aa8(h:AH)(k:IntKind)(a b:Int):ae h .gtr (.int k a) (.int k b)=some (.bool (decide (b<a)),h):=by simp[ae,dy,ey,ao8]
@[simp] theorem abq(h:AH)(k:IntKind)(a b:Int):ae h .geq (.int k a) (.int k b)=some (.bool (decide (b<=a)),h):=by simp[ae,dy,ey,ao8]
@[simp] theorem Yv(h:AH)(a b:List UInt8):ae h .eql (.str a) (.str b)=some (.bool (a==b),h):=by simp[ae,dy,vn]
@[simp] theorem YL(h:AH)(a b:List UInt8):ae h .neq (.str a) (.str b)=some (.bool (!(a==b)),h):=by simp[ae,dy,vn]
theorem lG{n:Int}(h1 : -9223372036854775808<=n)(h2:n<=9223372036854775807):IntKind.i64.wrap n=n:=by
 unfold IntKind.wrap;show(if(true&&decide (n%18446744073709551616>=9223372036854775808))=true then n%18446744073709551616-18446744073709551616 else n%18446744073709551616)=n
 simp only[Bool.true_and,ana];split<;>omega
@[simp] theorem aaK(h:AH)(a b:Int)(h1 : -9223372036854775808<=a+b)(h2:a+b<=9223372036854775807):ae h .add (.int .i64 a) (.int .i64 b)=some (.int .i64 (a+b),h):=by simp[ae,dy,ey,ao8,lG h1 h2]
@[simp] theorem F9(h:AH)(a b:Int)(h1 : -9223372036854775808<=a-b)(h2:a-b<=9223372036854775807):ae h .sub (.int .i64 a) (.int .i64 b)=some (.int .i64 (a-b),h):=by simp[ae,dy,ey,ao8,lG h1 h2]
@[simp] theorem Y9(h:AH)(a b:Int)(h1 : -9223372036854775808<=a*b)(h2:a*b<=9223372036854775807):ae h .mul (.int .i64 a) (.int .i64 b)=some (.int .i64 (a*b),h):=by simp[ae,dy,ey,ao8,lG h1 h2]
theorem vX(h:AH)(k:IntKind)(a b:Int)(hb:b≠0):ae h .rem (.int k a) (.int k b)=some (.int k (a.tmod b),h):=by simp[ae,dy,ey,ao8,hb]
@[simp] theorem Xk(h:AH)(a:Int)(h1 : -9223372036854775807<=a)(h2:a<=9223372036854775807):kUn h .neg (.int .i64 a)=some (.int .i64 (-a),h):=by simp[kUn,aun,lG (n:= -a) (by omega) (by omega)]
@[simp] theorem ahb(h:AH)(b:Bool):kUn h .not (.bool b)=some (.bool !b,h):=am_ rfl rfl
@[simp] theorem acZ(h:AH)(neg a b:Bool):arJ h neg (.bool a) (.bool b)=some (.bool (if neg then !(a==b)else a==b),h):=am_ rfl rfl
@[simp] theorem adL(h:AH)(neg:Bool)(ks:List SK)(a b:List AV):pb h neg ks (.agg a) (.agg b)=match bA ks a b with|some r=>some (.bool (if neg then !r else r),h)|none=>none:=am_ rfl rfl
@[simp] theorem aaZ(h:AH)(k k':IntKind)(n:Int):cB h k (.int k' n)=some (.int k (k.wrap n),h):=am_ rfl rfl
@[simp] theorem ac8(h:AH)(off id o:Nat):ah h off (.ptr id o)=some (.ptr id (o+off),h):=am_ rfl rfl
@[simp] theorem Y8{h:AH}{off:Nat}{cs:List AV}(hl:off<=cs.length):ah h off (.lz cs)=some (.lz (cs.drop off),h):=by simp[ah,n9,hl]
@[simp] theorem aez(h:AH)(l:List (List AV)):bh h (.psl l)=some (.int .i64 l.length,h):=am_ rfl rfl
@[simp] theorem aeO(h:AH)(a b c d:Nat):bh h (.rsl a b c d)=some (.int .i64 c,h):=am_ rfl rfl
@[simp] theorem abu(h:AH):bh h .aa=some (.int .i64 0,h):=am_ rfl rfl
@[simp] theorem acM(h:AH)(s:List UInt8):cL h (.str s)=some (.int .i64 s.length,h):=am_ rfl rfl
@[simp] theorem ac6(h:AH)(v:AV)(vs:List AV):cm h (.tup (v::vs)) 0=some (v,h):=am_ rfl rfl
@[simp] theorem aeE(h:AH)(u v:AV)(vs:List AV):cm h (.tup (u::v::vs)) 1=some (v,h):=am_ rfl rfl
@[simp] theorem ad6(h:AH)(t u v:AV)(vs:List AV):cm h (.tup (t::u::v::vs)) 2=some (v,h):=am_ rfl rfl
theorem Ma{n:Nat}{i:Int}(h1:0<=i)(h2:i<n)(k:IntKind):aix n (.int k i)=some i.toNat:=by simp[aix,oc,h1,h2]
theorem da{h:AH}{z:Nat}{l:List (List AV)}{i:Nat}{c:List AV}(hc:l[i]?=some c)(hz:c.length=z):aF h z (.psl l) (.int .i64 i)=some (.lz c,h):=by
 have hi:i<l.length:=(amV.1 hc).1;have:aix l.length (.int .i64 i)=some i:=by simp[Ma (Int.natCast_nonneg i) (by omega:(i:Int)<l.length)]
 simp[aF,yF,this,hc,hz]
theorem dY{h:AH}{z id off len:Nat}{i:Int}(h0:0<=i)(h1:i<len):aF h z (.rsl id off len z) (.int .i64 i)=some (.ptr id (off+i.toNat*z),h):=by
 simp[aF,yF,Ma h0 h1]
mutual
theorem AV.beq_refl:∀(a:AV),AV.beq a a=true
 |.undef |.dS |.aa |.esl |.dP |.dt |.gf=>by simp[AV.beq]
 |.bool _ |.int _ _ |.str _ |.ptr _ _ |.fY _ _ |.rsl _ _ _ _ |.jR _ |.sint _ _ _ _ _ _ |.sX _ _ _ _ _ _ _ _ |.qJ _ _=>by simp[AV.beq]
 |.agg a=>by simp[AV.beq,AV.iR a]
 |.tup a=>by simp[AV.beq,AV.iR a]
 |.lz a=>by simp[AV.beq,AV.iR a]
 |.psl a=>by simp[AV.beq,AV.xL a]
 |.func _ a b=>by simp[AV.beq,AV.iR a,AV.iR b]
 |.iface _ a=>by simp[AV.beq,AV.beq_refl a]
theorem AV.iR:∀(a:List AV),AV.pU a a=true
 |[]=>by simp[AV.pU]
 |x::a=>by simp[AV.pU,AV.beq_refl x,AV.iR a]
theorem AV.xL:∀(a:List (List AV)),AV.tI a a=true
 |[]=>by simp[AV.tI]
 |x::a=>by simp[AV.tI,AV.iR x,AV.xL a]
end
theorem arn:∀(a:List (AV×AV)),q_ a a=true
 |[]=>by simp[q_]
 |(x,y)::a=>by simp[q_,AV.beq_refl,arn a]
theorem pI(o:Option dx):Di o o=true:=by
 cases o with
 |none=>rfl
 |some o=>cases o<;>simp[Di,AV.iR,arn]
@[simp] theorem ag6(id o:Nat):rdv (.ptr id o)=some id:=am_ rfl rfl
@[simp] theorem aff(cs:List AV):rdv (.lz cs)=none:=am_ rfl rfl
@[simp] theorem afk(x:Nat):rdK (some x) =.read x:=am_ rfl rfl
@[simp] theorem ad4:rdK none =.pure:=am_ rfl rfl
@[simp] theorem Za(y:Rec):aU .pure y=true:=by cases y<;>rfl
@[simp] theorem QB(h:AH)(x:Nat):aU (.eff h h) (.read x)=true:=pI _
@[simp] theorem fw(x r:Nat)(cs:dx):aU (.read x) (.alloc r cs) = !decide (r=x):=by
 show(!Nat.beq r x)=_
 by_cases h:r=x
 ·subst h;simp
 ·have:Nat.beq r x=false:=by cases hb:Nat.beq r x with|false=>rfl|true=>exact absurd (an8 hb) h
  simp[this,h]
@[simp] theorem avo(x r:Nat)(cs:dx):aU (.alloc r cs) (.read x) = !decide (r=x):=fw x r cs
@[simp ↓] theorem aem(r:Nat)(h:AH)(cs:dx)(mk:Nat->AV)(k:AV->Rec->AH->Prop):wda r h (some (cs,mk)) k=k (mk r) (.alloc r cs) (h.set r cs):=am_ rfl rfl
@[simp] theorem aeq(zero:List AV):K0 zero=some (.cells zero,λr=>.ptr r 0):=am_ rfl rfl
@[simp] theorem Vv(z len:Nat)(zero:List AV)(ps:List (Nat×Nat×AV)):dC z len zero ps=match bW zero ps with|some cs=>some (.cells cs,λr=>.rsl r 0 len z)|none=>none:=am_ rfl rfl
@[simp] theorem af6(h:AH)(n a b:Bool):Frz h n (.bool a) (.bool b)↔a=b:=⟨λh=>by cases h;rfl,λh=>by subst h;exact .bool _⟩
@[simp] theorem ag4(h:AH)(n:Bool)(k:IntKind)(a b:Int):Frz h n (.int k a) (.int k b)↔a=b:=⟨λh=>by cases h;rfl,λh=>by subst h;exact .int _ _⟩
def ea(h:AH)(n:Bool):List AV->List AV->Prop
 |[],[]=>True
 |c::cs,d::ds=>Frz h n c d/\ea h n cs ds
 |_,_=>False
theorem bK(h:AH)(n:Bool):∀(cs ds:List AV),ea h n cs ds↔(cs.length=ds.length/\∀(i:Nat) (c d:AV),cs[i]?=some c->ds[i]?=some d->Frz h n c d)
 |[],[]=>by simp[ea]
 |[],d::ds=>by simp[ea]
 |c::cs,[]=>by simp[ea]
 |c::cs,d::ds=>by
  simp only[ea,bK h n cs ds,am6];constructor
  ·rintro⟨h1,h2,h3⟩;refine⟨by omega,λi x y hx hy=>?_⟩;cases i with
   |zero=>simp at hx hy;subst hx;subst hy;exact h1
   |succ i=>simp at hx hy;exact h3 i x y hx hy
  ·rintro⟨h1,h2⟩;exact⟨h2 0 c d (by simp) (by simp),by omega,λi x y hx hy=>h2 (i+1) x y (by simpa using hx) (by simpa using hy)⟩
@[simp] theorem afe(h:AH)(n:Bool):ea h n [] []=True:=am_ rfl rfl
@[simp] theorem ac2(h:AH)(n:Bool)(c d:AV)(cs ds:List AV):ea h n (c::cs) (d::ds)=(Frz h n c d/\ea h n cs ds):=am_ rfl rfl
@[simp] theorem ag9(h:AH)(n:Bool)(cs ds:List AV):Frz h n (.agg cs) (.agg ds)↔ea h n cs ds:=by
 rw[bK];exact⟨λhf=>by cases hf with|agg _ _ hl hc=>exact⟨hl,hc⟩,fun⟨h1,h2⟩=>.agg _ _ h1 h2⟩
@[simp] theorem ag1(h:AH)(n:Bool)(cs ds:List AV):Frz h n (.tup cs) (.tup ds)↔ea h n cs ds:=by
 rw[bK];exact⟨λhf=>by cases hf with|tup _ _ hl hc=>exact⟨hl,hc⟩,fun⟨h1,h2⟩=>.tup _ _ h1 h2⟩
@[simp] theorem ag5(h:AH)(n:Bool)(a b:List UInt8):Frz h n (.str a) (.str b)↔a=b:=⟨λh=>by cases h;rfl,λh=>by subst h;exact .str _⟩
structure QE(P:Program) where
 f:Nat
 q:List AV->AH->(AV->AH->Prop)->Prop
 ok:∀args h Q,q args h Q->∃v h',aK P f args h v h'/\Q v h'
def tb{P:Program}:List (QE P)->CL
 |[],_,_,_,_=>False
 |e::l,f,args,h,Q=>cond (Nat.beq e.f f) (e.q args h Q) (tb l f args h Q)
theorem aW{P:Program}:∀l:List (QE P),bt P (tb l)
 |[],_,_,_,_,h=>h.elim
 |e::l,f,args,h,Q,hq=>by
  unfold tb at hq;cases hb:Nat.beq e.f f with
  |true=>
   rw[hb]at hq;obtain rfl:=an8 hb;exact e.ok args h Q hq
  |false=>rw[hb]at hq;exact aW l f args h Q hq
theorem dJ{P:Program}(e:QE P)(l:List (QE P))(f:Nat)(args:List AV)(h:AH)(Q:AV->AH->Prop)(hf:e.f=f):tb (e::l) f args h Q=e.q args h Q:=by
 subst hf;simp[tb]
theorem aH{P:Program}(e:QE P)(l:List (QE P))(f:Nat)(args:List AV)(h:AH)(Q:AV->AH->Prop)(hf:e.f≠f):tb (e::l) f args h Q=tb l f args h Q:=by
 have:Nat.beq e.f f=false:=by cases hb:Nat.beq e.f f with|false=>rfl|true=>exact absurd (an8 hb) hf
 simp[tb,this]
abbrev TbT{P:Program}(e:QE P)(n:Nat):Prop:=∀(l:List (QE P)) (f:Nat) (args:List AV) (h:AH) (Q:AV->AH->Prop),n≠f->tb (e::l) f args h Q=tb l f args h Q
open Go.RowKit
theorem Sf{V C:AH}{x:Nat}(h:V.H.get x=C.H.get x):aU (.read x) (.eff V C)=true:=by
 show Di _ _=true
 rw[h];exact pI _
@[simp] theorem cP(h:AH)(x j:Nat)(o:dx)(hx:x≠j):aU (.read x) (.eff h (h.set j o))=true:=Sf (by rw[au,amU hx])
theorem VR.aiC{own:Nat->Prop}{β:Bl}{h hg:AH}{nx:Nat}{w:World}(hs:bV own β h.H nx w)(EM:∀i o,hg.H.get i=some o->h.H.get i=some o){L2:Nat->Prop}{β2:Bl}{n:Bool}(h1:∀b,live β hg.H b->¬L2 b)(h2:n=false->∀b,¬LL own β h.H b->¬L2 b)
  {a a':AV} (hf:Frz hg n a a'):∀ {v:Value},VR w.heap (LL own β h.H) β a v->VR w.heap L2 β2 a' v:=by
 induction hf with
 |undef a=>intro v hv;exact .undef v
 |bool b=>intro v hv;cases hv;exact .bool b
 |int k m=>intro v hv;cases hv;exact .int k m
 |str s=>intro v hv;cases hv;exact .str s
 |dS=>intro v hv;cases hv;exact .dS
 |dt=>intro v hv;cases hv;exact .dt
 |gf=>intro v hv;cases hv;exact .gf
 |dP=>intro v hv;cases hv;exact .dP
 |dX=>intro v hv;cases hv;exact .aa
 |aa=>intro v hv;cases hv;exact .jS _ _
 |esl0=>intro v hv;cases hv;exact .esl _
 |esl=>intro v hv;cases hv;exact .jS _ _
 |fY g o=>intro v hv;cases hv;exact .fY g o
 |agg cs ds hl hc ih=>
  intro v hv;cases hv with
  |agg _ vs hl2 hv=>
   refine .agg ds vs (hl▸hl2) λi d v hd hv'=>?_
   obtain⟨c,hc'⟩:=dF hl hd;exact ih i c d hc' hd (hv i c v hc' hv')
 |tup cs ds hl hc ih=>
  intro v hv;cases hv with
  |tup _ vs hl2 hv=>
   refine .tup ds vs (hl▸hl2) λi d v hd hv'=>?_
   obtain⟨c,hc'⟩:=dF hl hd;exact ih i c d hc' hd (hv i c v hc' hv')
 |jS=>intro v hv;cases hv<;>exact .jS _ _
 |psl hn xs ys hl hx hc ih=>
  intro v hv;cases hv with
  |jS a cap=>cases ys with
   |nil=>exact .jS a cap
   |cons y ys=>simp at hl
  |psl _ z b o cap cur e fz hb hL hs' hz ta hv=>
   rw[hl];refine .psl ys z b o cap cur e fz hb (h2 hn b hL) (hl▸hs') (λi y hy=>?_) (hl▸ta) λi y j d v hy hd hv'=>?_
   ·obtain⟨x,hx'⟩:=dF hl hy;rw[<-hx i x y hx' hy];exact hz i x hx'
   ·obtain⟨x,hx'⟩:=dF hl hy;obtain⟨c,hc'⟩:=dF (hx i x y hx' hy) hd;exact ih i x y j c d hx' hy hc' hd (hv i x j c v hx' hc' hv')
 |lz hn cs ds hl hc ih=>
  intro v hv;cases hv with
  |lz _ b o cur e fz hb hL hs' hv=>
   refine .lz ds b o cur e fz hb (h2 hn b hL) (hl▸hs') λi d v hd hv'=>?_
   obtain⟨c,hc'⟩:=dF hl hd;exact ih i c d hc' hd (hv i c v hc' hv')
 |rsl id off z cs ys ho hs' hz hc ih=>
  intro v hv;obtain⟨b,base,hb,hnb,cur,e,NX,hcs,tS⟩:=hs.obj id _ (EM _ _ (gN ho));have r_:live β hg.H b:=⟨id,_,base,gN ho,hb⟩;generalize hlen:ys.length=len at hv;cases hv with
  |rsl _ _ _ _ b' eI cap jB e' fz' hb' YT ta hm hs2=>
   rw[hb]at hb';cases hb';rw[NX]at YT;cases YT;subst hlen;refine .psl ys z b (base+off) cap cur e (0,0) NX (h1 b r_) (by omega) hz ta λi y j d v hy hd hv'=>?_
   have hi:i<ys.length:=(amV.1 hy).1;have hj:j<z:=by rw[<-hz i y hy];exact(amV.1 hd).1
   have hb1:i*z+z<=ys.length*z:=by
    have:=anS z (show i+1<=ys.length by omega);rw[aoQ]at this;exact this
   have hlt:off+i*z+j<cs.length:=by omega
   exact ih i y j cs[off+i*z+j] d hy hd (by simp[hlt]) (tS (off+i*z+j) _ v (by simp[hlt]) (by rw[<-hv'];congr 1;omega))
  |nQ _ _ _ b' eI o hb'=>
   cases ys with
   |nil=>exact .jS _ _
   |cons y ys=>simp at hlen
 |ptr id off cs ds ho hs' hc ih=>
  intro v hv;obtain⟨b,base,hb,hnb,cur,e,NX,hcs,tS⟩:=hs.obj id _ (EM _ _ (gN ho));have r_:live β hg.H b:=⟨id,_,base,gN ho,hb⟩;cases hv with
  |ptr _ _ b' eI hb'=>
   rw[hb]at hb';cases hb';refine .lz ds b (base+off) cur e (0,0) NX (h1 b r_) (by omega) λi d v hd hv'=>?_
   have hi:i<ds.length:=(amV.1 hd).1;have hlt:off+i<cs.length:=by omega
   exact ih i cs[off+i] d (by simp[hlt]) hd (tS (off+i) _ v (by simp[hlt]) (by rw[<-hv'];congr 1;omega))
 |func fn f1 c1 f2 c2 hl1 hl2 g1 g2 ih1 ih2=>
  intro v hv;cases hv with
  |func _ _ _ u1 u2 k1 k2 q1 q2=>
   refine .func fn f2 c2 u1 u2 (hl1▸k1) (hl2▸k2) (λi d v hd hv'=>?_) (λi d v hd hv'=>?_)
   ·obtain⟨c,hc'⟩:=dF hl1 hd;exact ih1 i c d hc' hd (q1 i c v hc' hv')
   ·obtain⟨c,hc'⟩:=dF hl2 hd;exact ih2 i c d hc' hd (q2 i c v hc' hv')
 |iface t a b hb ih=>
  intro v hv;cases hv with
  |iface _ _ v hv=>exact .iface t b v (ih hv)
def Yt(h:AH)(n id:Nat):Nat->AH
 |0=>h.kill id
 |k+1=>(Yt h n id k).kill k
def S1(h:AH)(n id:Nat):AH:=Yt h n id n
theorem ea.app{h:AH}{n:Bool}{a b c d:List AV}(h1:ea h n a b)(h2:ea h n c d):ea h n (a++c) (b++d):=by
 rw[bK]at h1 h2 ⊢;refine⟨by simp[h1.1,h2.1],λi x y hx hy=>?_⟩;by_cases hi:i<a.length
 ·rw[anz hi]at hx;rw[anz (by have:=h1.1;omega)]at hy;exact h1.2 i x y hx hy
 ·rw[anj (by omega)]at hx;rw[anj (by have:=h1.1;omega),<-h1.1]at hy;exact h2.2 _ x y hx hy
theorem VR.xM{hp hp':Array Obj}{L L' L'':Nat->Prop}{β β0 β':Bl}(hβ:∀id x,β id=some x->β' id=β0 id)(hL:∀b,L'' b->L' b){c:AV}{v0:Value}(h0:VR hp L β c v0):∀ {v:Value},VR hp' L' β0 c v->VR hp' L'' β' c v:=by
 induction h0 with
 |undef v=>intro v _;exact .undef v
 |bool b=>intro v hv;cases hv;exact .bool b
 |int k n=>intro v hv;cases hv;exact .int k n
 |str s=>intro v hv;cases hv;exact .str s
 |agg cs vs hlen h ih=>
  intro v hv;cases hv with
  |agg _ us hl hu=>
   refine .agg cs us hl λi c u h1 h2=>?_
   obtain⟨x,hx⟩:=dF (l:=vs.toList) (m:=cs) (by simpa using hlen.symm) h1;exact ih i c x h1 (by simpa using hx) (hu i c u h1 h2)
 |tup cs vs hlen h ih=>
  intro v hv;cases hv with
  |tup _ us hl hu=>
   refine .tup cs us hl λi c u h1 h2=>?_
   obtain⟨x,hx⟩:=dF (l:=vs.toList) (m:=cs) (by simpa using hlen.symm) h1;exact ih i c x h1 (by simpa using hx) (hu i c u h1 h2)
 |ptr id off b base h=>
  intro v hv;cases hv with
  |ptr _ _ b2 kp h2=>exact .ptr id off b2 kp ((hβ id _ h).trans h2)
 |dS=>intro v hv;cases hv;exact .dS
 |lz cs b o cur e fz hb hnL hs h ih=>
  intro v hv;cases hv with
  |lz _ b2 o2 CV e2 fz2 hb2 hL2 hs2 h2=>
   refine .lz cs b2 o2 CV e2 fz2 hb2 (λhl=>hL2 (hL _ hl)) hs2 λi c u h3 h4=>?_
   have hi:i<cs.length:=(amV.1 h3).1;exact ih i c cur[o+i] h3 (by simp[show o+i<cur.size by omega]) (h2 i c u h3 h4)
 |fY g off=>intro v hv;cases hv;exact .fY g off
 |aa=>intro v hv;cases hv;exact .aa
 |esl a=>intro v hv;cases hv;exact .esl _
 |jS a cap=>intro v hv;cases hv<;>exact .jS _ _
 |psl xs z b o cap cur e fz hb hnL hs hz ta h ih=>
  intro v hv;cases hv with
  |jS a cap=>exact .jS _ _
  |psl _ z2 b2 o2 UE CV e2 fz2 hb2 hL2 hs2 hz2 agq h2=>
   refine .psl xs z2 b2 o2 UE CV e2 fz2 hb2 (λhl=>hL2 (hL _ hl)) hs2 hz2 agq λi x j c u h3 h4 h5=>?_
   have hi:i<xs.length:=(amV.1 h3).1;have hj:j<z:=by rw[<-hz i x h3];exact(amV.1 h4).1
   have hb1:i*z+z<=xs.length*z:=by
    have:=anS z (show i+1<=xs.length by omega);rw[aoQ]at this;exact this
   exact ih i x j c cur[o+i*z+j] h3 h4 (by simp[show o+i*z+j<cur.size by omega]) (h2 i x j c u h3 h4 h5)
 |rsl id off len z b base cap cur e fz h hb hc hm hs=>
  intro v hv;cases hv with
  |rsl _ _ _ _ b2 kp UE CV e2 fz2 g1 g2 g3 g4 g5=>exact .rsl id off len z b2 kp UE CV e2 fz2 ((hβ id _ h).trans g1) g2 g3 g4 g5
  |nQ _ _ _ b2 kp o g1=>exact .nQ id off z b2 kp o ((hβ id _ h).trans g1)
 |nQ id off z b base o h=>
  intro v hv;cases hv with
  |rsl _ _ _ _ b2 kp UE CV e2 fz2 g1 g2 g3 g4 g5=>exact .rsl id off 0 z b2 kp UE CV e2 fz2 ((hβ id _ h).trans g1) g2 g3 g4 g5
  |nQ _ _ _ b2 kp o g1=>exact .nQ id off z b2 kp o ((hβ id _ h).trans g1)
 |jR id b base h=>
  intro v hv;cases hv with
  |jR _ b2 kp h2=>exact .jR id b2 kp ((hβ id _ h).trans h2)
 |dP=>intro v hv;cases hv;exact .dP
 |func fn f1 c1 f2 c2 hl1 hl2 h1 h2 ih1 ih2=>
  intro v hv;cases hv with
  |func _ _ _ u1 u2 k1 k2 q1 q2=>
   refine .func fn f1 c1 u1 u2 k1 k2 (λi c u g1 g2=>?_) (λi c u g1 g2=>?_)
   ·obtain⟨x,hx⟩:=dF (l:=f2.toList) (m:=f1) (by simpa using hl1.symm) g1;exact ih1 i c x g1 (by simpa using hx) (q1 i c u g1 g2)
   ·obtain⟨x,hx⟩:=dF (l:=c2.toList) (m:=c1) (by simpa using hl2.symm) g1;exact ih2 i c x g1 (by simpa using hx) (q2 i c u g1 g2)
 |dt=>intro v hv;cases hv;exact .dt
 |gf=>intro v hv;cases hv;exact .gf
 |iface t a v0 h ih=>
  intro v hv;cases hv with
  |iface _ _ v h2=>exact .iface t a v (ih h2)
 |sint k m i c lo hi b base h h1 h2=>
  intro v hv;cases hv with
  |sint _ _ _ _ _ _ b2 kp g g1 g2=>exact .sint k m i c lo hi b2 kp ((hβ i _ h).trans g) g1 g2
 |sX k m r i j l lo hi b1 n1 b2 n2 b3 h1 h2 h3 q1 q2 q3 q4=>
  intro v hv;cases hv with
  |sX _ _ _ _ _ _ _ _ c1 m1 c2 m2 c3 g1 g2 g3 p1 p2 p3 p4=>exact .sX k m r i j l lo hi c1 m1 c2 m2 c3 ((hβ i _ h1).trans g1) ((hβ j _ h2).trans g2) ((hβ l _ h3).trans g3) p1 p2 p3 p4
 |qJ k rs n h=>
  intro v hv;cases hv with
  |qJ _ _ n2 h2=>exact .qJ k rs n2 h2
def Uc(h:AH):Nat->AH
 |0=>h
 |k+1=>(Uc h k).kill k
theorem DZ(h:AH):∀(k i:Nat),(Uc h k).H.get i=if i<k then none else h.H.get i
 |0,i=>by simp[Uc]
 |k+1,i=>by
  show((Uc h k).kill k).H.get i=_
  rw[ri,DZ h k i];by_cases h1:i=k
  ·subst h1;simp
  ·rw[amU h1];by_cases h2:i<k
   ·rw[am1 h2,am1 (by omega)]
   ·rw[amU h2,amU (by omega)]
def fresh(h:AH)(n:Nat):AH:=Uc h n
theorem sF(h:AH)(n i:Nat):(fresh h n).H.get i=if i<n then none else h.H.get i:=DZ h n i
theorem iA{h:AH}{n i:Nat}(h1:n<=i):(fresh h n).ab i=h.ab i:=by
 refine ay ?_;rw[sF,amU (by omega)]
def ahX(h h' g:AH)(i:Nat):Prop:=
 (g.H.get i=h.H.get i/\h'.H.get i=h.H.get i)\/∃cs1 cs2,h'.H.get i=some (.cells cs1)/\g.H.get i=some (.cells cs2)/\ea (fresh h' h.nx) false cs1 cs2
theorem OR.xM{hp hp':Array Obj}{L L' L'':Nat->Prop}{β β0 β':Bl}(hβ:∀id x,β id=some x->β' id=β0 id)(hL:∀b,L'' b->L' b){b0 Mz b base:Nat}{o:dx}(h0:OR hp L β b0 Mz o)(h:OR hp' L' β0 b base o):OR hp' L'' β' b base o:=by
 cases o with
 |cells cs=>
  obtain⟨xZ,e0,_,k2,k3⟩:=h0;obtain⟨cur,e,q1,q2,q3⟩:=h;refine⟨cur,e,q1,q2,λi c v h1 h2=>?_⟩;have hi:i<cs.length:=(amV.1 h1).1;exact(k3 i c xZ[Mz+i] h1 (by simp[show Mz+i<xZ.size by omega])).xM hβ hL (q3 i c v h1 h2)
 |map kvs=>
  obtain⟨_,es0,_,k2,k3⟩:=h0;obtain⟨hb,es,q1,q2,q3⟩:=h;refine⟨hb,es,q1,q2,λi kv e h1 h2=>?_⟩;have hi:i<kvs.length:=(amV.1 h1).1;obtain⟨m1,m2,_⟩:=k3 i kv es0[i] h1 (by simp[show i<es0.size by omega]);obtain⟨p1,p2,p3⟩:=q3 i kv e h1 h2;exact⟨m1.xM hβ hL p1,m2.xM hβ hL p2,p3⟩
 |aqv s pos=>exact h
 |typ t cs=>
  obtain⟨_,xZ,_,k2,k3⟩:=h0;obtain⟨a1,cur,q1,q2,q3⟩:=h;refine⟨a1,cur,q1,q2,λi c v h1 h2=>?_⟩;have hk:=k2.1;have hi:i<cs.length:=(amV.1 h1).1;exact(k3 i c xZ[i] h1 (by simp[show i<xZ.size by omega])).xM hβ hL (q3 i c v h1 h2)
 |iq g cs=>
  obtain⟨_,_,xZ,e0,fz0,_,k2,k3⟩:=h0;obtain⟨a1,a2,cur,e,fz,q1,q2,q3⟩:=h;refine⟨a1,a2,cur,e,fz,q1,q2,λi c v h1 h2=>?_⟩;have hi:i<cs.length:=(amV.1 h1).1;exact(k3 i c xZ[i] h1 (by simp[show i<xZ.size by omega])).xM hβ hL (q3 i c v h1 h2)
theorem AF{P:Program}{f:Nat}{args:List AV}{h g:AH}{v:AV}{R:AV->AH->Prop}(hc:aJ P f args h R)(hnx:g.nx=h.nx)(hg:∀i,h.nx<=i->g.H.get i=h.H.get i)
  (hR:∀v' h',R v' h'->Frz (fresh h' h.nx) false v' v/\∀i,i<h.nx->ahX h h' g i):aK P f args h v g:=by
 refine⟨hc.1,λown β w cS hs hRL=>(hc.2 own β w cS hs hRL).mono ?_⟩;rintro e w' ⟨cv,v0,h0,β0,rfl,hq,hs0,hv0,ht⟩;obtain⟨hfv,hk⟩:=hR v0 h0 hq;have mE:∀i,h.nx<=i->g.H.get i=none:=λi hi=>by
  rw[hg i hi];cases hh:h.H.get i with
  |none=>rfl
  |some o=>obtain⟨b,base,hb,_⟩:=hs.obj i o hh;rw[hs.fresh i hi]at hb;cases hb
 obtain⟨β',hβ'⟩:∃β':Bl,β'=λi=>if i<h.nx then β0 i else none:=⟨_,rfl⟩
 have hlt:∀i,i<h.nx->β' i=β0 i:=λi hi=>by rw[hβ'];simp[hi]
 have hge:∀i,h.nx<=i->β' i=none:=λi hi=>by rw[hβ'];simp[show ¬i<h.nx by omega]
 have ajU:∀id x,β id=some x->id<h.nx:=λid x hx=>Nat.lt_of_not_le λhle=>by rw[hs.fresh id hle]at hx;cases hx
 have hβ:∀id x,β id=some x->β' id=β0 id:=λid x hx=>hlt id (ajU id x hx)
 have um:∀i o,g.H.get i=some o->i<h.nx/\∃o2,h0.H.get i=some o2:=λi o ho=>by
  have hi:i<h.nx:=Nat.lt_of_not_le λhle=>by rw[mE i hle]at ho;cases ho
  refine⟨hi,?_⟩;rcases hk i hi with⟨k1,k2⟩|⟨cs1,cs2,k1,_,_⟩
  ·exact⟨o,by rw[k2,<-k1];exact ho⟩
  ·exact⟨_,k1⟩
 have hlv:∀b,live β' g.H b->∃i o ba,i<h.nx/\h0.H.get i=some o/\β0 i=some (b,ba):=by
  rintro b ⟨i,o,ba,h1,h2⟩;obtain⟨hi,o2,ho2⟩:=um i o h1;rw[hlt i hi]at h2;exact⟨i,o2,ba,hi,ho2,h2⟩
 have abL:∀b,live β' g.H b->live β0 h0.H b:=λb hb=>let⟨i,o,ba,_,h1,h2⟩:=hlv b hb;⟨i,o,ba,h1,h2⟩
 have hL:∀b,LL own β' g.H b->LL own β0 h0.H b:=λb hb=>hb.imp_right (abL b)
 have EM:∀i o,(fresh h0 h.nx).H.get i=some o->h0.H.get i=some o:=λi o hi=>by
  rw[sF]at hi;split at hi
  ·cases hi
  ·exact hi
 have agi:∀b,live β0 (fresh h0 h.nx).H b->¬LL own β' g.H b:=by
  rintro b ⟨i,o,ba,h1,h2⟩ hl;rw[sF]at h1;split at h1
  ·cases h1
  rename_i hi;rcases hl with ho|hl
  ·obtain⟨b2,kp,k1,k2,_⟩:=hs0.obj i o h1;rw[h2]at k1;cases k1;exact k2 ho
  ·obtain⟨j,o2,ba2,hj,h3,h4⟩:=hlv b hl;have:=hs0.inj i j o o2 b ba ba2 h1 h3 h2 h4;omega
 have hfz:∀ {a a':AV} {u:Value},Frz (fresh h0 h.nx) false a a'->VR w'.heap (LL own β0 h0.H) β0 a u->VR w'.heap (LL own β' g.H) β' a' u:=
  λhf hu=>VR.aiC hs0 EM agi (λ_ b hn hl=>hn (hL b hl)) hf hu
 have hS:bV own β' g.H g.nx w':=by
  refine⟨λi hi=>hge i (by omega),λi b ba hi=>?_,hs0.mf,λi o hgi=>?_,λi j o o' b x y h1 h2 h3 h4=>?_⟩
  ·by_cases h1:i<h.nx
   ·rw[hlt i h1]at hi;exact hs0.lt i b ba hi
   ·rw[hge i (by omega)]at hi;cases hi
  ·obtain⟨hi,_⟩:=um i o hgi;rcases hk i hi with⟨k1,k2⟩|⟨cs1,cs2,k1,k2,k3⟩
   ·have hh:h.H.get i=some o:=k1▸hgi;obtain⟨b0,Mz,p1,p2,p3⟩:=hs.obj i o hh;obtain⟨b,ba,q1,q2,q3⟩:=hs0.obj i o (k2.trans hh);exact⟨b,ba,(hlt i hi).trans q1,q2,OR.xM hβ hL p3 q3⟩
   ·rw[k2]at hgi;cases hgi;obtain⟨b,ba,q1,q2,cur,et,r1,r2,r3⟩:=hs0.obj i _ k1;have hf:=(bK _ _ _ _).1 k3;refine⟨b,ba,(hlt i hi).trans q1,q2,cur,et,r1,by rw[<-hf.1];exact r2,λj c u m1 m2=>?_⟩;obtain⟨c0,hc0⟩:=dF hf.1 m1;exact hfz (hf.2 j c0 c hc0 m1) (r3 j c0 u hc0 m2)
  ·obtain⟨i1,o1,p1⟩:=um i o h1;obtain⟨j1,o2,p2⟩:=um j o' h2;rw[hlt i i1]at h3;rw[hlt j j1]at h4;exact hs0.inj i j o1 o2 b x y p1 p2 h3 h4
 refine⟨cv,v,g,β',rfl,⟨rfl,rfl⟩,hS,hfz hfv hv0,⟨λid x hx=>?_,λid hid=>?_,by omega,ht.size,ht.du,λb hl=>ht.live b (abL b hl),λb cur e fz hc=>let⟨c,f,h1,h2,h3⟩:=ht.shape b cur e fz hc;⟨c,f,h1,h2,λhl=>h3 (abL b hl)⟩,ht.os,ht.tape,ht.output⟩⟩
 ·rw[hβ id x hx];exact ht.ext id x hx
 ·rw[hlt id hid];exact ht.low id hid
theorem RZ{P:Program}{f:Nat}{args:List AV}{h:AH}{v:AV}{R:AV->AH->Prop}(hc:aJ P f args h R)
  (hR:∀v' h',R v' h'->Frz (fresh h' h.nx) false v' v/\∀i,i<h.nx->h'.H.get i=h.H.get i):aK P f args h v h:=
 AF hc rfl (λ_ _=>rfl) λv' h' hq=>⟨(hR v' h' hq).1,λi hi=>.inl ⟨rfl,(hR v' h' hq).2 i hi⟩⟩
end Go.Eng
end
noncomputable section
namespace Go.St
open Go.Eng
open Go.Lib
abbrev Str:=List UInt8
def eM:Int:=1099511627776
def f_(w:Str):Int:=match atoiAll w with |.ok n=>n |.range=>atoiSat w|_=>0
def fD(w:Str):Bool:=match atoiAll w with |.ok n=>itoa n==w&&decide (-eM<=n)&&decide (n<=eM)|_=>false
def gx(c:UInt8):Bool:=decide (48<=c.toNat)&&decide (c.toNat<=57)
theorem CG(d:Nat)(h:d<10):(UInt8.ofNat (48+d)).toNat=48+d:=by
 rw[UInt8.toNat_ofNat'];omega
theorem qB:∀(l:Str) (acc u d:Nat),parseUint10 acc l =.ok u->d<10->u*10+d<18446744073709551616->parseUint10 acc (l++[UInt8.ofNat (48+d)]) =.ok (u*10+d)
 |[],acc,u,d,h,hd,hu=>by
  simp only[parseUint10]at h;injection h with h
  subst h;have:=CG d hd;simp only[anx,parseUint10,this];rw[am1 (by omega),amU (by omega),amU (by omega)];congr 1
  omega
 |c::r,acc,u,d,h,hd,hu=>by
  simp only[anB,parseUint10]at h ⊢;split at h
  ·rename_i h1;rw[am1 h1];split at h
   ·cases h
   ·rename_i h2;rw[amU h2];split at h
    ·cases h
    ·rename_i h3;rw[amU h3];exact qB r _ u d h hd hu
  ·cases h
theorem sR(u:Nat):u<18446744073709551616->parseUint10 0 (decDigits u) =.ok u:=by
 induction u using Nat.strongRecOn with
 |_ u ih=>
  intro hu;by_cases h:u<10
  ·rw[decDigits,dif_pos h];have:=qB [] 0 0 u rfl h (by omega);simpa using this
  ·rw[decDigits,dif_neg h];have:=qB (decDigits (u/10)) 0 (u/10) (u%10) (ih (u/10) (by omega) (by omega)) (by omega) (by omega);rwa [show u/10*10+u%10=u by omega]at this
theorem sk(u:Nat):decDigits u≠[]:=by
 intro h;have:=decDigits_length u;rw[h]at this;have:=nDigits_pos u;simp at*;omega
theorem uM(u:Nat):∀c∈decDigits u,gx c=true:=by
 induction u using Nat.strongRecOn with
 |_ u ih=>
  intro c hc;by_cases h:u<10
  ·rw[decDigits,dif_pos h]at hc;simp only[anQ]at hc;subst hc;have:=CG u h;simp[gx,this];omega
  ·rw[decDigits,dif_neg h]at hc;simp only[anP,anQ]at hc;rcases hc with hc|rfl
   ·exact ih (u/10) (by omega) c hc
   ·have:=CG (u%10) (by omega);simp[gx,this];omega
theorem rj{u:Nat}(h:u<18446744073709551616):parseMag (decDigits u) =.ok u:=by
 unfold parseMag;rw[amU (sk u)];exact sR u h
theorem zm{n:Int}(h0 : -9223372036854775808<=n)(h1:n<=9223372036854775807):atoiAll (itoa n) =.ok n:=by
 unfold itoa;by_cases hn:n<0
 ·rw[am1 hn];unfold atoiAll;have:parseMag (decDigits n.natAbs) =.ok n.natAbs:=rj (by omega);have e:(45:UInt8).toNat=45:=rfl;simp only[e,or_true,anH,this,not_true_eq_false,an3,true_and,ans];rw[amU (by omega)];congr 1
  omega
 ·rw[amU hn];have hd:=uM n.toNat;have hm:=rj (u:=n.toNat) (by omega);cases hc:decDigits n.toNat with
  |nil=>exact absurd hc (sk _)
  |cons c r=>
   rw[hc]at hd hm;have h2:=hd c (by simp);simp[gx]at h2;unfold atoiAll;have e1:¬(c.toNat=43\/c.toNat=45):=by omega
   have e2:¬c.toNat=45:=by omega
   have e3:¬9223372036854775808<=n.toNat:=by omega
   have e4:¬c.toNat=43:=by omega
   simp[e2,e3,e4,hm];omega
theorem mP(w:Str):fD w=true↔∃n:Int, -eM<=n/\n<=eM/\w=itoa n/\f_ w=n:=by
 constructor
 ·intro h;unfold fD at h;unfold f_;split at h
  ·rename_i n hn;simp only[amZ,an2,ana]at h;exact⟨n,h.1.2,h.2,h.1.1.symm,by rw[hn]⟩
  ·cases h
 ·rintro⟨n,h0,h1,rfl,_⟩;unfold eM at h0 h1;unfold fD;rw[zm (by omega) (by omega)];simp[eM,h0,h1]
theorem wI{n:Int}(h0 : -eM<=n)(h1:n<=eM):f_ (itoa n)=n:=by
 unfold eM at h0 h1;unfold f_;rw[zm (by omega) (by omega)]
inductive Val where
 |mk (k n:Int) (s:Str) (l:List Val)
def Val.zero:Val:=.mk 0 0 [] []
instance:Inhabited Val:=⟨Val.zero⟩
def de:Str:=[112,111,105,110,116,101,114]
def kh:Str:=[107,101,121]
def gQ:Str:=[116,105,109,101]
def gK:Str:=[115,105,122,101]
def RQ:Str:=[109,111,100,101]
def gS:Str:=[97,114,103,115]
def dN:Str:=[97,99,99,101,115,115]
def db:Str:=[99,111,109,112,111,115,101]
def QS:Str:=[100,111,119,110]
def QY:Str:=[109,111,118,101]
def adK:Str:=[117,112]
def ga:Str:=[99,97,110,99,101,108]
def On:Str:=[116,105,99,107]
def K5:Str:=[119,104,101,101,108]
def Wp:Str:=[112,114,101,115,115]
def VF:Str:=[102,111,99,117,115]
def G5:Str:=[105,110,99,114,101,97,115,101]
def Gw:Str:=[100,101,99,114,101,97,115,101]
def NQ:Str:=[115,101,116,116,101,120,116]
def Rv:Str:=[115,101,108,101,99,116]
def IM:Str:=[115,99,114,111,108,108,117,112]
def B3:Str:=[115,99,114,111,108,108,100,111,119,110]
def ME:Str:=[100,105,115,109,105,115,115]
def jV:Str:=[98,101,103,105,110]
def iw:Str:=[117,112,100,97,116,101]
def OB:Str:=[99,111,109,109,105,116]
def nu:Str:=[108,105,103,104,116]
def jP:Str:=[100,97,114,107]
def ji:Str:=[110,111,114,109,97,108]
def jx:Str:=[104,105,103,104]
def d_:Str:=[116,114,117,101]
def LM:Str:=[102,97,108,115,101]
structure PS where
 pos:Nat
 first:Bool
 ok:Bool
def bB(s:Str)(t:PS):Bool:=t.ok&&decide (t.pos<s.length)
def bg(s:Str)(b:UInt8)(t:PS):PS:=if bB s t=true/\s[t.pos]?=some b then⟨t.pos+1,t.first,t.ok⟩else⟨t.pos,t.first,false⟩
def mi(s:Str)(t:PS):PS:=if t.first=true then⟨t.pos,false,t.ok⟩else bg s 32 t
def bl(closing:Bool)(c:UInt8):Bool:=c != 32&&(!closing||c != 93)
def bZ(s:Str)(cl:Bool)(t:PS):Str:=(s.drop t.pos).takeWhile (bl cl)
def vw(s:Str)(cl:Bool)(t:PS):PS:=⟨t.pos+(bZ s cl t).length,t.first,t.ok && !(bZ s cl t).isEmpty⟩
def bT(s:Str)(t:PS):Str:=bZ s false (mi s t)
def bq(s:Str)(t:PS):PS:=vw s false (mi s t)
def idx(l:List Str)(w:Str):Int:=match l.findIdx? (· == w)with|some i=>(i:Int)|none=> -1
def bf(s:Str)(l:List Str)(t:PS):Int:=idx l (bT s t)
def aL(s:Str)(l:List Str)(t:PS):PS:=⟨(bq s t).pos,(bq s t).first,(bq s t).ok&&decide (0<=idx l (bT s t))⟩
def cQ(s:Str)(t:PS):Int:=f_ (bT s t)
def bc(s:Str)(t:PS):PS:=⟨(bq s t).pos,(bq s t).first,(bq s t).ok&&fD (bT s t)⟩
def mq(c:UInt8):Bool:=c==92||c==34||c==110
def D0(c:UInt8):UInt8:=if c=92 then 92 else if c=34 then 34 else if c=110 then 10 else 0
def lU(s:Str)(t:PS):UInt8:=if bB s t=true then(match s[t.pos]? with|some c=>D0 c|none=>0)else 0
def fx(s:Str)(t:PS):PS:=if bB s t=true then(match s[t.pos]? with|some c=>⟨t.pos+1,t.first,mq c⟩|none=>⟨t.pos,t.first,false⟩)else⟨t.pos,t.first,false⟩
def pQ1(s:Str)(c:UInt8)(t:PS):UInt8×PS:=if c=92 then(lU s ⟨t.pos+1,t.first,t.ok⟩,fx s ⟨t.pos+1,t.first,t.ok⟩)else(c,⟨t.pos+1,t.first,t.ok⟩)
def pQL(s:Str):Nat->Str->PS->Str×PS
 |0,out,t=>(out,t)
 |n+1,out,t=>if bB s t=true then(match s[t.pos]? with
  |some c=>if c=34 then(out,t)else pQL s n (out++[(pQ1 s c t).1]) (pQ1 s c t).2
  |none=>(out,t))else(out,t)
def jN(s:Str)(t:PS):Str×PS:=pQL s s.length [] (bg s 34 t)
def jd(s:Str)(t:PS):Str:=(jN s t).1
def ef(s:Str)(t:PS):PS:=⟨(bg s 34 (jN s t).2).pos,(bg s 34 (jN s t).2).first,(bg s 34 (jN s t).2).ok&&validD (jN s t).1⟩
def iJ(s:Str)(t:PS):Str:=jd s (mi s t)
def dW(s:Str)(t:PS):PS:=ef s (mi s t)
