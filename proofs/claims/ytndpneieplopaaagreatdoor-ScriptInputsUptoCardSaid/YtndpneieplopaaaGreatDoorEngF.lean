/- The abstract interpreter's ground: maps, abstract values, how they stand to the model's values, the heap of owned objects. -/
import Derived.Orders
import Derived.LoopN
import Derived.Laws.AppendOwn
import GoSem.Dispatch
import Derived.Laws.StructEq
import Derived.Laws.Strings
import Derived.Laws.Pointers
set_option linter.unusedSimpArgs false
set_option linter.unusedVariables false
namespace Go.Eng
inductive PM(α:Type) where
 |leaf
 |node (l:PM α) (v:Option α) (r:PM α)
namespace PM
variable {α:Type}
def get:PM α->Nat->Option α
 |leaf,_=>none
 |node l v r,k=>cond (Nat.beq k 0) v (cond (Nat.beq (Nat.mod k 2) 1) (l.get (Nat.div k 2)) (r.get (Nat.sub (Nat.div k 2) 1)))
def oG:Nat->PM α->Nat->Option α->PM α
 |0,t,_,_=>t
 |f+1,leaf,k,x=>cond (Nat.beq k 0) (node leaf x leaf) (cond (Nat.beq (Nat.mod k 2) 1) (node (oG f leaf (Nat.div k 2) x) none leaf) (node leaf none (oG f leaf (Nat.sub (Nat.div k 2) 1) x)))
 |f+1,node l v r,k,x=>cond (Nat.beq k 0) (node l x r) (cond (Nat.beq (Nat.mod k 2) 1) (node (oG f l (Nat.div k 2) x) v r) (node l v (oG f r (Nat.sub (Nat.div k 2) 1) x)))
def put(t:PM α)(k:Nat)(x:α):PM α:=oG (Nat.succ k) t k (some x)
def del(t:PM α)(k:Nat):PM α:=oG (Nat.succ k) t k none
theorem Nt:∀(f:Nat) (t:PM α) (k:Nat) (x:Option α) (j:Nat),k<f->(oG f t k x).get j=if j=k then x else t.get j:=by
 intro f;induction f with
 |zero=>intro t k x j h;omega
 |succ f m=>
  intro t k x j h;have e:∀a b:Nat,Nat.beq a b=decide (a=b):=λa b=>by
   cases n:Nat.beq a b
   ·exact(decide_eq_false (Nat.ne_of_beq_eq_false n)).symm
   exact(decide_eq_true (Nat.eq_of_beq_eq_true n)).symm
  have hm:∀a:Nat,Nat.mod a 2=a%2:=λ_=>rfl
  have g:∀a:Nat,Nat.div a 2=a/2:=λ_=>rfl
  have hs:∀a:Nat,Nat.sub a 1=a-1:=λ_=>rfl
  cases t with
  |leaf=>
   simp only[oG,get,e,hm,g,hs];by_cases i:k=0
   ·subst i;by_cases d:j=0
    ·simp[get,e,d]
    simp[get,e,d]
   by_cases hp:k%2=1
   ·simp only[i,hp,decide_true,decide_false,cond_true,cond_false,get,e,hm,g,hs];by_cases d:j=0
    ·have:¬(j=k):=by omega
     simp[d];omega
    by_cases c:j%2=1
    ·simp only[d,c,decide_true,decide_false,cond_true,cond_false];rw[m _ _ _ _ (by omega)];by_cases he:j=k
     ·subst he;simp
     have:¬(j/2=k/2):=by omega
     simp[he,this,get]
    have:¬(j=k):=by intro h;subst h;omega
    simp[d,c,this]
   simp only[i,hp,decide_false,cond_false,get,e,hm,g,hs];by_cases d:j=0
   ·simp[d];omega
   by_cases c:j%2=1
   ·have:¬(j=k):=by intro h;subst h;omega
    simp[d,c,this]
   simp only[d,c,decide_false,cond_false];rw[m _ _ _ _ (by omega)];by_cases he:j=k
   ·subst he;simp
   have:¬(j/2-1=k/2-1):=by omega
   simp[he,this,get]
  |node l v r=>
   simp only[oG,get,e,hm,g,hs];by_cases i:k=0
   ·subst i;by_cases d:j=0
    ·simp[get,e,d]
    simp[get,e,d,hm,g,hs]
   by_cases hp:k%2=1
   ·simp only[i,hp,decide_true,decide_false,cond_true,cond_false,get,e,hm,g,hs];by_cases d:j=0
    ·simp[d];omega
    by_cases c:j%2=1
    ·simp only[d,c,decide_true,decide_false,cond_true,cond_false];rw[m _ _ _ _ (by omega)];by_cases he:j=k
     ·subst he;simp
     have:¬(j/2=k/2):=by omega
     simp[he,this]
    have:¬(j=k):=by intro h;subst h;omega
    simp[d,c,this]
   simp only[i,hp,decide_false,cond_false,get,e,hm,g,hs];by_cases d:j=0
   ·simp[d];omega
   by_cases c:j%2=1
   ·have:¬(j=k):=by intro h;subst h;omega
    simp[d,c,this]
   simp only[d,c,decide_false,cond_false];rw[m _ _ _ _ (by omega)];by_cases he:j=k
   ·subst he;simp
   have:¬(j/2-1=k/2-1):=by omega
   simp[he,this]
theorem lT(t:PM α)(k:Nat)(x:α)(j:Nat):(t.put k x).get j=if j=k then some x else t.get j:=Nt _ t k _ j (Nat.lt_succ_self k)
theorem Ea(t:PM α)(k:Nat)(j:Nat):(t.del k).get j=if j=k then none else t.get j:=Nt _ t k _ j (Nat.lt_succ_self k)
theorem kN(t:PM α)(k:Nat)(x:α):(t.put k x).get k=some x:=by rw[lT,if_pos rfl]
theorem jb(t:PM α){k j:Nat}(x:α)(h:j≠k):(t.put k x).get j=t.get j:=by rw[lT,if_neg h]
theorem Zw(t:PM α)(k:Nat):(t.del k).get k=none:=by rw[Ea,if_pos rfl]
theorem JN(t:PM α){k j:Nat}(h:j≠k):(t.del k).get j=t.get j:=by rw[Ea,if_neg h]
end PM
def pK(n:Nat):Nat:=(2126*(n/65536)*(n/65536)+7152*(n/256%256)*(n/256%256)+722*(n%256)*(n%256))/650250
def Jc(a b:Nat):Nat:=((if pK a<pK b then pK b else pK a)+50)*100/((if pK b<pK a then pK b else pK a)+50)
inductive AV where
 |undef
 |bool (b:Bool)
 |int (k:IntKind) (n:Int)
 |str (s:List UInt8)
 |agg (cs:List AV)
 |tup (vs:List AV)
 |ptr (id off:Nat)
 |dh
 |ai (cs:List AV)
 |c_ (g off:Nat)
 |D
 |esl
 |psl (xs:List (List AV))
 |rsl (id off len z:Nat)
 |fh (id:Nat)
 |fp
 |func (fn:Fn) (first captured:List AV)
 |fX
 |bR
 |iface (t:TypeId) (v:AV)
 |sint (k:IntKind) (m i:Nat) (c lo hi:Int)
 |ly (k:IntKind) (m r i j l:Nat) (lo hi:Int)
 |jZ (k:IntKind) (rs:List (BinOp×Int×Int))
 deriving Inhabited
def jf(c:BinOp)(k:IntKind)(a b:Int):Option AV:=
 match c with
 |.add=>some (.int k (k.wrap (a+b)))
 |.sub=>some (.int k (k.wrap (a-b)))
 |.mul=>some (.int k (k.wrap (a*b)))
 |.quo=>if b=0 then none else some (.int k (k.wrap (a.tdiv b)))
 |.rem=>if b=0 then none else some (.int k (a.tmod b))
 |.and=>some (.int k (k.wrap (BitVec.ofInt k.bits a &&& BitVec.ofInt k.bits b).toNat))
 |.or=>some (.int k (k.wrap (BitVec.ofInt k.bits a ||| BitVec.ofInt k.bits b).toNat))
 |.xor=>some (.int k (k.wrap (BitVec.ofInt k.bits a ^^^ BitVec.ofInt k.bits b).toNat))
 |.andNot=>some (.int k (k.wrap (BitVec.ofInt k.bits a &&& ~~~BitVec.ofInt k.bits b).toNat))
 |.eql=>some (.bool (a==b))
 |.neq=>some (.bool (a != b))
 |.lss=>some (.bool (decide (a<b)))
 |.leq=>some (.bool (decide (a<=b)))
 |.gtr=>some (.bool (decide (b<a)))
 |.geq=>some (.bool (decide (b<=a)))
 |_=>none
def AV.one:AV->Bool
 |.undef |.agg _ |.tup _=>false
 |_=>true
def AV.cells:AV->List AV
 |.agg cs=>cs
 |v=>[v]
abbrev Bl:=Nat->Option (Nat×Nat)
inductive VR(hp:Array Obj)(L:Nat->Prop)(β:Bl):AV->Value->Prop where
 |undef (v:Value):VR hp L β .undef v
 |bool (b:Bool):VR hp L β (.bool b) (.bool b)
 |int (k:IntKind) (n:Int):VR hp L β (.int k n) (.int k n)
 |str (s:List UInt8):VR hp L β (.str s) (.string ⟨s.toArray⟩)
 |agg (cs:List AV) (vs:Array Value) (hl:cs.length=vs.size) (h:∀(i:Nat) (c:AV) (v:Value),cs[i]?=some c->vs[i]?=some v->VR hp L β c v):VR hp L β (.agg cs) (.agg vs)
 |tup (cs:List AV) (vs:Array Value) (hl:cs.length=vs.size) (h:∀(i:Nat) (c:AV) (v:Value),cs[i]?=some c->vs[i]?=some v->VR hp L β c v):VR hp L β (.tup cs) (.tuple vs)
 |ptr (id off b base:Nat) (h:β id=some (b,base)):VR hp L β (.ptr id off) (.pointer (some ⟨b,base+off,none⟩))
 |dh:VR hp L β .dh (.pointer none)
 |ai (cs:List AV) (b o:Nat) (cur:Array Value) (e:TypeId) (fz:Nat×Nat) (hb:hp[b]?=some (.cells cur e fz)) (hL:¬L b) (hs:o+cs.length<=cur.size)
   (h:∀(i:Nat) (c:AV) (v:Value),cs[i]?=some c->cur[o+i]?=some v->VR hp L β c v):VR hp L β (.ai cs) (.pointer (some ⟨b,o,none⟩))
 |c_ (g off:Nat):VR hp L β (.c_ g off) (.pointer (some ⟨g,off,none⟩))
 |D:VR hp L β .D (.slice none 0 0)
 |esl (a:Option Addr):VR hp L β .esl (.slice a 0 0)
 |eu (a:Option Addr) (cap:Nat):VR hp L β (.psl []) (.slice a 0 cap)
 |psl (xs:List (List AV)) (z b o cap:Nat) (cur:Array Value) (e:TypeId) (fz:Nat×Nat) (hb:hp[b]?=some (.cells cur e fz)) (hL:¬L b) (hs:o+xs.length*z<=cur.size)
   (hz:∀(i:Nat) (x:List AV),xs[i]?=some x->x.length=z) (hc:xs.length<=cap)
   (h:∀(i:Nat) (x:List AV) (j:Nat) (c:AV) (v:Value),xs[i]?=some x->x[j]?=some c->cur[o+i*z+j]?=some v->VR hp L β c v):VR hp L β (.psl xs) (.slice (some ⟨b,o,none⟩) xs.length cap)
 |rsl (id off len z b base cap:Nat) (cur:Array Value) (e:TypeId) (fz:Nat×Nat) (h:β id=some (b,base)) (hb:hp[b]?=some (.cells cur e fz)) (hc:len<=cap) (hm:cap<=maxLen) (hs:base+off+cap*z<=cur.size):
   VR hp L β (.rsl id off len z) (.slice (some ⟨b,base+off,none⟩) len cap)
 |gi (id off z b base o:Nat) (h:β id=some (b,base)):VR hp L β (.rsl id off 0 z) (.slice (some ⟨b,o,none⟩) 0 0)
 |fh (id b base:Nat) (h:β id=some (b,base)):VR hp L β (.fh id) (.map (some b))
 |fp:VR hp L β .fp (.map none)
 |func (fn:Fn) (f1 c1:List AV) (f2 c2:Array Value) (hl1:f1.length=f2.size) (hl2:c1.length=c2.size) (h1:∀(i:Nat) (c:AV) (v:Value),f1[i]?=some c->f2[i]?=some v->VR hp L β c v)
   (h2:∀(i:Nat) (c:AV) (v:Value),c1[i]?=some c->c2[i]?=some v->VR hp L β c v):VR hp L β (.func fn f1 c1) (.func fn f2 c2)
 |fX:VR hp L β .fX .nilFunc
 |bR:VR hp L β .bR .nilIface
 |iface (t:TypeId) (a:AV) (v:Value) (h:VR hp L β a v):VR hp L β (.iface t a) (.iface t v)
 |sint (k:IntKind) (m i:Nat) (c lo hi:Int) (b base:Nat) (h:β i=some (b,base)) (h1:lo<=((base%m:Nat):Int)+c) (h2:((base%m:Nat):Int)+c<=hi):VR hp L β (.sint k m i c lo hi) (.int k (((base%m:Nat):Int)+c))
 |ly (k:IntKind) (m r i j l:Nat) (lo hi:Int) (b1 n1 b2 n2 b3:Nat) (h1:β i=some (b1,n1)) (h2:β j=some (b2,n2)) (h3:β l=some (b3,Jc (n1%16777216) (n2%16777216))) (q1:n1<=4294967295) (q2:n2<=4294967295)
   (q3:lo<=((Jc (n1%16777216) (n2%16777216):Nat):Int)) (q4:((Jc (n1%16777216) (n2%16777216):Nat):Int)<=hi):VR hp L β (.ly k m r i j l lo hi) (.int k ((((if r=0 then n1 else n2)%m:Nat):Int)))
 |jZ (k:IntKind) (rs:List (BinOp×Int×Int)) (n:Int) (h:∀o d r,(o,d,r)∈rs->jf o k n d=some (.int k r)):VR hp L β (.jZ k rs) (.int k n)
structure sI(hp:Array Obj)(L:Nat->Prop)(β:Bl)(hp':Array Obj)(L':Nat->Prop)(β':Bl):Prop where
 ext:∀id x,β id=some x->β' id=some x
 aY:∀b,b<hp.size->¬L b->¬L' b/\hp'[b]?=hp[b]?
 shape:∀(b:Nat) (cur:Array Value) (e:TypeId) (fz:Nat×Nat),hp[b]?=some (.cells cur e fz)->∃cur' fz',hp'[b]?=some (.cells cur' e fz')/\cur'.size=cur.size
theorem gR{α:Type}{a:Array α}{i:Nat}{x:α}(h:a[i]?=some x):i<a.size:=(Array.getElem?_eq_some_iff.1 h).1
theorem VR.later{hp:Array Obj}{L:Nat->Prop}{β:Bl}{u:Array Obj}{Q:Nat->Prop}{β':Bl}(d:sI hp L β u Q β'){a:AV}{v:Value}(h:VR hp L β a v):VR u Q β' a v:=by
 induction h with
 |undef v=>exact .undef v
 |bool b=>exact .bool b
 |int k n=>exact .int k n
 |str s=>exact .str s
 |agg cs A hlen h p=>exact .agg cs A hlen p
 |tup cs A hlen h p=>exact .tup cs A hlen p
 |ptr id off b base h=>exact .ptr id off b base (d.ext _ _ h)
 |dh=>exact .dh
 |ai cs b o cur e y q B hs h p=>
  obtain⟨f,h2⟩:=d.aY b (gR q) B;exact .ai cs b o cur e y (h2.trans q) f hs p
 |c_ g off=>exact .c_ g off
 |D=>exact .D
 |esl a=>exact .esl a
 |eu a cap=>exact .eu a cap
 |psl xs z b o cap cur e y q B hs R C h p=>
  obtain⟨f,h2⟩:=d.aY b (gR q) B;exact .psl xs z b o cap cur e y (h2.trans q) f hs R C p
 |rsl id off len z b base cap cur e y h q C hm hs=>
  obtain⟨x,G,f,h2⟩:=d.shape _ _ _ _ q;exact .rsl id off len z b base cap x e G (d.ext _ _ h) f C hm (by omega)
 |gi id off z b base o h=>exact .gi id off z b base o (d.ext _ _ h)
 |fh id b base h=>exact .fh id b base (d.ext _ _ h)
 |fp=>exact .fp
 |func fn f1 c1 f2 c2 J K f h2 M N=>exact .func fn f1 c1 f2 c2 J K M N
 |fX=>exact .fX
 |bR=>exact .bR
 |iface t a v h p=>exact .iface t a v p
 |sint k m i c lo hi b base h f h2=>exact .sint k m i c lo hi b base (d.ext _ _ h) f h2
 |ly k m r i j l lo hi b1 n1 b2 S U f h2 V q1 q2 q3 W=>exact .ly k m r i j l lo hi b1 n1 b2 S U (d.ext _ _ f) (d.ext _ _ h2) (d.ext _ _ V) q1 q2 q3 W
 |jZ k rs n h=>exact .jZ k rs n h
theorem VR.one{hp:Array Obj}{L:Nat->Prop}{β:Bl}{a:AV}{v:Value}(h:VR hp L β a v)(b:a.one=true):v.oneCell'=true:=by
 cases h<;>first|rfl|simp[AV.one]at b
inductive bg where
 |cells (cs:List AV)
 |map (kvs:List (AV×AV))
 |pG (s:ByteArray) (pos:Nat)
 |dN (g:Nat) (cs:List AV)
 |typ (t:TypeId) (cs:List AV)
 deriving Inhabited
abbrev Hp:=PM bg
def live(β:Bl)(H:Hp)(b:Nat):Prop:=∃id o base,H.get id=some o/\β id=some (b,base)
theorem wA(t:Nat):(2*t+1)/2=t:=by omega
def fits(t n m:Nat):Prop:=n<=m/\(t%2=1->m=n)
def OR(hp:Array Obj)(L:Nat->Prop)(β:Bl)(b d:Nat):bg->Prop
 |.cells cs=>∃cur e,hp[b]?=some (.cells cur e (0,0))/\d+cs.length<=cur.size/\
   ∀(i:Nat) (c:AV) (v:Value),cs[i]?=some c->cur[d+i]?=some v->VR hp L β c v
 |.map kvs=>d=0/\∃es,hp[b]?=some (.map es kvs.length)/\es.size=kvs.length/\
   ∀(i:Nat) (kv:AV×AV) (e:MapEntry),kvs[i]?=some kv->es[i]?=some e->VR hp L β kv.1 e.key/\VR hp L β kv.2 e.val/\e.born=i
 |.pG s pos=>d=0/\hp[b]?=some (.stringIter s pos)
 |.dN g cs=>d=0/\b=g/\∃cur e fz,hp[b]?=some (.cells cur e fz)/\cs.length=cur.size/\
   ∀(i:Nat) (c:AV) (v:Value),cs[i]?=some c->cur[i]?=some v->VR hp L β c v
 |.typ t cs=>d=0/\∃cur,hp[b]?=some (.cells cur (t/2) (0,0))/\fits t cs.length cur.size/\
   ∀(i:Nat) (c:AV) (v:Value),cs[i]?=some c->cur[i]?=some v->VR hp L β c v
structure aB(own:Nat->Prop)(β:Bl)(H:Hp)(nx:Nat)(w:World):Prop where
 fresh:∀id,nx<=id->β id=none
 lt:∀id b base,β id=some (b,base)->b<w.heap.size
 iU:∀b,own b->b<w.heap.size
 obj:∀id o,H.get id=some o->∃b base,β id=some (b,base)/\¬own b/\OR w.heap (λb=>own b\/live β H b) β b base o
 inj:∀id id' o o' b x y,H.get id=some o->H.get id'=some o'->β id=some (b,x)->β id'=some (b,y)->id=id'
structure AH where
 H:Hp
 nx:Nat
structure aX(own:Nat->Prop)(β:Bl)(h:AH)(w:World)(β':Bl)(h':AH)(w':World):Prop where
 ext:∀id x,β id=some x->β' id=some x
 low:∀id,id<h.nx->β' id=β id
 up:h.nx<=h'.nx
 size:w.heap.size<=w'.heap.size
 aY:∀b,b<w.heap.size->¬live β h.H b->w'.heap[b]?=w.heap[b]?
 live:∀b,live β' h'.H b->live β h.H b\/w.heap.size<=b
 shape:∀(b:Nat) (cur:Array Value) (e:TypeId) (fz:Nat×Nat),w.heap[b]?=some (.cells cur e fz)->∃cur' fz',w'.heap[b]?=some (.cells cur' e fz')/\cur'.size=cur.size/\(Eng.live β' h'.H b->fz'=fz)
 os:w'.os=w.os
 tape:w'.tape=w.tape
 output:w'.output=w.output
theorem aX.refl(own:Nat->Prop)(β:Bl)(h:AH)(w:World):aX own β h w β h w:=
 ⟨λ_ _ h=>h,λ_ _=>rfl,Nat.le_refl _,Nat.le_refl _,λ_ _ _=>rfl,λ_ h=>.inl h,λ_ cur _ b h=>⟨cur,b,h,rfl,λ_=>rfl⟩,rfl,rfl,rfl⟩
theorem aX.trans{own:Nat->Prop}{β₁ β₂ β₃:Bl}{h₁ h₂ h₃:AH}{w₁ w₂ w₃:World}(h:aX own β₁ h₁ w₁ β₂ h₂ w₂)(k:aX own β₂ h₂ w₂ β₃ h₃ w₃):aX own β₁ h₁ w₁ β₃ h₃ w₃:=by
 refine⟨λid x i=>k.ext _ _ (h.ext _ _ i),λid hid=>(k.low id (Nat.lt_of_lt_of_le hid h.up)).trans (h.low id hid),Nat.le_trans h.up k.up,Nat.le_trans h.size k.size,λb d g=>?_,λb d=>?_,λb cur e p j=>?_,k.os.trans h.os,k.tape.trans h.tape,k.output.trans h.output⟩
 ·rw[k.aY b (Nat.lt_of_lt_of_le d h.size) (λf=>?_)]
  ·exact h.aY b d g
  rcases h.live b f with c|c
  ·exact g c
  omega
 ·rcases k.live b d with c|c
  ·exact h.live b c
  exact .inr (Nat.le_trans h.size c)
 obtain⟨c1,f1,c,h2,l⟩:=h.shape _ _ _ _ j;obtain⟨c2,f2,m,n,o⟩:=k.shape _ _ _ _ c;refine⟨c2,f2,m,n.trans h2,λf=>(o f).trans (l ((k.live b f).elim id λhle=>?_))⟩;have:=gR c;omega
theorem aX.later{own:Nat->Prop}{β β':Bl}{h k:AH}{w w':World}(g:aX own β h w β' k w'):
  sI w.heap (λb=>own b\/Eng.live β h.H b) β w'.heap (λb=>own b\/Eng.live β' k.H b) β':=
 ⟨g.ext,λb l i=>⟨λj=>j.elim (λd=>i (.inl d)) (λd=>(g.live b d).elim (λh2=>i (.inr h2)) (λh2=>by omega)),g.aY b l (λj=>i (.inr j))⟩,λb cur e m n=>let⟨c,f,d,h2,_⟩:=g.shape b cur e m n;⟨c,f,d,h2⟩⟩
end Go.Eng
noncomputable section
namespace Go.Eng
inductive Opd where
 |tmp (t:Nat)
 |const (v:AV)
 deriving Inhabited
def Tm:Type:=Nat->Option AV
def Tm.get(T:Tm)(t:Nat):Option AV:=T t
def Tm.put(T:Tm)(d:Nat)(v:AV):Tm:=λt=>cond (Nat.beq t d) (some v) (T t)
def Tm.leaf:Tm:=λ_=>none
theorem Tm.lT(T:Tm)(k:Nat)(x:AV)(j:Nat):(T.put k x).get j=if j=k then some x else T.get j:=by
 unfold Tm.put Tm.get;by_cases h:j=k
 ·subst h;simp
 have:Nat.beq j k=false:=by cases b:Nat.beq j k with|false=>rfl|true=>exact absurd (Nat.eq_of_beq_eq_true b) h
 simp[this,h]
theorem Tm.kN(T:Tm)(k:Nat)(x:AV):(T.put k x).get k=some x:=by rw[lT,if_pos rfl]
theorem Tm.jb(T:Tm){k j:Nat}(x:AV)(h:j≠k):(T.put k x).get j=T.get j:=by rw[lT,if_neg h]
theorem Tm.K5(t:Nat):Tm.leaf.get t=none:=rfl
def Opd.ev(T:Tm):Opd->AV
 |.tmp t=>(T.get t).getD .undef
 |.const v=>v
inductive SK where
 |bool
 |int (k:IntKind)
 |str
 deriving DecidableEq
inductive NK where
 |ptr|sl|mp|fn
 deriving DecidableEq
inductive MK where
 |one (k:SK)
 |st (ks:List SK)
inductive XK where
 |s2r
 |r2s
 |b2s
 |sL
 |af6 (k:MK)
 |yH (k:MK) (ok:Bool) (zero:AV)
 |afl (k:MK) (zero:AV)
 |ag9
 |yI
 |ah9
 |aie (z bytes:Nat) (zero:List AV)
 |aia (n z:Nat)
 |nB (t:TypeId) (zero:List AV)
 |nz (neg:Bool)
 |i2s
 |s2b
 |ni (t:TypeId)
inductive AOp where
 |mov (x:Opd)
 |pick (c a b:Opd)
 |new (zero:List AV)
 |box (x:Opd)
 |build (zero:List AV) (parts:List (Nat×Nat×Opd))
 |xd (z len:Nat) (zero:List AV) (parts:List (Nat×Nat×Opd))
 |ld1 (a:Opd)
 |ldn (n:Nat) (a:Opd)
 |st (n:Nat) (a x:Opd)
 |yJ (x:Opd)
 |arith (op:BinOp) (x y:Opd)
 |eqs (neg:Bool) (x y:Opd)
 |eqn (k:NK) (neg:Bool) (x y:Opd)
 |eqf (neg:Bool) (ks:List SK) (x y:Opd)
 |un (op:UnOp) (x:Opd)
 |zk (k:IntKind) (x:Opd)
 |fld (off:Nat) (n:Option Nat) (x:Opd)
 |Ji (off:Nat) (x:Opd)
 |Jh (z:Nat) (x i:Opd)
 |BK (len z:Nat) (x i:Opd)
 |idx (len z:Nat) (n:Option Nat) (x i:Opd)
 |zH (x i:Opd)
 |sl (z:Nat) (x:Opd) (lo hi mx:Option Opd)
 |slS (x:Opd) (lo hi:Option Opd)
 |len (x:Opd)
 |zF (x:Opd)
 |I1 (x:Opd)
 |Y4 (n:Nat)
 |app (z bytes:Nat) (s x:Opd)
 |copy (z:Nat) (d s:Opd)
 |vz (mx:Bool) (x y:Opd)
 |ext (x:Opd) (i:Nat)
 |mkf (fn:Fn) (first captured:List Opd)
 |vt (z bytes:Nat) (zero:List AV) (l c:Opd)
 |call (f:Opd) (args:List Opd)
 |xo (k:XK) (args:List Opd)
 |stuck
 deriving Inhabited
structure aq where
 dst:Option Nat
 op:AOp
 guard:Option (Nat×Bool)
 deriving Inhabited
def Bu:Value->Option AV
 |.bool b=>some (.bool b)
 |.int k n=>some (.int k n)
 |.string s=>some (.str s.data.toList)
 |.pointer none=>some .dh
 |.slice none 0 0=>some .D
 |.map none=>some .fp
 |.nilFunc=>some .fX
 |.nilIface=>some .bR
 |_=>none
def sQ:List Value->Option (List AV)
 |[]=>some []
 |v::vs=>match Bu v,sQ vs with
  |some a,some as=>some (a::as)
  |_,_=>none
def I4:Value->Option AV
 |.agg cs=>(sQ cs.toList).map .agg
 |v=>Bu v
def bj:Operand->Option Opd
 |.tmp t=>some (.tmp t)
 |.const v=>(I4 v).map .const
 |.func f=>some (.const (.func (.func f) [] []))
 |.global g=>some (.const (.c_ g 0))
def sR:List Operand->Option (List Opd)
 |[]=>some []
 |v::vs=>match bj v,sR vs with
  |some a,some as=>some (a::as)
  |_,_=>none
def qR:Option Operand->Option (Option Opd)
 |none=>some none
 |some x=>(bj x).map some
section
variable (P:Program)
def iA(t:TypeId):Option (List AV):=
 match P.info? t with
 |some i=>match i.zero with
  |some v=>sQ v.cells.toList
  |none=>none
 |none=>none
def eJ(t:TypeId):Option Nat:=(P.info? t).map (·.size)
def tp(t:TypeId):Option Nat:=(P.info? t).map (·.bytes)
def gx(t:TypeId):Option (Option Nat):=
 match P.underlying t with
 |some (.struct _)|some (.array _ _)=>(eJ P t).map some
 |some _=>some none
 |none=>none
def uE(b:TypeId->Option (List SK))(c:Nat):List Field->Option (List SK)
 |[]=>some []
 |f::fs=>
  if f.name = "_" \/ f.offset≠c then none else
  match b f.type with
  |some ks=>if eJ P f.type=some ks.length then(match uE b (c+ks.length) fs with|some r=>some (ks++r)|none=>none)else none
  |none=>none
def mc:Nat->TypeId->Option (List SK)
 |0,_=>none
 |d+1,t=>
  match P.underlying t with
  |some .bool=>some [.bool]
  |some (.int k)=>some [.int k]
  |some .string=>some [.str]
  |some (.struct fs)=>if P.stoodInHeld t then none else uE P (mc d) 0 fs.toList
  |_=>none
def n6(b:Nat->Option (Nat×Nat)):List (Nat×Operand)->Option (List (Nat×Nat×Opd))
 |[]=>some []
 |(i,x)::r=>match b i,bj x,n6 b r with
  |some (o,s),some y,some l=>some ((o,s,y)::l)
  |_,_,_=>none
def vU(b:Array Field)(i:Nat):Option (Nat×Nat):=
 match b[i]? with
 |some f=>(eJ P f.type).map λs=>(f.offset,s)
 |none=>none
def fI(n:Nat)(b:List AV):List AV:=(List.replicate n b).flatten
def cEq(c:Bool)(t:TypeId)(a b:Opd):Option AOp:=
 match P.underlying t with
 |some .bool=>some (.eqs c a b)
 |some (.int _)=>some (.arith (if c then .neq else .eql) a b)
 |some .string=>some (.arith (if c then .neq else .eql) a b)
 |some (.pointer _)=>some (.eqn .ptr c a b)
 |some (.slice _)=>some (.eqn .sl c a b)
 |some (.map _ _)=>some (.eqn .mp c a b)
 |some (.func _ _ _)=>some (.eqn .fn c a b)
 |some (.struct _)=>if P.eqGuardType P.depth t then none else(mc P 50 t).map λks=>.eqf c ks a b
 |_=>none
def YD(t:TypeId):Bool:=
 match P.underlying t with
 |some (.struct fs)=>match fs.toList with
  |[a,b]=>a.name == "addr" && b.name == "buf" && a.pkgPath == "strings"
  |_=>false
 |_=>false
def cOp:Op->Option AOp
 |.move x |.assign x=>(bj x).map .mov
 |.pick c a b=>do pure (.pick (<-bj c) (<-bj a) (<-bj b))
 |.alloc e=>if YD P e then none else(iA P e).map .new
 |.box _ x=>(bj x).map .box
 |.build t parts=>do
  match P.underlying t with
  |some (.struct fs)=>if fs.all (λf=>(P.info? f.type).isSome)then pure (.build (<-iA P t) (<-n6 (vU P fs) parts.toList))else none
  |some (.array _ e)=>do
   let s <-eJ P e
   pure (.build (<-iA P t) (<-n6 (λi=>some (i*s,s)) parts.toList))
  |_=>none
 |.buildSlice t len parts=>do
  match P.underlying t with
  |some (.slice e)=>do
   let s <-eJ P e
   if len*s>2^24||s==0 then none else
   let z <-iA P e
   if z.length≠s then none else
   pure (.xd s len (fI len z) (<-n6 (λi=>some (i*s,s)) parts.toList))
  |_=>none
 |.load t a=>do
  match <-gx P t with
  |some n=>pure (.ldn n (<-bj a))
  |none=>pure (.ld1 (<-bj a))
 |.store t a x=>do pure (.st (<-eJ P t) (<-bj a) (<-bj x))
 |.nilCheck x=>(bj x).map .yJ
 |.binOp op t x y _=>do
  let a <-bj x
  let b <-bj y
  match op with
  |.eql=>cEq P false t a b
  |.neq=>cEq P true t a b
  |op=>pure (.arith op a b)
 |.unOp op _ x=>(bj x).map (.un op)
 |.convert src dst x=>do
  match P.underlying src,P.underlying dst with
  |some _,some (.int k)=>pure (.zk k (<-bj x))
  |_,_=>none
 |.fieldAddr s x f=>do
  match P.underlying s with
  |some (.struct fs)=>do
   let g <-fs[f]?
   if(<-eJ P g.type)=0 then none else pure (.Ji g.offset (<-bj x))
  |_=>none
 |.indexAddr t x i=>do
  match P.underlying t with
  |some (.slice e)=>pure (.Jh (<-eJ P e) (<-bj x) (<-bj i))
  |some (.array n e)=>pure (.BK n (<-eJ P e) (<-bj x) (<-bj i))
  |_=>none
 |.index t x i=>do
  match P.underlying t with
  |some .string=>pure (.zH (<-bj x) (<-bj i))
  |_=>none
 |.slice t x lo hi mx=>do
  match P.underlying t with
  |some (.slice e)=>do
   let s <-eJ P e
   if s==0 then none else
   pure (.sl s (<-bj x) (<-qR lo) (<-qR hi) (<-qR mx))
  |some .string=>if mx.isSome then none else do pure (.slS (<-bj x) (<-qR lo) (<-qR hi))
  |_=>none
 |.extract x i=>do pure (.ext (<-bj x) i)
 |.makeSlice t l c=>do
  match P.underlying t with
  |some (.slice e)=>do
   let s <-eJ P e
   let z <-iA P e
   if z.length≠s||s==0 then none else
   pure (.vt s (<-tp P e) z (<-bj l) (<-bj c))
  |_=>none
 |.call c=>
  match c.callee with
  |.value f=>do pure (.call (<-bj f) (<-sR c.args.toList))
  |.builtin .len=>do
   match c.args.toList,c.argTypes.toList with
   |[x],[t]=>
    match P.underlying t with
    |some .string=>pure (.zF (<-bj x))
    |some (.slice _)=>pure (.len (<-bj x))
    |_=>none
   |_,_=>none
  |.builtin .append=>do
   match c.args.toList,c.argTypes.toList with
   |[s,x],[t,u]=>
    if t≠u then none else
    match P.underlying t with
    |some (.slice e)=>do
     let z <-iA P e
     let sz <-eJ P e
     if z.length≠sz||sz==0 then none else
     pure (.app sz (<-tp P e) (<-bj s) (<-bj x))
    |_=>none
   |_,_=>none
  |.builtin .copy=>do
   match c.args.toList,c.argTypes.toList with
   |[d,s],[t,u]=>
    if t≠u then none else
    match P.underlying t with
    |some (.slice e)=>do
     let sz <-eJ P e
     if sz==0 then none else
     pure (.copy sz (<-bj d) (<-bj s))
    |_=>none
   |_,_=>none
  |.builtin .min=>do
   match c.args.toList with
   |[x,y]=>pure (.vz false (<-bj x) (<-bj y))
   |_=>none
  |.builtin .max=>do
   match c.args.toList with
   |[x,y]=>pure (.vz true (<-bj x) (<-bj y))
   |_=>none
  |_=>none
 |_=>none
end
section
variable (P:Program)
def cX:Op->Option AOp
 |.convert src dst x=>
  match P.underlying src,P.underlying dst with
  |some .string,some (.slice e)=>match P.underlying e,bj x with
   |some (.int .i32),some y=>some (.xo .s2r [y])
   |some (.int .u8),some y=>some (.xo .s2b [y])
   |_,_=>none
  |some (.slice e),some .string=>match P.underlying e,bj x with
   |some (.int .i32),some y=>some (.xo .r2s [y])
   |some (.int .u8),some y=>some (.xo .b2s [y])
   |_,_=>none
  |some (.int _),some .string=>match bj x with
   |some y=>some (.xo .i2s [y])
   |none=>none
  |_,_=>none
 |.makeInterface t x=>
  match P.underlying t with
  |some (.interface _)=>none
  |some _=>match bj x with
   |some y=>some (.xo (.ni t) [y])
   |none=>none
  |none=>none
 |_=>none
def cM:Op->Option AOp
 |.binOp .eql t x (.const .nilIface) _=>match P.underlying t,bj x with
  |some (.interface _),some y=>some (.xo (.nz false) [y])
  |_,_=>none
 |.binOp .neq t x (.const .nilIface) _=>match P.underlying t,bj x with
  |some (.interface _),some y=>some (.xo (.nz true) [y])
  |_,_=>none
 |.alloc e=>if YD P e then(iA P e).map λz=>.xo (.nB e z) []else none
 |_=>none
def mo(b:Op):AOp:=
 match cOp P b with
 |some ao=>ao
 |none=>match cX P b with
  |some ao=>ao
  |none=>match cM P b with
   |some ao=>ao
   |none=>.stuck
end
def AH.E(h:AH)(b:Nat):Option (List AV):=
 match h.H.get b with
 |some (.cells cs)=>some cs
 |_=>none
def AH.n_(h:AH)(g:Nat):Option (List AV):=
 match h.H.get g with
 |some (.dN g' cs)=>if g'=g then some cs else none
 |_=>none
def AH.mV(h:AH)(b:Nat):Option (List (AV×AV)):=
 match h.H.get b with
 |some (.map kvs)=>some kvs
 |_=>none
def AH.add(h:AH)(o:bg):AH:=⟨h.H.put h.nx o,h.nx+1⟩
def AH.set(h:AH)(id:Nat)(o:bg):AH:=⟨h.H.put id o,h.nx⟩
def AH.kill(h:AH)(b:Nat):AH:=⟨h.H.del b,h.nx⟩
def cut(c:List AV)(b n:Nat):Option (List AV):=if b+n<=c.length then some ((c.drop b).take n)else none
def aM(b:List AV):Bool:=b.all AV.one
def aP(d:List AV)(b:Nat)(c:List AV):Option (List AV):=
 if b+c.length<=d.length then some (d.take b++c++d.drop (b+c.length))else none
def dG:AV->Bool
 |.agg _=>true
 |x=>x.one
def aQ:List AV->List (Nat×Nat×AV)->Option (List AV)
 |cs,[]=>some cs
 |cs,(off,size,x)::r=>
  if dG x then
   let new:=x.cells
   if new.length=size then match aP cs off new with|some cs'=>aQ cs' r|none=>none else none
  else none
def evP(T:Tm)(b:List (Nat×Nat×Opd)):List (Nat×Nat×AV):=b.map λq=>(q.1,q.2.1,q.2.2.ev T)
def iB(T:Tm):List AV->List (Nat×Nat×Opd)->Option (List AV)
 |cs,[]=>some cs
 |cs,(off,size,x)::r=>
  if dG (x.ev T)then
   let new:=(x.ev T).cells
   if new.length=size then match aP cs off new with|some cs'=>iB T cs' r|none=>none else none
  else none
theorem dw(T:Tm):∀(b:List (Nat×Nat×Opd)) (cs:List AV),iB T cs b=aQ cs (evP T b)
 |[],cs=>rfl
 |(off,size,x)::r,cs=>by
  simp only[iB,evP,List.map_cons,aQ];split
  ·split
   ·split
    ·exact dw T r _
    rfl
   rfl
  rfl
def lh(h:AH):AV->Option AV
 |.ptr id off=>match h.E id with
  |some cs=>cs[off]?
  |none=>none
 |.ai cs=>cs[0]?
 |.c_ g off=>match h.n_ g with
  |some cs=>cs[off]?
  |none=>none
 |_=>none
def iP(h:AH)(n:Nat):AV->Option (List AV)
 |.ptr id off=>match h.E id with
  |some cs=>cut cs off n
  |none=>none
 |.ai cs=>cut cs 0 n
 |.c_ g off=>match h.n_ g with
  |some cs=>cut cs off n
  |none=>none
 |_=>none
def xu(c:BinOp)(a b:List UInt8):Option AV:=
 match c with
 |.add=>if a.length+b.length<=9223372036854775807 then some (.str (a++b))else none
 |.eql=>some (.bool (a==b))
 |.neq=>some (.bool (!(a==b)))
 |.lss=>some (.bool (Op.bytesLess a b))
 |.leq=>some (.bool (Op.bytesLess a b||a==b))
 |.gtr=>some (.bool (!(Op.bytesLess a b||a==b)))
 |.geq=>some (.bool (!(Op.bytesLess a b)))
 |_=>none
def xz(c:BinOp)(k:IntKind)(a b:Int):Option AV:=
 match c with
 |.shl=>if b<0 then none else some (.int k (k.wrap (a*2^(min b.toNat k.bits))))
 |.shr=>if b<0 then none else some (.int k (a.fdiv (2^(min b.toNat k.bits))))
 |_=>none
def iq:BinOp->Bool
 |.shl |.shr=>true
 |_=>false
def zn(b:BinOp)(x y:AV):Option AV:=none
def u7(c:BinOp)(b:Int)(k:IntKind):List (BinOp×Int×Int)->Option AV
 |[]=>none
 |(o,d,r)::t=>if o=c/\d=b then some (.int k r)else u7 c b k t
theorem ZW{c:BinOp}{b:Int}{k:IntKind}{v:AV}:∀ {rs:List (BinOp×Int×Int)},u7 c b k rs=some v->∃r,(c,b,r)∈rs/\v =.int k r
 |[],h=>by simp[u7]at h
 |(o,d,r)::t,h=>by
  simp only[u7]at h;split at h
  ·rename_i e;obtain⟨rfl,rfl⟩:=e;cases h;exact⟨r,by simp,rfl⟩
  obtain⟨f,g,h2⟩:=ZW h;exact⟨f,by simp[g],h2⟩
def eG(c:BinOp):AV->AV->Option AV
 |.int k a,.int k' b=>if iq c then xz c k a b else if k=k' then jf c k a b else none
 |.str a,.str b=>xu c a b
 |.jZ k rs,.int k' b=>if iq c then none else if k=k' then u7 c b k rs else none
 |x,y=>zn c x y
def vj:NK->AV->AV->Option Bool
 |.ptr,.dh,.dh |.sl,.D,.D |.mp,.fp,.fp |.fn,.fX,.fX=>some true
 |.ptr,.dh,.ptr _ _ |.ptr,.dh,.ai _ |.ptr,.ptr _ _,.dh |.ptr,.ai _,.dh=>some false
 |.sl,.rsl _ _ _ _,.D |.sl,.D,.rsl _ _ _ _=>some false
 |.sl,.psl (_::_),.D=>some false
 |.mp,.fh _,.fp |.mp,.fp,.fh _=>some false
 |.fn,.func _ _ _,.fX |.fn,.fX,.func _ _ _=>some false
 |_,_,_=>none
def fm:SK->AV->AV->Option Bool
 |.bool,.bool a,.bool b=>some (a==b)
 |.int k,.int k1 a,.int k2 b=>if k1=k/\k2=k then some (a==b)else none
 |.int k,.sint k1 m i c lo hi,y=>if k1=k then(match zn .eql (.sint k1 m i c lo hi) y with
  |some (.bool b)=>some b
  |_=>none)else none
 |.str,.str a,.str b=>some (a==b)
 |_,_,_=>none
def bo:List SK->List AV->List AV->Option Bool
 |[],[],[]=>some true
 |k::ks,x::xs,y::ys=>match fm k x y,bo ks xs ys with
  |some a,some b=>some (a&&b)
  |_,_=>none
 |_,_,_=>none
def aun(c:UnOp):AV->Option AV
 |.int k n=>match c with
  |.neg=>some (.int k (k.wrap (0-n)))
  |.xor=>some (.int k (k.wrap (BitVec.ofInt k.bits (if k.signed then -1 else k.max) ^^^ BitVec.ofInt k.bits n).toNat))
  |_=>none
 |.bool b=>match c with
  |.not=>some (.bool !b)
  |_=>none
 |_=>none
def y3(n:Option Nat)(c:List AV)(b:Nat):Option AV:=
 match n with
 |some n=>(cut c b n).map .agg
 |none=>c[b]?
def hJ:AV->Option Int
 |.int _ i=>some i
 |_=>none
def aix(n:Nat)(v:AV):Option Nat:=
 match hJ v with
 |some i=>if 0<=i/\i<n then some i.toNat else none
 |none=>none
def abd(n:Nat):Option AV->Nat->Option Nat
 |none,d=>some d
 |some v,_=>match hJ v with
  |some i=>if 0<=i/\i<=n then some i.toNat else none
  |none=>none
def cj:AV->Option Nat
 |.D |.esl=>some 0
 |.psl xs=>some xs.length
 |.rsl _ _ len _=>some len
 |_=>none
def cU(h:AH)(z:Nat):AV->Option (List AV)
 |.D |.esl=>some []
 |.psl xs=>if xs.all (λx=>x.length==z)then some xs.flatten else none
 |.rsl id off len z'=>if z'=z then(match h.E id with|some cs=>cut cs off (len*z)|none=>none)else none
 |_=>none
def asl(z c d e:Nat)(b:Bool):AV->Option AV
 |.D=>if d=0 then some .D else none
 |.esl=>if d=0 then some .esl else none
 |.psl xs=>if xs.all (λx=>x.length==z)then some (if b&&e==c then .esl else .psl ((xs.drop c).take (d-c)))else none
 |.rsl id off _ z'=>if z'=z then some (if b&&e==c then .esl else .rsl id (off+c*z) (d-c) z)else none
 |_=>none
def iC(n b:Nat):Bool:=n*b<=140737488355328&&n<=9223372036854775807
def vg(h:AH)(z b:Nat)(s x:AV):Option (AV×AH):=
 match cU h z x,cj x with
 |some new,some m=>
  if !aM new then none else
  match s with
  |.D=>
   if m=0 then some (.D,h)else
   if iC m b then some (.rsl h.nx 0 m z,h.add (.cells new))else none
  |.esl=>
   if m=0 then some (.esl,h)else
   if iC m b then some (.rsl h.nx 0 m z,h.add (.cells new))else none
  |.psl xs=>if m=0 then some (.psl xs,h)else none
  |.rsl id off len z'=>
   if z'=z&&iC (len+m) b then
    match h.E id with
    |some cs=>match cut cs off (len*z)with
     |some old=>some (.rsl h.nx 0 (len+m) z,(h.kill id).add (.cells (old++new)))
     |none=>none
    |none=>none
   else none
  |_=>none
 |_,_=>none
def yY(h:AH)(z:Nat)(d s:AV):Option (AV×AH):=
 match cU h z s,cj s,cj d with
 |some src,some m,some n=>
  let k:=min m n
  if k=0 then some (.int .i64 0,h)else
  if !aM (src.take (k*z))then none else
  match d with
  |.rsl id off _ z'=>
   if z'=z then
    match h.E id with
    |some cs=>match aP cs off (src.take (k*z))with
     |some cs'=>some (.int .i64 k,h.set id (.cells cs'))
     |none=>none
    |none=>none
   else none
  |_=>none
 |_,_,_=>none
def kC(b:Nat):AV->Option AV
 |.ptr id o=>some (.ptr id (o+b))
 |.ai cs=>if b<=cs.length then some (.ai (cs.drop b))else none
 |.c_ g o=>some (.c_ g (o+b))
 |_=>none
def sW(z:Nat)(x i:AV):Option AV:=
 match x with
 |.psl xs=>match aix xs.length i with
  |some j=>match xs[j]? with
   |some c=>if c.length=z then some (.ai c)else none
   |none=>none
  |none=>none
 |.rsl id off len z'=>if z'=z then match aix len i with
  |some j=>some (.ptr id (off+j*z))
  |none=>none else none
 |_=>none
def mH(z:Nat)(x:AV)(d c b:Option AV):Option AV:=
 match cj x with
 |some n=>match abd n b n with
  |some m=>match abd m c n with
   |some hb=>match abd hb d 0 with
    |some l=>if b.isSome&&c.isNone then none else asl z l hb m b.isSome x
    |none=>none
   |none=>none
  |none=>none
 |none=>none
def qh(s:List UInt8)(b c:Option AV):Option (List UInt8):=
 match abd s.length c s.length with
 |some hb=>match abd hb b 0 with
  |some l=>some ((s.drop l).take (hb-l))
  |none=>none
 |none=>none
abbrev iM:=Nat->List AV->AH->Option (AV×AH)
def nq(h:AH)(x:AV):Option (AV×AH):=
 some (x,h)
def mb(h:AH)(c:AV)(a:AV)(b:AV):Option (AV×AH):=
 match c with
  |.bool t=>some (if t then a else b,h)
  |_=>none
def pJ(h:AH)(b:List AV):Option (AV×AH):=
 some (.ptr h.nx 0,h.add (.cells b))
def cL(h:AH)(x:AV):Option (AV×AH):=
 if dG x then some (.ptr h.nx 0,h.add (.cells x.cells))else none
def l9(h:AH)(c:List AV)(b:List (Nat×Nat×AV)):Option (AV×AH):=
 match aQ c b with
  |some cs=>some (.agg cs,h)
  |none=>none
def o8(h:AH)(z:Nat)(d:Nat)(c:List AV)(b:List (Nat×Nat×AV)):Option (AV×AH):=
 match aQ c b with
  |some cs=>some (.rsl h.nx 0 d z,h.add (.cells cs))
  |none=>none
def jw(h:AH)(a:AV):Option (AV×AH):=
 match lh h (a)with
  |some v=>some (v,h)
  |none=>none
def gh(h:AH)(n:Nat)(a:AV):Option (AV×AH):=
 match iP h n (a)with
  |some cs=>some (.agg cs,h)
  |none=>none
def kSt(h:AH)(n:Nat)(a:AV)(x:AV):Option (AV×AH):=
  if dG x then
   let new:=x.cells
   if new.length=n&&aM new then
    match a with
    |.ptr id off=>match h.E id with
     |some cs=>match aP cs off new with
      |some cs'=>some (.undef,h.set id (.cells cs'))
      |none=>none
     |none=>none
    |_=>none
   else none
  else none
def k_(h:AH)(x:AV):Option (AV×AH):=
 match x with
  |.ptr id off=>some (.ptr id off,h)
  |.ai cs=>some (.ai cs,h)
  |.c_ g o=>some (.c_ g o,h)
  |.func (.func f) a b=>some (.func (.func f) a b,h)
  |_=>none
def aG(h:AH)(b:BinOp)(x:AV)(y:AV):Option (AV×AH):=
 match eG b x (y)with
  |some v=>some (v,h)
  |none=>none
def oK(h:AH)(c:Bool)(x:AV)(y:AV):Option (AV×AH):=
 match x,y with
  |.bool a,.bool b=>some (.bool (if c then !(a==b)else a==b),h)
  |_,_=>none
def lx(h:AH)(k:NK)(c:Bool)(x:AV)(y:AV):Option (AV×AH):=
 match vj k x (y)with
  |some b=>some (.bool (if c then !b else b),h)
  |none=>none
def nu(h:AH)(c:Bool)(d:List SK)(x:AV)(y:AV):Option (AV×AH):=
 match x,y with
  |.agg xs,.agg ys=>match bo d xs ys with
   |some b=>some (.bool (if c then !b else b),h)
   |none=>none
  |_,_=>none
def kUn(h:AH)(b:UnOp)(x:AV):Option (AV×AH):=
 match aun b x with
  |some v=>some (v,h)
  |none=>none
def lg(h:AH)(k:IntKind)(x:AV):Option (AV×AH):=
 match x with
  |.int _ n=>some (.int k (k.wrap n),h)
  |_=>none
def tu(h:AH)(b:Nat)(n:Option Nat)(x:AV):Option (AV×AH):=
 match x with
  |.agg cs=>match y3 n cs b with
   |some v=>some (v,h)
   |none=>none
  |_=>none
def gZ(h:AH)(b:Nat)(x:AV):Option (AV×AH):=
 match kC b x with
  |some v=>some (v,h)
  |none=>none
def aC(h:AH)(z:Nat)(x:AV)(i:AV):Option (AV×AH):=
 match sW z x (i)with
  |some v=>some (v,h)
  |none=>none
def gv(h:AH)(b:Nat)(z:Nat)(x:AV)(i:AV):Option (AV×AH):=
 match aix b (i)with
  |some j=>match kC (j*z) x with
   |some v=>some (v,h)
   |none=>none
  |none=>none
def tJ(h:AH)(b:Nat)(z:Nat)(n:Option Nat)(x:AV)(i:AV):Option (AV×AH):=
 match aix b (i),x with
  |some j,.agg cs=>match y3 n cs (j*z)with
   |some v=>some (v,h)
   |none=>none
  |_,_=>none
def jl(h:AH)(x:AV)(i:AV):Option (AV×AH):=
 match x with
  |.str s=>match aix s.length (i)with
   |some j=>match s[j]? with
    |some c=>some (.int .u8 c.toNat,h)
    |none=>none
   |none=>none
  |_=>none
def kSl(h:AH)(z:Nat)(x:AV)(b:Option AV)(c:Option AV)(d:Option AV):Option (AV×AH):=
 match mH z x (b) (c) (d)with
  |some v=>some (v,h)
  |none=>none
def iD(h:AH)(x:AV)(b:Option AV)(c:Option AV):Option (AV×AH):=
 match x with
  |.str s=>match qh s (b) (c)with
   |some r=>some (.str r,h)
   |none=>none
  |_=>none
def bn(h:AH)(x:AV):Option (AV×AH):=
 match cj x with
  |some n=>some (.int .i64 n,h)
  |none=>none
def mO(h:AH)(x:AV):Option (AV×AH):=
 match x with
  |.str s=>some (.int .i64 s.length,h)
  |_=>none
def uF(h:AH)(x:AV):Option (AV×AH):=
 match x with
  |.str s=>some (.str s,h)
  |_=>none
def sX(h:AH)(n:Nat):Option (AV×AH):=
 some (.int .i64 n,h)
def fy(h:AH)(z:Nat)(b:Nat)(s:AV)(x:AV):Option (AV×AH):=
 vg h z b (s) x
def od(h:AH)(z:Nat)(d:AV)(s:AV):Option (AV×AH):=
 yY h z (d) (s)
def smm(b:Bool)(x y:AV):Option AV:=none
def jk(h:AH)(c:Bool)(x:AV)(y:AV):Option (AV×AH):=
 match x,y with
  |.int k a,.int _ b=>some (.int k (if c then(if a<b then b else a)else(if b<a then b else a)),h)
  |x,y=>match smm c x y with
   |some v=>some (v,h)
   |none=>none
def ml(h:AH)(x:AV)(i:Nat):Option (AV×AH):=
 match x with
  |.tup vs=>match vs[i]? with
   |some v=>some (v,h)
   |none=>none
  |_=>none
def tD(h:AH)(c:Fn)(first:List AV)(b:List AV):Option (AV×AH):=
 some (.func c (first) (b),h)
def kz(h:AH)(z:Nat)(b:Nat)(d:List AV)(l:AV)(c:AV):Option (AV×AH):=
 match l,c with
  |.int .i64 n,.int .i64 m=>
   if 0<=n/\n<=m/\m<=9223372036854775807 then
    if m.toNat*b<=140737488355328 then some (.rsl h.nx 0 n.toNat z,h.add (.cells (fI m.toNat d)))else none
   else none
  |_,_=>none
def sN(c:iM)(h:AH)(f:AV)(b:List AV):Option (AV×AH):=
 match f with
  |.func (.func g) first captured=>c g (first++b++captured) h
  |_=>none
def asc(s:List UInt8):Bool:=s.all (λb=>Nat.blt b.toNat 128)
def nd:List AV->Option (List UInt8)
 |[]=>some []
 |.int .i32 n::r=>if 0<=n/\n<128 then(match nd r with|some l=>some (UInt8.ofNat n.toNat::l)|none=>none)else none
 |_=>none
def mK:List AV->Option (List UInt8)
 |[]=>some []
 |.int .u8 n::r=>(match mK r with|some l=>some (UInt8.ofNat n.toNat::l)|none=>none)
 |_=>none
def pg:List UInt8->List AV
 |[]=>[]
 |b::r=>.int .i32 b.toNat::pg r
def iL:Nat->List UInt8->List Int
 |0,_=>[]
 |_+1,[]=>[]
 |n+1,b::l=>((Utf8.decode ⟨(b::l).toArray⟩ 0).1:Int)::iL n ((b::l).drop (Utf8.decode ⟨(b::l).toArray⟩ 0).2)
def ak(l:List UInt8):List Int:=iL l.length l
def az(n:Int):AV:=.int .i32 n
def mY:List AV->Option (List Int)
 |[]=>some []
 |.int .i32 n::r=>(match mY r with|some l=>some (n::l)|none=>none)
 |_=>none
def e_(n:Int):List UInt8:=(Utf8.encode n).data.toList
def bD(b:List Int):List UInt8:=b.flatMap e_
def YT:SK->AV->Bool
 |.bool,.bool _=>true
 |.int k,.int k' _=>decide (k'=k)
 |.str,.str _=>true
 |_,_=>false
def Yf:List SK->List AV->Bool
 |[],[]=>true
 |k::ks,a::as=>YT k a&&Yf ks as
 |_,_=>false
def yV:MK->AV->Bool
 |.one k,a=>YT k a
 |.st ks,.agg cs=>Yf ks cs
 |.st _,_=>false
def Y8:AV->AV->Bool
 |.bool a,.bool b=>a==b
 |.int _ a,.int _ b=>a==b
 |.str a,.str b=>a==b
 |_,_=>false
def YM:List AV->List AV->Bool
 |[],[]=>true
 |a::as,b::bs=>Y8 a b&&YM as bs
 |_,_=>false
def keq:AV->AV->Bool
 |.agg as,.agg bs=>YM as bs
 |a,b=>Y8 a b
def u0(k:MK)(b:AV):List (AV×AV)->Nat->Option (Option (Nat×AV))
 |[],_=>some none
 |e::es,i=>if yV k e.1 then(if keq b e.1 then some (some (i,e.2))else u0 k b es (i+1))else none
def pM(h:AH):AV->Option (List (AV×AV))
 |.fp=>some []
 |.fh id=>h.mV id
 |_=>none
def kX(h:AH):XK->List AV->Option (AV×AH)
 |.s2r,[.str s]=>if asc s&&Nat.ble s.length 1000000000 then some (.rsl h.nx 0 s.length 1,h.add (.cells (pg s)))
  else if Nat.ble s.length 1000000000 then some (.rsl h.nx 0 (ak s).length 1,h.add (.cells ((ak s).map az)))else none
 |.r2s,[x]=>match cU h 1 x,cj x with
  |some cs,some _=>match nd cs with
   |some s=>some (.str s,h)
   |none=>match mY cs with
    |some ns=>some (.str (bD ns),h)
    |none=>none
  |_,_=>none
 |.i2s,[.int _ n]=>some (.str (e_ n),h)
 |.s2b,[.str s]=>if Nat.ble s.length 1000000000 then some (.psl (s.map λc=>[.int .u8 c.toNat]),h)else none
 |.ni t,[x]=>some (.iface t x,h)
 |.b2s,[x]=>match cU h 1 x,cj x with
  |some cs,some _=>match mK cs with
   |some s=>some (.str s,h)
   |none=>none
  |_,_=>none
 |.sL,[]=>some (.fh h.nx,h.add (.map []))
 |.nz neg,[.bR]=>some (.bool (!neg),h)
 |.nz neg,[.iface _ _]=>some (.bool neg,h)
 |.nB t z,[]=>some (.ptr h.nx 0,h.add (.typ (2*t+1) z))
 |.sL,[.int _ _]=>some (.fh h.nx,h.add (.map []))
 |.af6 k,[.fh id,key,x]=>if yV k key then(match h.mV id with
  |some kvs=>match u0 k key kvs 0 with
   |some (some r)=>some (.undef,h.set id (.map (kvs.set r.1 (key,x))))
   |some none=>some (.undef,h.set id (.map (kvs++[(key,x)])))
   |none=>none
  |none=>none)else none
 |.yH k ok zero,[m,key]=>if yV k key then(match pM h m with
  |some kvs=>match u0 k key kvs 0 with
   |some (some r)=>some (if ok then .tup [r.2,.bool true]else r.2,h)
   |some none=>some (if ok then .tup [zero,.bool false]else zero,h)
   |none=>none
  |none=>none)else none
 |.afl k zero,[.fh id,key]=>if yV k key then(match h.mV id with
  |some kvs=>match u0 k key kvs 0 with
   |some (some r)=>some (.tup [r.2,.int .i64 r.1],h)
   |some none=>some (.tup [zero,.int .i64 kvs.length],h.set id (.map (kvs++[(key,zero)])))
   |none=>none
  |none=>none)else none
 |.ag9,[.fh id,.int _ n,x]=>match h.mV id with
  |some kvs=>if 0<=n then(match kvs[n.toNat]? with
   |some e=>some (.undef,h.set id (.map (kvs.set n.toNat (e.1,x))))
   |none=>none)else none
  |none=>none
 |.yI,[m]=>match pM h m with
  |some kvs=>some (.int .i64 kvs.length,h)
  |none=>none
 |.ah9,[.D]=>some (.int .i64 0,h)
 |.aie z bytes zero,[.D,.int .i64 n]=>if 0<n then(if iC n.toNat bytes then some (.rsl h.nx 0 n.toNat z,h.add (.cells (fI n.toNat zero)))else none)else none
 |.aia n z,[.ptr id off]=>match h.E id with
  |some cs=>if Nat.ble (off+n*z) cs.length&&Nat.ble n 4611686018427387904 then some (.rsl id off n z,h)else none
  |none=>none
 |_,_=>none
def aop(e:iM)(T:Tm)(h:AH):AOp->Option (AV×AH)
 |.mov x=>nq h (x.ev T)
 |.pick c a b=>mb h (c.ev T) (a.ev T) (b.ev T)
 |.new zero=>pJ h zero
 |.box x=>cL h (x.ev T)
 |.build zero parts=>l9 h zero (evP T parts)
 |.xd z len zero parts=>o8 h z len zero (evP T parts)
 |.ld1 a=>jw h (a.ev T)
 |.ldn n a=>gh h n (a.ev T)
 |.st n a x=>kSt h n (a.ev T) (x.ev T)
 |.yJ x=>k_ h (x.ev T)
 |.arith op x y=>aG h op (x.ev T) (y.ev T)
 |.eqs neg x y=>oK h neg (x.ev T) (y.ev T)
 |.eqn k neg x y=>lx h k neg (x.ev T) (y.ev T)
 |.eqf neg ks x y=>nu h neg ks (x.ev T) (y.ev T)
 |.un op x=>kUn h op (x.ev T)
 |.zk k x=>lg h k (x.ev T)
 |.fld off n x=>tu h off n (x.ev T)
 |.Ji off x=>gZ h off (x.ev T)
 |.Jh z x i=>aC h z (x.ev T) (i.ev T)
 |.BK len z x i=>gv h len z (x.ev T) (i.ev T)
 |.idx len z n x i=>tJ h len z n (x.ev T) (i.ev T)
 |.zH x i=>jl h (x.ev T) (i.ev T)
 |.sl z x lo hi mx=>kSl h z (x.ev T) (lo.map (·.ev T)) (hi.map (·.ev T)) (mx.map (·.ev T))
 |.slS x lo hi=>iD h (x.ev T) (lo.map (·.ev T)) (hi.map (·.ev T))
 |.len x=>bn h (x.ev T)
 |.zF x=>mO h (x.ev T)
 |.I1 x=>uF h (x.ev T)
 |.Y4 n=>sX h n
 |.app z bytes s x=>fy h z bytes (s.ev T) (x.ev T)
 |.copy z d s=>od h z (d.ev T) (s.ev T)
 |.vz mx x y=>jk h mx (x.ev T) (y.ev T)
 |.ext x i=>ml h (x.ev T) i
 |.mkf fn first captured=>tD h fn (first.map (·.ev T)) (captured.map (·.ev T))
 |.vt z bytes zero l c=>kz h z bytes zero (l.ev T) (c.ev T)
 |.call f args=>sN e h (f.ev T) (args.map (·.ev T))
 |.xo k args=>kX h k (args.map (·.ev T))
 |.stuck=>none
abbrev LL(own:Nat->Prop)(β:Bl)(H:Hp):Nat->Prop:=λb=>own b\/live β H b
theorem OR.later{hp:Array Obj}{L:Nat->Prop}{β:Bl}{j:Array Obj}{r:Nat->Prop}{β':Bl}(k:sI hp L β j r β'){b d:Nat}{o:bg}(l:j[b]?=hp[b]?)(h:OR hp L β b d o):OR j r β' b d o:=by
 cases o with
 |cells cs=>
  obtain⟨cur,e,f,h2,m⟩:=h;exact⟨cur,e,l.trans f,h2,λi c v n p=>(m i c v n p).later k⟩
 |map C=>
  obtain⟨q,es,f,h2,u⟩:=h;exact⟨q,es,l.trans f,h2,λi x e y he=>by
   obtain⟨z,a2,a3⟩:=u i x e y he;exact⟨z.later k,a2.later k,a3⟩⟩
 |pG s pos=>exact⟨h.1,l.trans h.2⟩
 |typ t cs=>
  obtain⟨q,cur,f,h2,m⟩:=h;exact⟨q,cur,l.trans f,h2,λi c v n p=>(m i c v n p).later k⟩
 |dN g cs=>
  obtain⟨q,A,cur,e,B,f,h2,m⟩:=h;exact⟨q,A,cur,e,B,l.trans f,h2,λi c v n p=>(m i c v n p).later k⟩
section
variable {own:Nat->Prop} {β:Bl} {H:Hp} {nx:Nat} {w w':World}
theorem aB.dead(d:aB own β H nx w){c:Nat}(h:nx<=c):H.get c=none:=by
 cases f:H.get c with
 |none=>rfl
 |some o=>obtain⟨b,base,e,_⟩:=d.obj c o f;rw[d.fresh c h]at e;cases e
theorem aB.same(c:aB own β H nx w)(d:w'.heap=w.heap):aB own β H nx w':=by
 refine⟨c.fresh,λid b base h=>by rw[d];exact c.lt id b base h,λb h=>by rw[d];exact c.iU b h,λid o h=>?_,c.inj⟩;obtain⟨b,base,e,h2,f⟩:=c.obj id o h;exact⟨b,base,e,h2,by rw[d];exact f⟩
theorem aX.same(b:w'.heap=w.heap)(c:w'.os=w.os)(h2:w'.tape=w.tape)(d:w'.output=w.output):aX own β ⟨H,nx⟩ w β ⟨H,nx⟩ w':=
 ⟨λ_ _ h=>h,λ_ _=>rfl,Nat.le_refl _,by rw[b];exact Nat.le_refl _,λ_ _ _=>by rw[b],λ_ h=>.inl h,λ_ cur _ e h=>⟨cur,e,by rw[b];exact h,rfl,λ_=>rfl⟩,c,h2,d⟩
def upd(β:Bl)(d b c:Nat):Bl:=λj=>if j=d then some (b,c)else β j
theorem fL(β:Bl)(d b c:Nat):upd β d b c d=some (b,c):=by simp[upd]
theorem gW(β:Bl){d j:Nat}(b c:Nat)(h:j≠d):upd β d b c j=β j:=by simp[upd,h]
theorem aB.newObj(j:aB own β H nx w)(r:Nat)(m:β r=none)(o:bg)(A:Obj)(s:w'.heap=w.heap.push A)(B:w'.os=w.os)(h2:w'.tape=w.tape)(C:w'.output=w.output)
  (K:∀k G β',sI w.heap (LL own β H) β k G β'->k[w.heap.size]?=some A->OR k G β' w.heap.size 0 o):
  aB own (upd β r w.heap.size 0) (H.put r o) (max nx (r+1)) w'/\(nx<=r->aX own β ⟨H,nx⟩ w (upd β r w.heap.size 0) ⟨H.put r o,max nx (r+1)⟩ w')/\aX own β ⟨H,0⟩ w (upd β r w.heap.size 0) ⟨H.put r o,0⟩ w':=by
 have Q:w'.heap.size=w.heap.size+1:=by rw[s];simp
 have hold:∀b,b<w.heap.size->w'.heap[b]?=w.heap[b]?:=λb c=>by rw[s,Array.getElem?_push,if_neg (by omega)]
 have n:∀b,live (upd β r w.heap.size 0) (H.put r o) b->live β H b\/w.heap.size<=b:=by
  rintro b ⟨id,t,base,i,c⟩;by_cases hid:id=r
  ·subst hid;rw[fL]at c;cases c;exact .inr (Nat.le_refl _)
  rw[gW _ _ _ hid]at c;rw[PM.jb _ _ hid]at i;exact .inl ⟨id,t,base,i,c⟩
 have f:aX own β ⟨H,0⟩ w (upd β r w.heap.size 0) ⟨H.put r o,0⟩ w':=by
  refine⟨λid x u=>?_,λid hid=>absurd hid (Nat.not_lt_zero _),Nat.le_refl _,by omega,λb c _=>hold b c,n,λb cur e M J=>⟨cur,M,by rw[hold b (gR J)];exact J,rfl,λ_=>rfl⟩,B,h2,C⟩;by_cases hid:id=r
  ·subst hid;rw[m]at u;cases u
  rw[gW _ _ _ hid];exact u
 have N:nx<=r->aX own β ⟨H,nx⟩ w (upd β r w.heap.size 0) ⟨H.put r o,max nx (r+1)⟩ w':=λR=>
  ⟨f.ext,λid hid=>gW _ _ _ (by simp only at hid;omega),by simp only;omega,f.size,f.aY,f.live,f.shape,B,h2,C⟩
 refine⟨⟨λid hid=>?_,λid b base c=>?_,λb c=>by have:=j.iU b c;omega,λid t i=>?_,λid l o1 o2 b x y i p c g=>?_⟩,N,f⟩
 ·rw[gW _ _ _ (by omega)];exact j.fresh id (by omega)
 ·by_cases hid:id=r
  ·subst hid;rw[fL]at c;cases c;omega
  rw[gW _ _ _ hid]at c;have:=j.lt id b base c;omega
 ·by_cases hid:id=r
  ·subst hid;rw[PM.kN]at i;cases i;refine⟨w.heap.size,0,fL _ _ _ _,λq=>by have:=j.iU _ q;omega,K _ _ _ f.later ?_⟩;rw[s];simp
  rw[PM.jb _ _ hid]at i;obtain⟨b,base,c,v,z⟩:=j.obj id t i;exact⟨b,base,by rw[gW _ _ _ hid];exact c,v,z.later f.later (hold b (j.lt id b base c))⟩
 by_cases hid:id=r
 ·subst hid;rw[fL]at c;cases c;by_cases d:l=id
  ·exact d.symm
  rw[gW _ _ _ d]at g;have:=j.lt _ _ _ g;omega
 rw[gW _ _ _ hid]at c;rw[PM.jb _ _ hid]at i;by_cases d:l=r
 ·subst d;rw[fL]at g;cases g;have:=j.lt _ _ _ c;omega
 rw[gW _ _ _ d]at g;rw[PM.jb _ _ d]at p;exact j.inj id l o1 o2 b x y i p c g
theorem aB.Oq(j:aB own β H nx w)(r:Nat)(d:β r=none)(f:List AV)(b:Array Value)(e:TypeId)(k:w'.heap=w.heap.push (.cells b e))(l:w'.os=w.os)(h2:w'.tape=w.tape)(m:w'.output=w.output)
  (t:f.length<=b.size) (n:∀(i:Nat) (c:AV) (v:Value),f[i]?=some c->b[i]?=some v->VR w.heap (LL own β H) β c v):
  aB own (upd β r w.heap.size 0) (H.put r (.cells f)) (max nx (r+1)) w'/\(nx<=r->aX own β ⟨H,nx⟩ w (upd β r w.heap.size 0) ⟨H.put r (.cells f),max nx (r+1)⟩ w')/\aX own β ⟨H,0⟩ w (upd β r w.heap.size 0) ⟨H.put r (.cells f),0⟩ w':=
 j.newObj r d _ _ k l h2 m λs u β' g o=>⟨b,e,o,by omega,λi c v p q=>(n i c v p (by rwa [Nat.zero_add]at q)).later g⟩
theorem aB.Eb(s:aB own β H nx w){p b l:Nat}{o0:bg}(J:H.get p=some o0)(hβ:β p=some (b,l))(d g:Nat)(B:d=p/\g=l\/d=nx)
  (o:bg) (N:w'.heap.size=w.heap.size) (hk:∀k,k≠b->w'.heap[k]?=w.heap[k]?) (z:∀(cur:Array Value) (e:TypeId) (M:Nat×Nat),w.heap[b]?=some (.cells cur e M)->∃A Q,w'.heap[b]?=some (.cells A e Q)/\A.size=cur.size/\Q=M)
  (h1:w'.os=w.os) (h2:w'.tape=w.tape) (h3:w'.output=w.output)
  (ho:∀L' β',sI w.heap (LL own β H) β w'.heap L' β'->OR w'.heap L' β' b g o):
  aB own (upd β d b g) ((H.del p).put d o) (if d=nx then nx+1 else nx) w'/\aX own β ⟨H,nx⟩ w (upd β d b g) ⟨(H.del p).put d o,if d=nx then nx+1 else nx⟩ w':=by
 have ao:p<nx:=by
  rcases Nat.lt_or_ge p nx with h|h
  ·exact h
  rw[s.fresh p h]at hβ;cases hβ
 have ad:∀j x,β j=some x->upd β d b g j=some x:=by
  intro j x n;by_cases q:j=d
  ·subst q;rcases B with⟨i,r⟩|i
   ·subst i;subst r;rw[fL];rw[hβ]at n;exact n
   rw[s.fresh j (by omega)]at n;cases n
  rw[gW _ _ _ q];exact n
 have m:∀j t,((H.del p).put d o).get j=some t->(j=d/\t=o)\/(j≠d/\j≠p/\H.get j=some t):=by
  intro j t q;by_cases i:j=d
  ·subst i;rw[PM.kN]at q;cases q;exact .inl ⟨rfl,rfl⟩
  rw[PM.jb _ _ i]at q;by_cases r:j=p
  ·subst r;rw[PM.Zw]at q;cases q
  rw[PM.JN _ r]at q;exact .inr ⟨i,r,q⟩
 have G:∀k,live (upd β d b g) ((H.del p).put d o) k->live β H k\/w.heap.size<=k:=by
  rintro k ⟨j,t,x,q,n⟩;rcases m j t q with⟨i,_⟩|⟨i,_,u⟩
  ·subst i;rw[fL]at n;cases n;exact .inl ⟨p,o0,l,J,hβ⟩
  rw[gW _ _ _ i]at n;exact .inl ⟨j,t,x,u,n⟩
 have af:∀j,j<nx->upd β d b g j=β j:=by
  intro j q;by_cases i:j=d
  ·subst i;rcases B with⟨r,u⟩|r
   ·subst r;subst u;rw[fL,hβ]
   omega
  exact gW _ _ _ i
 have ht:aX own β ⟨H,nx⟩ w (upd β d b g) ⟨(H.del p).put d o,if d=nx then nx+1 else nx⟩ w':=by
  refine⟨ad,af,by simp only;split<;>omega,by omega,λk R hn=>?_,G,λk cur e M hc=>?_,h1,h2,h3⟩
  ·have C:k≠b:=λi=>by subst i;exact hn ⟨p,o0,l,J,hβ⟩
   exact hk k C
  by_cases S:k=b
  ·subst S;obtain⟨c,f,k1,k2,k3⟩:=z cur e M hc;exact⟨c,f,k1,k2,λ_=>k3⟩
  exact⟨cur,M,by rw[hk k S];exact hc,rfl,λ_=>rfl⟩
 have aj:¬own b:=by
  obtain⟨b',ar,U,hn,_⟩:=s.obj p o0 J;rw[hβ]at U;cases U;exact hn
 refine⟨⟨λj q=>?_,λj b2 x n=>?_,λk R=>by rw[N];exact s.iU k R,λj t q=>?_,λj j' o1 o2 k x y q V n K=>?_⟩,ht⟩
 ·have i:nx<=j/\j≠d:=by
   split at q
   ·omega
   rcases B with⟨i,_⟩|i
   ·omega
   omega
  rw[gW _ _ _ i.2];exact s.fresh j i.1
 ·rw[N];by_cases i:j=d
  ·subst i;rw[fL]at n;cases n;exact s.lt _ _ _ hβ
  rw[gW _ _ _ i]at n;exact s.lt _ _ _ n
 ·rcases m j t q with⟨i,r⟩|⟨i,r,u⟩
  ·subst i;subst r;exact⟨b,g,fL _ _ _ _,aj,ho _ _ ht.later⟩
  obtain⟨b2,x,W,al,an⟩:=s.obj j t u;have C:b2≠b:=λv=>by subst v;exact r (s.inj j p t o0 b2 x l u J W hβ)
  exact⟨b2,x,by rw[gW _ _ _ i];exact W,al,an.later ht.later (hk b2 C)⟩
 rcases m j o1 q with⟨i,_⟩|⟨i,r,u⟩
 ·subst i;rw[fL]at n;cases n;rcases m j' o2 V with⟨v,_⟩|⟨v,h8,h9⟩
  ·exact v.symm
  rw[gW _ _ _ v]at K;exact absurd (s.inj j' p o2 o0 b y l h9 J K hβ) h8
 rw[gW _ _ _ i]at n;rcases m j' o2 V with⟨v,_⟩|⟨v,h8,h9⟩
 ·subst v;rw[fL]at K;cases K;exact absurd (s.inj j p o1 o0 b x l u J n hβ) r
 rw[gW _ _ _ v]at K;exact s.inj j j' o1 o2 k x y u h9 n K
theorem abI(β:Bl){d b c:Nat}(h:β d=some (b,c)):upd β d b c=β:=by
 funext j;unfold upd;split
 ·rename_i e;subst e;exact h.symm
 rfl
theorem vZ{β:Bl}{H c:Hp}(h:∀j,c.get j=H.get j):live β c=live β H:=by
 funext b;unfold live;simp only[h]
theorem aB.congr{e:Hp}(c:aB own β H nx w)(h:∀j,e.get j=H.get j):aB own β e nx w:=by
 refine⟨c.fresh,c.lt,c.iU,λid o f=>?_,λid d o g b x y i h2=>c.inj id d o g b x y (by rw[<-h];exact i) (by rw[<-h];exact h2)⟩;rw[h]at f;rw[vZ h];exact c.obj id o f
theorem aX.congr{β':Bl}{H₁ H₂ H₁' H₂':Hp}{n₁ n₂:Nat}(b:aX own β ⟨H₁,n₁⟩ w β' ⟨H₂,n₂⟩ w')(c:∀j,H₁'.get j=H₁.get j)(h2:∀j,H₂'.get j=H₂.get j):aX own β ⟨H₁',n₁⟩ w β' ⟨H₂',n₂⟩ w':=by
 refine⟨b.ext,b.low,b.up,b.size,?_,?_,?_,b.os,b.tape,b.output⟩
 ·simp only[vZ c];exact b.aY
 ·simp only[vZ c,vZ h2];exact b.live
 simp only[vZ h2];exact b.shape
theorem aB.d?(t:aB own β H nx w){l b g:Nat}{x f:List AV}{m d:Array Value}{e:TypeId}(y:H.get l=some (.cells x))(hβ:β l=some (b,g))(u:w.heap[b]?=some (.cells m e (0,0)))
  (z:w'=w.setRow b d) (r:d.size=m.size) (G:g+f.length<=m.size) (A:∀(i:Nat) (c:AV) (v:Value),f[i]?=some c->d[g+i]?=some v->VR w.heap (LL own β H) β c v):
  aB own β (H.put l (.cells f)) nx w'/\aX own β ⟨H,nx⟩ w β ⟨H.put l (.cells f),nx⟩ w':=by
 subst z;have o:l≠nx:=λh=>by rw[t.fresh l (by omega)]at hβ;cases hβ
 have p:(w.setRow b d).heap[b]?=some (.cells d e (0,0)):=setRow_heap w b m d e _ u;have h:=t.Eb (w':=w.setRow b d) y hβ l g (.inl ⟨rfl,rfl⟩) (.cells f) (by simp) (λk B=>setRow_other w b k d B)
  (λc1 J K n=>by rw[u]at n;cases n;exact⟨d,_,p,r,rfl⟩) rfl rfl rfl
  (λM β' s=>⟨d,e,p,by omega,λi c v n C=>(A i c v n C).later s⟩)
 rw[abI β hβ,if_neg o]at h;have n:∀j,(H.put l (.cells f)).get j=((H.del l).put l (.cells f)).get j:=by
  intro j;by_cases q:j=l
  ·subst q;rw[PM.kN,PM.kN]
  rw[PM.jb _ _ q,PM.jb _ _ q,PM.JN _ q]
 exact⟨h.1.congr n,h.2.congr (λ_=>rfl) n⟩
theorem aB.drop(f:aB own β H nx w)(e:Nat):aB own β (H.del e) nx w/\aX own β ⟨H,nx⟩ w β ⟨H.del e,nx⟩ w:=by
 have c:∀j o,(H.del e).get j=some o->H.get j=some o:=by
  intro j o g;by_cases h:j=e
  ·subst h;rw[PM.Zw]at g;cases g
  rwa [PM.JN _ h]at g
 have d:∀b,live β (H.del e) b->live β H b:=λb ⟨j,o,x,i,h2⟩=>⟨j,o,x,c j o i,h2⟩
 have k:aX own β ⟨H,nx⟩ w β ⟨H.del e,nx⟩ w:=⟨λ_ _ h=>h,λ_ _=>rfl,Nat.le_refl _,Nat.le_refl _,λ_ _ _=>rfl,λb h=>.inl (d b h),λ_ cur _ l h=>⟨cur,l,h,rfl,λ_=>rfl⟩,rfl,rfl,rfl⟩;refine⟨⟨f.fresh,f.lt,f.iU,λj o g=>?_,λj m o n b x y i h2=>f.inj j m o n b x y (c _ _ i) (c _ _ h2)⟩,k⟩;obtain⟨b,base,i,h2,p⟩:=f.obj j o (c j o g);exact⟨b,base,i,h2,p.later k.later rfl⟩
end
def RL(hp:Array Obj)(L:Nat->Prop)(β:Bl)(b:List AV)(d:List Value):Prop:=
 b.length=d.length/\∀(i:Nat) (c:AV) (v:Value),b[i]?=some c->d[i]?=some v->VR hp L β c v
section
variable {hp:Array Obj} {L:Nat->Prop} {β:Bl}
theorem RL.nil:RL hp L β [] []:=⟨rfl,λi c v h=>by simp at h⟩
theorem RL.cons{a:AV}{v:Value}{e:List AV}{f:List Value}(h:VR hp L β a v)(g:RL hp L β e f):RL hp L β (a::e) (v::f):=by
 refine⟨by simp[g.1],λi c x b d=>?_⟩;cases i with
 |zero=>simp at b d;subst b;subst d;exact h
 |succ i=>simp at b d;exact g.2 i c x b d
theorem RL.head{a:AV}{v:Value}{b:List AV}{c:List Value}(h:RL hp L β (a::b) (v::c)):VR hp L β a v:=h.2 0 a v (by simp) (by simp)
theorem RL.tail{a:AV}{v:Value}{b:List AV}{d:List Value}(h:RL hp L β (a::b) (v::d)):RL hp L β b d:=
 ⟨by have:=h.1;simp at this;exact this,λi c x e f=>h.2 (i+1) c x (by simpa using e) (by simpa using f)⟩
theorem RL.take{b:List AV}{d:List Value}(h:RL hp L β b d)(n:Nat):RL hp L β (b.take n) (d.take n):=
 ⟨by simp[h.1],λi c x e f=>h.2 i c x (by rw[List.getElem?_take]at e;split at e<;>simp_all) (by rw[List.getElem?_take]at f;split at f<;>simp_all)⟩
theorem RL.drop{b:List AV}{d:List Value}(h:RL hp L β b d)(n:Nat):RL hp L β (b.drop n) (d.drop n):=
 ⟨by simp[h.1],λi c x e f=>h.2 (n+i) c x (by rwa [List.getElem?_drop]at e) (by rwa [List.getElem?_drop]at f)⟩
theorem RL.append{e f:List AV}{g j:List Value}(h:RL hp L β e g)(k:RL hp L β f j):RL hp L β (e++f) (g++j):=by
 refine⟨by simp[h.1,k.1],λi c x d b=>?_⟩;rw[List.getElem?_append]at d b;rw[<-h.1]at b;split at d
 ·rename_i hi;rw[if_pos hi]at b;exact h.2 i c x d b
 rename_i hi;rw[if_neg hi]at b;exact k.2 _ c x d b
theorem RL.later{d:List AV}{e:List Value}{b:Array Obj}{f:Nat->Prop}{β':Bl}(g:sI hp L β b f β')(h:RL hp L β d e):RL b f β' d e:=
 ⟨h.1,λi c v j k=>(h.2 i c v j k).later g⟩
theorem RL.agg{b:List AV}{d:Array Value}(h:RL hp L β b d.toList):VR hp L β (.agg b) (.agg d):=
 .agg b d (by simpa using h.1) λi c v e f=>h.2 i c v e (by simpa using f)
theorem RL.tup{b:List AV}{d:Array Value}(h:RL hp L β b d.toList):VR hp L β (.tup b) (.tuple d):=
 .tup b d (by simpa using h.1) λi c v e f=>h.2 i c v e (by simpa using f)
theorem RL.get{d:List AV}{b:List Value}(h:RL hp L β d b){i:Nat}{c:AV}(e:d[i]?=some c):∃v,b[i]?=some v/\VR hp L β c v:=by
 have hi:i<b.length:=by rw[<-h.1];exact(List.getElem?_eq_some_iff.1 e).1
 exact⟨b[i],by simp[hi],h.2 i c _ e (by simp[hi])⟩
theorem RL.aM{b:List AV}{d:List Value}(h:RL hp L β b d)(e:Eng.aM b=true):∀v∈d,v.oneCell'=true:=by
 intro v f;obtain⟨i,hi,rfl⟩:=List.getElem_of_mem f;have c:i<b.length:=by rw[h.1];exact hi
 have g:b[i].one=true:=List.all_eq_true.1 e _ (List.getElem_mem c);exact(h.2 i b[i] d[i] (by simp[c]) (by simp[hi])).one g
theorem b!{v:Value}{a:AV}(h:Bu v=some a):VR hp L β a v:=by
 unfold Bu at h;split at h<;>cases h;case h_1=>exact .bool _
 case h_2=>exact .int _ _
 case h_3 s=>have:=VR.str (hp:=hp) (L:=L) (β:=β) s.data.toList;simpa using this
 case h_4=>exact .dh
 case h_5=>exact .D
 case h_6=>exact .fp
 case h_7=>exact .fX
 case h_8=>exact .bR
theorem AB:∀ {b:List Value} {as:List AV},sQ b=some as->RL hp L β as b
 |[],as,h=>by simp[sQ]at h;subst h;exact .nil
 |v::b,as,h=>by
  unfold sQ at h;split at h
  ·rename_i a d c h2;cases h;exact .cons (b! c) (AB h2)
  cases h
theorem acE{v:Value}{a:AV}(h:I4 v=some a):VR hp L β a v:=by
 unfold I4 at h;split at h
 ·rename_i cs;cases b:sQ cs.toList with
  |none=>simp[b]at h
  |some as=>simp[b]at h;subst h;exact RL.agg (AB b)
 exact b! h
end
structure Sim(nt:Nat)(ds:List Deferred)(own:Nat->Prop)(β:Bl)(T:Tm)(h:AH)(a:Act)(w:World):Prop where
 hp:aB own β h.H h.nx w
 sz:a.tmps.size=nt
 tm:∀t v,T.get t=some v->VR w.heap (LL own β h.H) β v (a.tmps.getD t Go.undef)
 df:a.defers=ds
section
variable {nt:Nat} {ds:List Deferred} {own:Nat->Prop} {β:Bl} {T:Tm} {h:AH} {a:Act} {w:World}
theorem bJ(e:Sim nt ds own β T h a w){x:Operand}{y:Opd}(d:bj x=some y):VR w.heap (LL own β h.H) β (y.ev T) (a.eval x):=by
 cases x with
 |tmp t=>
  simp[bj]at d;subst d;simp only[Opd.ev,Act.eval];cases j:T.get t with
  |none=>exact .undef _
  |some v=>exact e.tm t v j
 |const v=>
  simp[bj]at d;obtain⟨b,k,rfl⟩:=d;exact acE k
 |global g=>
  simp[bj]at d;subst d;exact .c_ g 0
 |func f=>
  simp[bj]at d;subst d;exact .func _ [] [] #[] #[] rfl rfl (λi c v h=>by simp at h) (λi c v h=>by simp at h)
theorem Kw(c:Sim nt ds own β T h a w):∀ {xs:List Operand} {ys:List Opd},sR xs=some ys->RL w.heap (LL own β h.H) β (ys.map (·.ev T)) (xs.map a.eval)
 |[],ys,b=>by simp[sR]at b;subst b;exact .nil
 |x::xs,ys,b=>by
  unfold sR at b;split at b
  ·rename_i y e d h2;cases b;exact .cons (bJ c d) (Kw c h2)
  cases b
end
def gk(P:Program)(own:Nat->Prop)(β:Bl)(h:AH)(w:World)(s:Sem Next)(v:AV)(b:AH):Prop:=
 ∃cv w' β',(s.run P w =.ok (.value cv) w'\/(s.run P w =.ok .skip w'/\cv=Go.undef))/\aB own β' b.H b.nx w'/\VR w'.heap (LL own β' b.H) β' v cv/\aX own β h w β' b w'
section
variable {P:Program} {own:Nat->Prop} {β:Bl} {h:AH} {w:World}
theorem gk.still{s:Sem Next}{v:AV}{cv:Value}(b:aB own β h.H h.nx w)(c:s.run P w =.ok (.value cv) w)(d:VR w.heap (LL own β h.H) β v cv):gk P own β h w s v h:=
 ⟨cv,w,β,.inl c,b,d,.refl _ _ _ _⟩
theorem Zq{c:Nat}{d:List AV}(b:h.E c=some d):h.H.get c=some (.cells d):=by
 unfold AH.E at b;split at b
 ·rename_i f e;cases b;exact e
 cases b
theorem nN(b o n:Nat):(⟨b,o,none⟩:Addr).add n=⟨b,o+n,none⟩:=by
 unfold Addr.add;split<;>simp_all
theorem aB.row(j:aB own β h.H h.nx w){d:Nat}{f:List AV}(k:h.E d=some f):
  ∃b base cur e,h.H.get d=some (.cells f)/\β d=some (b,base)/\w.heap[b]?=some (.cells cur e (0,0))/\base+f.length<=cur.size/\
   ∀(i:Nat) (c:AV) (v:Value),f[i]?=some c->cur[base+i]?=some v->VR w.heap (LL own β h.H) β c v:=by
 have g:=Zq k;obtain⟨b,base,l,_,cur,e,h2,m,n⟩:=j.obj d _ g;exact⟨b,base,cur,e,g,l,h2,m,n⟩
theorem aB.I0(j:aB own β h.H h.nx w){g:Nat}{d:List AV}(k:h.H.get g=some (.dN g d)):
  ∃cur e f,w.heap[g]?=some (.cells cur e f)/\d.length=cur.size/\∀(i:Nat) (c:AV) (v:Value),d[i]?=some c->cur[i]?=some v->VR w.heap (LL own β h.H) β c v:=by
 obtain⟨b,base,o,_,p,l,cur,e,f,h2,m,n⟩:=j.obj _ _ k;subst l;exact⟨cur,e,f,h2,m,n⟩
theorem aB.dN(l:aB own β h.H h.nx w){g:Nat}{f:List AV}(d:h.n_ g=some f):
  ∃cur e j,w.heap[g]?=some (.cells cur e j)/\f.length<=cur.size/\∀(i:Nat) (c:AV) (v:Value),f[i]?=some c->cur[i]?=some v->VR w.heap (LL own β h.H) β c v:=by
 unfold AH.n_ at d;split at d
 ·rename_i r q m;split at d
  ·rename_i k;cases d;subst k;obtain⟨b,base,s,_,t,n,cur,e,j,h2,o,p⟩:=l.obj _ _ m;subst n;exact⟨cur,e,j,h2,Nat.le_of_eq o,p⟩
  cases d
 cases d
theorem rI{d e:List AV}{b n:Nat}(c:cut d b n=some e):b+n<=d.length/\e=(d.drop b).take n:=by
 unfold cut at c;split at c
 ·cases c;exact⟨by assumption,rfl⟩
 cases c
theorem JL{d b f:List AV}{c:Nat}(e:aP d c b=some f):c+b.length<=d.length/\f=d.take c++b++d.drop (c+b.length):=by
 unfold aP at e;split at e
 ·cases e;exact⟨by assumption,rfl⟩
 cases e
theorem xr{hp:Array Obj}{L:Nat->Prop}{β:Bl}{cs:List AV}{cur:Array Value}{o:Nat}(f:o+cs.length<=cur.size)(d:∀(i:Nat) (c:AV) (v:Value),cs[i]?=some c->cur[o+i]?=some v->VR hp L β c v):
  RL hp L β cs ((cur.toList.drop o).take cs.length):=
 ⟨by simp;omega,λi c v e b=>d i c v e (by
  rw[List.getElem?_take]at b;split at b
  ·rw[List.getElem?_drop]at b;simpa using b
  cases b)⟩
theorem Ac{b o n:Nat}{c:Array Value}{e:TypeId}{f:Nat×Nat}(g:w.heap[b]?=some (.cells c e f)):
  ∀(j:Nat) (v:Value),((c.toList.drop o).take n)[j]?=some v->w.cell? ((⟨b,o,none⟩:Addr).add j)=some v:=by
 intro j v d;rw[nN,cell_of_row w b _ c e f g];rw[List.getElem?_take]at d;split at d
 ·rw[List.getElem?_drop]at d;simpa using d
 cases d
theorem J7(s:aB own β h.H h.nx w){n:Nat}{t:AV}{u:Value}{x:List AV}(f:iP h n t=some x)(p:VR w.heap (LL own β h.H) β t u):
  ∃y q,u =.pointer (some y)/\RL w.heap (LL own β h.H) β x q/\q.length=n/\∀(j:Nat) (v:Value),q[j]?=some v->w.cell? (y.add j)=some v:=by
 cases p<;>simp only[iP]at f<;>try cases f
 case ptr id off b base hβ=>
  cases k:h.E id with
  |none=>simp[k]at f
  |some cs=>
   simp only[k]at f;obtain⟨z,rfl⟩:=rI f;obtain⟨B,r,cur,e,C,hβ',l,hlen,m⟩:=s.row k;rw[hβ]at hβ';cases hβ';have d:=((xr hlen m).drop off).take n;have heq:(((cur.toList.drop base).take cs.length).drop off).take n=(cur.toList.drop (base+off)).take n:=by
    rw[List.drop_take,List.take_take,List.drop_drop,Nat.min_eq_left (by omega)]
   rw[heq]at d;refine⟨_,_,rfl,d,?_,Ac l⟩;have:=d.1;simp at this ⊢;omega
 case c_ g off=>
  cases k:h.n_ g with
  |none=>simp[k]at f
  |some cs=>
   simp only[k]at f;obtain⟨z,rfl⟩:=rI f;obtain⟨cur,e,A,l,hlen,m⟩:=s.dN k;have d:=((xr (cs:=cs) (cur:=cur) (o:=0) (by omega) (λi c v k p=>m i c v k (by rwa [Nat.zero_add]at p))).drop off).take n;have heq:(((cur.toList.drop 0).take cs.length).drop off).take n=(cur.toList.drop off).take n:=by
    rw[List.drop_zero,List.drop_take,List.take_take,Nat.min_eq_left (by omega)]
   rw[heq]at d;refine⟨_,_,rfl,d,?_,Ac l⟩;have:=d.1;simp at this ⊢;omega
 case ai cs b o cur e A l G hlen m=>
  obtain⟨z,rfl⟩:=rI f;have d:=((xr hlen m).drop 0).take n;have heq:(((cur.toList.drop o).take cs.length).drop 0).take n=(cur.toList.drop o).take n:=by
   rw[List.drop_zero,List.take_take,Nat.min_eq_left (by omega)]
  rw[heq]at d;refine⟨_,_,rfl,d,?_,Ac l⟩;have:=d.1;simp at this ⊢;omega
theorem Lt(l:aB own β h.H h.nx w){f:AV}{k:Value}{x:AV}(b:lh h f=some x)(m:VR w.heap (LL own β h.H) β f k):
  ∃i v,k =.pointer (some i)/\VR w.heap (LL own β h.H) β x v/\w.cell? i=some v:=by
 have n:iP h 1 f=some [x]:=by
  cases f<;>simp only[lh]at b<;>try cases b
  case ptr id off=>
   simp only[iP];cases e:h.E id with
   |none=>simp[e]at b
   |some cs=>
    simp only[e]at b ⊢;obtain⟨d,j⟩:=List.getElem?_eq_some_iff.1 b;unfold cut;rw[if_pos (by omega)];congr 1
    rw[List.drop_eq_getElem_cons d];simp[j]
  case c_ g off=>
   simp only[iP];cases e:h.n_ g with
   |none=>simp[e]at b
   |some cs=>
    simp only[e]at b ⊢;obtain⟨d,j⟩:=List.getElem?_eq_some_iff.1 b;unfold cut;rw[if_pos (by omega)];congr 1
    rw[List.drop_eq_getElem_cons d];simp[j]
  case ai cs=>
   simp only[iP];cases cs with
   |nil=>simp at b
   |cons c cs=>simp at b;subst b;simp[cut]
 obtain⟨i,o,h2,p,q,r⟩:=J7 l n m;match o,q with
 |[v],_=>exact⟨i,v,h2,p.head,by have:=r 0 v (by simp);simpa[Addr.add]using this⟩
theorem h!{t:TypeId}(b:gx P t=some none):(isAgg t).run P w =.ok false w:=by
 unfold gx at b;cases hu:P.underlying t with
 |none=>simp[hu]at b
 |some d=>
  simp only[isAgg,Sem.run_bind,run_underlying hu,Result.andThen_ok];cases d<;>simp[hu]at b<;>rfl
theorem lL{t:TypeId}{n:Nat}(b:eJ P t=some n):(sizeOf t).run P w =.ok n w:=by
 unfold eJ at b;cases hi:P.info? t with
 |none=>simp[hi]at b
 |some i=>simp[hi]at b;simp[sizeOf,typeInfo,hi,b]
theorem Z8{t:TypeId}{n:Nat}(b:gx P t=some (some n)):(isAgg t).run P w =.ok true w/\(sizeOf t).run P w =.ok n w:=by
 unfold gx at b;cases hu:P.underlying t with
 |none=>simp[hu]at b
 |some d=>
  simp only[isAgg,Sem.run_bind,run_underlying hu,Result.andThen_ok];cases d<;>simp[hu]at b;all_goals exact⟨rfl,lL b⟩
theorem NJ(d:aB own β h.H h.nx w){t:TypeId}{b:AV}{c:Value}{x:AV}(e:gx P t=some none)(f:lh h b=some x)(g:VR w.heap (LL own β h.H) β b c):
  ∃v,(Instr.loadAt t c).run P w =.ok v w/\VR w.heap (LL own β h.H) β x v:=by
 obtain⟨j,v,rfl,i,h2⟩:=Lt d f g;refine⟨v,?_,i⟩;simp only[Instr.loadAt,Instr.sureAddr,Sem.run_bind,Sem.run_pure,Result.andThen_ok,loadVar,h! e];simp[h2]
theorem Nq(g:aB own β h.H h.nx w){t:TypeId}{n:Nat}{c:AV}{d:Value}{e:List AV}(i:gx P t=some (some n))(j:iP h n c=some e)(k:VR w.heap (LL own β h.H) β c d):
  ∃v,(Instr.loadAt t d).run P w =.ok v w/\VR w.heap (LL own β h.H) β (.agg e) v:=by
 obtain⟨l,f,rfl,m,h2,o⟩:=J7 g j k;obtain⟨q1,q2⟩:=Z8 (w:=w) i;refine⟨.agg f.toArray,?_,RL.agg (by simpa using m)⟩;have b:=run_loadCells_list (P:=P) w l f o;rw[h2]at b;simp only[Instr.loadAt,Instr.sureAddr,Sem.run_bind,Sem.run_pure,Result.andThen_ok,loadVar,q1,q2,b,if_true]
end
theorem Jx{α:Type}(l c:List α)(b i:Nat)(h:b+c.length<=l.length):
  (l.take b++c++l.drop (b+c.length))[i]?=if i<b then l[i]? else if i<b+c.length then c[i-b]? else l[i]?:=by
 rw[List.append_assoc,List.getElem?_append,List.getElem?_append,List.getElem?_take,List.getElem?_drop,List.length_take,Nat.min_eq_left (by omega)];by_cases d:i<b
 ·simp[d]
 by_cases h2:i<b+c.length
 ·have:i-b<c.length:=by omega
  simp[d,h2,this]
 have e:¬(i-b<c.length):=by omega
 simp only[d,h2,e,if_false];congr 1
 omega
section
variable {hp:Array Obj} {L:Nat->Prop} {β:Bl}
theorem RL.aP{c d:List AV}{e f:List Value}(h:RL hp L β c e)(k:RL hp L β d f)(b:Nat):RL hp L β (c.take b++d++c.drop (b+d.length)) (e.take b++f++e.drop (b+f.length)):=by
 rw[<-k.1];exact((h.take b).append k).append (h.drop _)
theorem JV{x:AV}{v:Value}(b:dG x=true)(h:VR hp L β x v):RL hp L β x.cells v.cells.toList:=by
 cases h<;>simp only[AV.cells,Value.cells]<;>first
  |(simp[dG,AV.one]at b;done)
  |(refine RL.cons ?_ RL.nil;constructor<;>assumption)
  |skip
 case agg cs g d h=>exact⟨by simpa using d,λi c v e f=>h i c v e (by simpa using f)⟩
end
section
variable {P:Program} {own:Nat->Prop} {β:Bl} {h:AH} {w:World}
theorem ZA(u:aB own β h.H h.nx w){n f:Nat}{x k l:List AV}{m:List Value}{b d:Nat}(A:h.E n=some x)(hβ:β n=some (b,d))(q:aP x f l=some k)(p:RL w.heap (LL own β h.H) β l m)
  (B:aM l=true):∃w',(storeCells ⟨b,d+f,none⟩ m).run P w =.ok () w'/\aB own β (h.set n (.cells k)).H (h.set n (.cells k)).nx w'/\aX own β h w β (h.set n (.cells k)) w':=by
 obtain⟨C,rfl⟩:=JL q;obtain⟨K,t,cur,e,G,hβ',y,hlen,z⟩:=u.row A;rw[hβ]at hβ';cases hβ';have J:l.length=m.length:=p.1;have o:=run_storeCells_at P b (d+f) e m 0 cur w y (by omega) (p.aM B);simp only[Nat.add_zero]at o;refine⟨_,o,?_⟩;have r:(cur.toList.take (d+f)++m++cur.toList.drop (d+f+m.length)).toArray.size=cur.size:=by simp;omega
 refine u.d? G hβ y rfl r (by simp;omega) λi c v j s=>?_
 rw[Jx _ _ _ _ C]at j;have g:(cur.toList.take (d+f)++m++cur.toList.drop (d+f+m.length))[d+i]?=some v:=by simpa using s
 rw[Jx _ _ _ _ (by simp;omega)]at g;split at j
 ·rw[if_pos (by omega)]at g;exact z i c v j (by simpa using g)
 rw[if_neg (by omega)]at g;split at j
 ·rw[if_pos (by omega)]at g;exact p.2 _ c v j (by rw[show d+i-(d+f)=i-f by omega]at g;exact g)
 rw[if_neg (by omega)]at g;exact z i c v j (by simpa using g)
theorem aaH(m:aB own β h.H h.nx w){t:TypeId}{n d e:Nat}{j c:List AV}{x:AV}{k f:Value}(o:eJ P t=some n)(p:dG x=true)(z:x.cells.length=n)(q:aM x.cells=true)
  (r:h.E d=some j) (g:aP j e x.cells=some c) (s:VR w.heap (LL own β h.H) β (.ptr d e) k) (i:VR w.heap (LL own β h.H) β x f):
  ∃w',(Instr.storeAt t k f).run P w =.ok () w'/\aB own β (h.set d (.cells c)).H (h.set d (.cells c)).nx w'/\aX own β h w β (h.set d (.cells c)) w':=by
 cases s;rename_i b base hβ;have l:=JV p i;obtain⟨w',u,h2,v⟩:=ZA (P:=P) m r hβ g l q;refine⟨w',?_,h2,v⟩;have y:f.cells.size=n:=by have:=l.1;simp at this;omega
 simp only[Instr.storeAt,Instr.sureAddr,Sem.run_bind,Sem.run_pure,Result.andThen_ok,storeVar,lL o,y];simp[u]
def pR(P:Program)(own:Nat->Prop)(β:Bl)(H:Hp)(nx:Nat)(w:World)(s:Sem Next)(v:AV)(b:bg)(r:Nat):Prop:=
 ∃cv w',s.run P w =.ok (.value cv) w'/\aB own (upd β r w.heap.size 0) (H.put r b) (max nx (r+1)) w'/\VR w'.heap (LL own (upd β r w.heap.size 0) (H.put r b)) (upd β r w.heap.size 0) v cv/\
  (nx<=r->aX own β ⟨H,nx⟩ w (upd β r w.heap.size 0) ⟨H.put r b,max nx (r+1)⟩ w')/\aX own β ⟨H,0⟩ w (upd β r w.heap.size 0) ⟨H.put r b,0⟩ w'
theorem pR.ok{s:Sem Next}{v:AV}{c:bg}(d:pR P own β h.H h.nx w s v c h.nx):gk P own β h w s v (h.add c):=by
 obtain⟨e,w',f,h2,g,i,_⟩:=d;have hm:max h.nx (h.nx+1)=h.nx+1:=by omega
 have b:=i (Nat.le_refl _);rw[hm]at h2 b;exact⟨e,w',_,.inl f,h2,g,b⟩
theorem xB{H:Hp}{nx:Nat}(d:aB own β H nx w)(r:Nat)(e:β r=none)(t:TypeId){cs:List AV}{cur:Array Value}(b:RL w.heap (LL own β H) β cs cur.toList):
  ∃w',(newRow t cur).run P w =.ok ⟨w.heap.size,0,none⟩ w'/\aB own (upd β r w.heap.size 0) (H.put r (.cells cs)) (max nx (r+1)) w'/\upd β r w.heap.size 0 r=some (w.heap.size,0)/\
   ((nx<=r->aX own β ⟨H,nx⟩ w (upd β r w.heap.size 0) ⟨H.put r (.cells cs),max nx (r+1)⟩ w')/\aX own β ⟨H,0⟩ w (upd β r w.heap.size 0) ⟨H.put r (.cells cs),0⟩ w')/\w'.heap[w.heap.size]?=some (.cells cur t (0,0)):=by
 have l:cs.length=cur.size:=by simpa using b.1
 obtain⟨f,h2,g⟩:=d.Oq (w':={ w with heap:=w.heap.push (.cells cur t) }) r e cs cur t rfl rfl rfl rfl (by omega) (λi c v j k=>b.2 i c v j (by simpa using k));exact⟨_,rfl,f,fL _ _ _ _,⟨h2,g⟩,by simp⟩
theorem uf{t:TypeId}{z:List AV}(b:iA P t=some z){hp:Array Obj}{L:Nat->Prop}{β:Bl}:∃v,(zeroValue t).run P w =.ok v w/\RL hp L β z v.cells.toList:=by
 unfold iA at b;split at b
 ·rename_i i hi;split at b
  ·rename_i v c;exact⟨v,by simp[zeroValue,typeInfo,hi,c],AB b⟩
  cases b
 cases b
theorem aa4{H:Hp}{nx:Nat}(b:aB own β H nx w)(r:Nat)(c:β r=none){t:TypeId}{z:List AV}(d:iA P t=some z):
  pR P own β H nx w (do pure (.value (<-Instr.alloc t true (.tuple #[])))) (.ptr r 0) (.cells z) r:=by
 obtain⟨v,e,h2⟩:=uf (P:=P) (w:=w) d (hp:=w.heap) (L:=LL own β H) (β:=β);obtain⟨w',f,g,i,j,k⟩:=xB (P:=P) b r c t (cs:=z) (cur:=v.cells) h2;refine⟨_,w',?_,g,VR.ptr r 0 w.heap.size 0 i,j⟩;simp only[Instr.alloc,newVar,Sem.run_bind,e,Result.andThen_ok,f,Sem.run_pure]
theorem ad6{H:Hp}{nx:Nat}(d:aB own β H nx w)(r:Nat)(e:β r=none)(t:TypeId){x:AV}{b:Value}(f:dG x=true)(c:VR w.heap (LL own β H) β x b):
  pR P own β H nx w (do pure (.value (<-Instr.box t b))) (.ptr r 0) (.cells x.cells) r:=by
 obtain⟨w',g,i,j,k,l⟩:=xB (P:=P) d r e t (cs:=x.cells) (cur:=b.cells) (JV f c);refine⟨_,w',?_,i,VR.ptr r 0 w.heap.size 0 j,k⟩;simp only[Instr.box,newVar,Sem.run_bind,Result.andThen_ok,g,Sem.run_pure]
end
theorem Lf(b:Nat):∀(c:List Value) (k:Nat) (cs:Array Value),b+k+c.length<=cs.size->
  ((c.zipIdx k).foldl (λcs p=>cs.setIfInBounds (b+p.2) p.1) cs).toList=cs.toList.take (b+k)++c++cs.toList.drop (b+k+c.length)
 |[],k,cs,h=>by simp
 |v::c,k,cs,h=>by
  simp only[List.length_cons]at h;simp only[List.zipIdx_cons,List.foldl_cons];rw[Lf b c (k+1) (cs.setIfInBounds (b+k) v) (by simp;omega)];have e:=list_seg_step cs.toList (b+k) v c (by simp;omega);simpa[Array.toList_setIfInBounds,Nat.add_assoc]using e
theorem wU{hp:Array Obj}{L:Nat->Prop}{β:Bl}{T:Tm}{ρ:Operand->Value}(c:Nat->Option (Nat×Nat))(hρ:∀x y,bj x=some y->VR hp L β (y.ev T) (ρ x)):
  ∀(m:List (Nat×Operand)) (f:List (Nat×Nat×Opd)) (zero cs:List AV) (e:Array Value),n6 c m=some f->iB T zero f=some cs->RL hp L β zero e.toList->
   ∃n,Instr.fill c e (m.map λp=>(p.1,ρ p.2))=some n/\RL hp L β cs n.toList
 |[],f,zero,cs,e,b,d,q=>by
  simp[n6]at b;subst b;simp[iB]at d;subst d;exact⟨e,by simp[Instr.fill],q⟩
 |(i,x)::m,f,zero,cs,e,b,d,q=>by
  unfold n6 at b;split at b
  ·rename_i o s y l A h2 B;cases b;unfold iB at d;split at d
   ·rename_i r;simp only at d;split at d
    ·rename_i hlen;cases g:Eng.aP zero o (y.ev T).cells with
     |none=>simp[g]at d
     |some C=>
      simp only[g]at d;obtain⟨J,rfl⟩:=JL g;have z:=JV (show dG (y.ev T)=true from r) (hρ x y h2);have t:(ρ x).cells.size=s:=by have:=z.1;simp at this;omega
      have G:e.size=zero.length:=by have:=q.1;simp at this;omega
      have j:((ρ x).cells.zipIdx.foldl (λcs p=>cs.setIfInBounds (o+p.2) p.1) e).toList=e.toList.take o++(ρ x).cells.toList++e.toList.drop (o+(ρ x).cells.toList.length):=by
       rw[<-Array.foldl_toList];have:=Lf o (ρ x).cells.toList 0 e (by simp;omega);simpa using this
      have k:=q.aP z o;rw[<-j]at k;obtain⟨n,u,v⟩:=wU c hρ m l _ cs _ B d k;refine⟨n,?_,v⟩;simp only[List.map_cons,Instr.fill,A,t];rw[if_neg (by simp;omega)];exact u
    cases d
   cases d
  cases b
section
variable {P:Program} {own:Nat->Prop} {β:Bl} {h:AH} {w:World}
theorem Zm{α γ:Type}(f:α->Sem γ)(g:α->γ):∀(l:List α),(∀x∈l,(f x).run P w =.ok (g x) w)->(l.mapM f).run P w =.ok (l.map g) w
 |[],_=>by simp
 |x::l,b=>by
  have c:=b x (by simp);have h2:=Zm f g l (λy d=>b y (by simp[d]));rw[List.mapM_cons];simp only[Sem.run_bind,c,Result.andThen_ok,h2,Sem.run_pure,List.map_cons]
theorem aiQ{α γ:Type}(f:α->Sem γ)(g:α->γ)(a:Array α)(b:∀x∈a.toList,(f x).run P w =.ok (g x) w):(a.mapM f).run P w =.ok (a.map g) w:=by
 have c:=Zm (P:=P) (w:=w) f g a.toList b;have h2:a.mapM f=(do let l <-a.toList.mapM f;pure l.toArray):=by
  rw[Array.mapM_eq_mapM_toList];rfl
 rw[h2];simp only[Sem.run_bind,c,Result.andThen_ok,Sem.run_pure];simp only[List.map_toArray,Array.toArray_toList,<-Array.toList_map]
theorem aiJ{T:Tm}{ρ:Operand->Value}(hρ:∀x y,bj x=some y->VR w.heap (LL own β h.H) β (y.ev T) (ρ x)){t:TypeId}{d:Array Field}{k:Array (Nat×Operand)}{e:List (Nat×Nat×Opd)}{b n:List AV}
  (r:P.underlying t=some (.struct d)) (l:d.all (λf=>(P.info? f.type).isSome)=true) (s:iA P t=some b) (o:n6 (vU P d) k.toList=some e) (u:iB T b e=some n):
  ∃v,(Instr.build t (k.map fun(i,x)=>(i,ρ x))).run P w =.ok v w/\VR w.heap (LL own β h.H) β (.agg n) v:=by
 obtain⟨z,A,h2⟩:=uf (P:=P) (w:=w) s (hp:=w.heap) (L:=LL own β h.H) (β:=β);obtain⟨B,C,G⟩:=wU (vU P d) hρ k.toList e b n z.cells o u h2;refine⟨.agg B,?_,RL.agg G⟩;have hm:=aiQ (P:=P) (w:=w) (λf:Field=>do pure (f.offset,<-sizeOf f.type)) (λf=>(f.offset,P.cellsOf f.type)) d (by
  intro f q;have g:=Array.all_eq_true_iff_forall_mem.1 l f (by simpa using q);cases hi:P.info? f.type with
  |none=>simp[hi]at g
  |some i=>simp[sizeOf,typeInfo,hi,Program.cellsOf])
 have c:(λi=>(d.map λf=>(f.offset,P.cellsOf f.type))[i]?)=vU P d:=by
  funext i
  simp only[Array.getElem?_map,vU];cases hi:d[i]? with
  |none=>rfl
  |some f=>
   have g:=Array.all_eq_true_iff_forall_mem.1 l f (Array.mem_of_getElem? hi);cases m:P.info? f.type with
   |none=>simp[m]at g
   |some j=>simp[eJ,Program.cellsOf,m]
 simp only[Instr.build,Sem.run_bind,A,Result.andThen_ok,run_underlying r,hm,c];have J:(k.map fun(i,x)=>(i,ρ x)).toList=k.toList.map λp=>(p.1,ρ p.2):=by simp
 rw[J,C];rfl
theorem aiV{T:Tm}{ρ:Operand->Value}(hρ:∀x y,bj x=some y->VR w.heap (LL own β h.H) β (y.ev T) (ρ x)){t e:TypeId}{n s:Nat}{d:Array (Nat×Operand)}{c:List (Nat×Nat×Opd)}{b f:List AV}
  (k:P.underlying t=some (.array n e)) (g:eJ P e=some s) (l:iA P t=some b) (j:n6 (λi=>some (i*s,s)) d.toList=some c) (m:iB T b c=some f):
  ∃v,(Instr.build t (d.map fun(i,x)=>(i,ρ x))).run P w =.ok v w/\VR w.heap (LL own β h.H) β (.agg f) v:=by
 obtain⟨o,q,h2⟩:=uf (P:=P) (w:=w) l (hp:=w.heap) (L:=LL own β h.H) (β:=β);obtain⟨r,u,z⟩:=wU (λi=>some (i*s,s)) hρ d.toList c b f o.cells j m h2;refine⟨.agg r,?_,RL.agg z⟩;simp only[Instr.build,Sem.run_bind,q,Result.andThen_ok,run_underlying k,lL g];have A:(d.map fun(i,x)=>(i,ρ x)).toList=d.toList.map λp=>(p.1,ρ p.2):=by simp
 rw[A,u];rfl
theorem Qs{hp:Array Obj}{L:Nat->Prop}{β:Bl}{z:List AV}{d:Array Value}(l:RL hp L β z d.toList)(m:0<z.length)(n:Nat):
  RL hp L β (fI n z) ((Array.range (n*z.length)).map λi=>d[i%d.size]!).toList:=by
 have j:d.size=z.length:=by have:=l.1;simp at this;omega
 have hlen:∀n,(fI n z).length=n*z.length:=by
  intro n;unfold fI;simp
 have f:∀n i c,(fI n z)[i]?=some c->z[i%z.length]?=some c:=by
  intro n;induction n with
  |zero=>intro i c b;simp[fI]at b
  |succ n o=>
   intro i c b;have:fI (n+1) z=z++fI n z:=by simp[fI,List.replicate_succ]
   rw[this,List.getElem?_append]at b;split at b
   ·rw[Nat.mod_eq_of_lt (by assumption)];exact b
   have:=o _ c b;rwa [<-Nat.mod_eq_sub_mod (by omega)]at this
 refine⟨by simp[hlen],λi c v b g=>?_⟩;have k:=f n i c b;have hi:i<n*z.length:=by rw[<-hlen n];exact(List.getElem?_eq_some_iff.1 b).1
 have hm:i%z.length<z.length:=Nat.mod_lt _ m;simp only[Array.toList_map,List.getElem?_map,Array.toList_range,List.getElem?_range hi,Option.map_some,Option.some.injEq]at g;refine l.2 (i%z.length) c v k ?_;have e:i%z.length<d.size:=by omega
 rw[j,getElem!_pos d _ e]at g;simp[e,g]
theorem aiS{H:Hp}{nx:Nat}(S:aB own β H nx w)(r:Nat)(U:β r=none){T:Tm}{ρ:Operand->Value}(hρ:∀x y,bj x=some y->VR w.heap (LL own β H) β (y.ev T) (ρ x)){t e:TypeId}{b s:Nat}{g:Array (Nat×Operand)}{d:List (Nat×Nat×Opd)}{c cs:List AV}
  (V:P.underlying t=some (.slice e)) (l:eJ P e=some s) (ad:¬(b*s>2^24)) (al:s≠0) (hz:iA P e=some c) (m:c.length=s) (n:n6 (λi=>some (i*s,s)) g.toList=some d) (f:iB T (fI b c) d=some cs):
  pR P own β H nx w (do pure (.value (<-Instr.buildSlice t b (g.map fun(i,x)=>(i,ρ x))))) (.rsl r 0 b s) (.cells cs) r:=by
 obtain⟨zv,h1,h2⟩:=uf (P:=P) (w:=w) hz (hp:=w.heap) (L:=LL own β H) (β:=β);have W:=Qs h2 (by omega) b;have af:zv.cells.size=c.length:=by have:=h2.1;simp at this;omega
 rw[m]at W;by_cases h0:b*s=0
 ·have J:b=0:=by rcases Nat.mul_eq_zero.1 h0 with h|h<;>omega
  subst J;obtain⟨k,u,q⟩:=wU (λi=>some (i*s,s)) hρ g.toList d (fI 0 c) cs #[] n f (by simpa[fI]using RL.nil);obtain⟨w',v,A,B,C,h9⟩:=xB (P:=P) S r U e (cs:=cs) (cur:=k) q;refine⟨.slice (some ⟨w.heap.size,0,none⟩) 0 0,w',?_,A,VR.gi r 0 s w.heap.size 0 0 B,C⟩;have G:(g.map fun(i,x)=>(i,ρ x)).toList=g.toList.map λp=>(p.1,ρ p.2):=by simp
  have K:Array.map (λ_=>(default:Value)) (Array.range 0) = #[]:=by apply Array.ext';simp
  have M:Instr.fill (λi=>some (i*s,s)) #[] (g.toList.map λx=>(x.1,ρ x.2))=some k:=u;simp only[Instr.buildSlice,Sem.run_bind,run_underlying V,Result.andThen_ok,lL l,Nat.zero_mul,G];simp[K,M,v]
 obtain⟨k,u,q⟩:=wU (λi=>some (i*s,s)) hρ g.toList d (fI b c) cs _ n f W;obtain⟨w',v,A,B,C,h9⟩:=xB (P:=P) S r U e (cs:=cs) (cur:=k) q;have an:cs.length=b*s:=by
  have N:∀(d:List (Nat×Nat×Opd)) (z cs:List AV),iB T z d=some cs->cs.length=z.length:=by
   intro d;induction d with
   |nil=>intro z cs f;simp[iB]at f;rw[f]
   |cons p r ih=>
    intro z cs f;obtain⟨o,sz,x⟩:=p;unfold iB at f;split at f
    ·simp only at f;split at f
     ·split at f
      ·rename_i ao Q;obtain⟨hb,rfl⟩:=JL Q;rw[ih _ _ f];simp;omega
      cases f
     cases f
    cases f
  rw[N _ _ _ f];simp[fI,m]
 have aj:k.size=b*s:=by have:=q.1;simp at this;omega
 have R:b<=maxLen:=by
  have:b<=b*s:=Nat.le_mul_of_pos_right _ (by omega);simp only[maxLen];omega
 refine⟨.slice (some ⟨w.heap.size,0,none⟩) b b,w',?_,A,VR.rsl r 0 b s w.heap.size 0 b k e _ B h9 (Nat.le_refl _) R (by omega),C⟩;have G:(g.map fun(i,x)=>(i,ρ x)).toList=g.toList.map λp=>(p.1,ρ p.2):=by simp
 have j:¬(2^24<b*s):=by omega
 simp only[Instr.buildSlice,Sem.run_bind,run_underlying V,Result.andThen_ok,lL l,G,gt_iff_lt,j,if_false,h0,h1,Sem.run_pure,Sem.run_ite];simp[u,v]
end
theorem JA(l:List UInt8):(⟨l.toArray⟩:ByteArray).toList=l:=by rw[ByteArray.toList_eq]
theorem lJ(l:List UInt8):(⟨l.toArray⟩:ByteArray).size=l.length:=by simp[<-ByteArray.size_data]
theorem Zr(a b:List UInt8):(⟨a.toArray⟩:ByteArray)++⟨b.toArray⟩=⟨(a++b).toArray⟩:=by
 apply ByteArray.ext;rw[ByteArray.data_append];simp
theorem k?(l:List UInt8)(a b:Nat):(⟨l.toArray⟩:ByteArray).extract a b=⟨((l.drop a).take (b-a)).toArray⟩:=by
 apply ByteArray.ext;rw[ByteArray.data_extract];simp[List.extract_eq_take_drop]
section
variable {P:Program} {hp:Array Obj} {L:Nat->Prop} {β:Bl} {w:World}
theorem zV(c:BinOp)(t:TypeId)(x y:Operand)(a b:Value)(d:∀cs,a ≠ .agg cs)(e:a ≠ .nilIface):(eqGuard c t x y a b).run P w =.ok () w:=by
 unfold eqGuard;cases c<;>cases a<;>first|(exact absurd rfl e)|(exact absurd rfl (d _))|simp
theorem Qb{c:BinOp}{x y v:AV}{d e:Value}(h:zn c x y=some v)(i:VR hp L β x d)(j:VR hp L β y e):
  ∃k a b f,d =.int k a/\e =.int k b/\eG c (.int k a) (.int k b)=some f/\∀g,VR hp L β f g->VR hp L β v g:=by
 simp[zn]at h
theorem Uf{c:Bool}{x y v:AV}{d e:Value}(h:smm c x y=some v)(f:VR hp L β x d)(g:VR hp L β y e):
  ∃k a b,d =.int k a/\e =.int k b/\VR hp L β v (.int k (if c then(if a<b then b else a)else(if b<a then b else a))):=by
 simp[smm]at h
theorem J6{c:BinOp}{t:TypeId}{ox oy:Operand}{k d:IntKind}{a b:Int}{v:AV}(h:eG c (.int k a) (.int d b)=some v):
  ∃e,(do eqGuard c t ox oy (.int k a) (.int d b);binOp c t (.int k a) (.int d b):Sem Value).run P w =.ok e w/\VR hp L β v e:=by
 simp only[Sem.run_bind,zV c t ox oy (.int k a) (.int d b) (λ_ h=>by cases h) (λh=>by cases h),Result.andThen_ok];by_cases f:k=d
 ·subst f;cases c<;>simp only[eG,iq,xz,jf,if_true,Bool.false_eq_true,if_false]at h;case quo=>
   split at h
   ·cases h
   cases h;exact⟨_,by simp[binOp,Op.intDiv, *],.int _ _⟩
  case rem=>
   split at h
   ·cases h
   cases h;exact⟨_,by simp[binOp,Op.intDiv, *],.int _ _⟩
  case shl=>
   split at h
   ·cases h
   cases h;exact⟨_,by simp[binOp,Op.shift, *],.int _ _⟩
  case shr=>
   split at h
   ·cases h
   cases h;exact⟨_,by simp[binOp,Op.shift, *],.int _ _⟩
  all_goals cases h
  all_goals first
   |(refine⟨_,?_,.int _ _⟩;simp only[binOp,ne_eq,not_true_eq_false,if_false];rfl)
   |(refine⟨_,?_,.bool _⟩;simp only[binOp,ne_eq,not_true_eq_false,if_false];rfl)
 cases c<;>simp only[eG,iq,xz,f,if_true,Bool.false_eq_true,if_false]at h;case shl=>
  split at h
  ·cases h
  cases h;exact⟨_,by simp[binOp,Op.shift, *],.int _ _⟩
 case shr=>
  split at h
  ·cases h
  cases h;exact⟨_,by simp[binOp,Op.shift, *],.int _ _⟩
 all_goals cases h
theorem O?{c:BinOp}{t:TypeId}{e f:Operand}{a b:List UInt8}{v:AV}(h:eG c (.str a) (.str b)=some v):
  ∃g,(do eqGuard c t e f (.string ⟨a.toArray⟩) (.string ⟨b.toArray⟩);binOp c t (.string ⟨a.toArray⟩) (.string ⟨b.toArray⟩):Sem Value).run P w =.ok g w/\VR hp L β v g:=by
 simp only[Sem.run_bind,zV c t e f (.string ⟨a.toArray⟩) (.string ⟨b.toArray⟩) (λ_ h=>by cases h) (λh=>by cases h),Result.andThen_ok];cases c<;>simp only[eG,xu]at h;case add=>
  split at h
  ·rename_i i;cases h;refine⟨.string ⟨(a++b).toArray⟩,?_,.str _⟩;have d:¬((((⟨a.toArray⟩:ByteArray).size+(⟨b.toArray⟩:ByteArray).size:Nat):Int)>IntKind.i64.max):=by
    rw[lJ,lJ];have:IntKind.i64.max=9223372036854775807:=by decide
    omega
   simp only[binOp,Op.stringOp,if_neg d,Zr,Sem.run_pure]
  cases h
 all_goals cases h
 all_goals exact⟨_,by simp only[binOp,Op.stringOp,JA,Sem.run_pure],.bool _⟩
theorem abC{f:BinOp}{t:TypeId}{ox oy:Operand}{x y v:AV}{g i:Value}(h:eG f x y=some v)(d:VR hp L β x g)(e:VR hp L β y i):
  ∃c,(do eqGuard f t ox oy g i;binOp f t g i:Sem Value).run P w =.ok c w/\VR hp L β v c:=by
 have m:=h;unfold eG at h;split at h
 ·cases d;cases e;exact J6 m
 ·cases d;cases e;exact O? m
 ·rename_i k rs s b;split at h
  ·cases h
  rename_i l;split at h
  ·rename_i o;subst o;cases d with
   |jZ _ _ n p=>
   cases e;obtain⟨r,j,rfl⟩:=ZW h;refine J6 ?_;simp only[eG,l,if_true,Bool.false_eq_true,if_false];exact p _ _ _ j
  cases h
 obtain⟨k,a,b,u,rfl,rfl,j,h2⟩:=Qb h d e;obtain⟨c,r1,q⟩:=J6 (P:=P) (w:=w) (hp:=hp) (L:=L) (β:=β) (t:=t) (ox:=ox) (oy:=oy) j;exact⟨c,r1,h2 c q⟩
theorem aeQ{c:Bool}{t:TypeId}{d e:Operand}{a b:Bool}(f:P.underlying t=some .bool):
  (do eqGuard (if c then .neq else .eql) t d e (.bool a) (.bool b);binOp (if c then .neq else .eql) t (.bool a) (.bool b):Sem Value).run P w =.ok (.bool (if c then !(a==b)else a==b)) w:=by
 simp only[Sem.run_bind,zV _ t d e (.bool a) (.bool b) (λ_ h=>by cases h) (λh=>by cases h),Result.andThen_ok];cases c<;>simp[binOp,run_equal_bool w t a b f]
def NK.fits(k:NK)(d:TypeDesc):Prop:=
 match k,d with
 |.ptr,.pointer _ |.sl,.slice _ |.mp,.map _ _ |.fn,.func _ _ _=>True
 |_,_=>False
theorem aah{k:NK}{t:TypeId}{d:TypeDesc}(e:P.underlying t=some d)(f:k.fits d){x y:AV}{r:Bool}{b c:Value}(h:vj k x y=some r)(g:VR hp L β x b)(i:VR hp L β y c)(n:Nat):
  (Op.equalIn (n+1) t b c).run P w =.ok r w/\(∀cs,b ≠ .agg cs)/\b ≠ .nilIface/\(binOp .eql t b c=do pure (.bool (<-Op.equal t b c)))/\(binOp .neq t b c=do pure (.bool (!(<-Op.equal t b c)))):=by
 unfold vj at h;split at h<;>cases h<;>cases g<;>cases i<;>cases d<;>simp only[NK.fits]at f;all_goals refine⟨by simp[Op.equalIn,run_underlying e],by simp,by simp,?_,?_⟩
 all_goals simp only[binOp]
theorem ad3{k:NK}{b:Bool}{t:TypeId}{d:TypeDesc}{f g:Operand}(j:P.underlying t=some d)(l:k.fits d){x y:AV}{r:Bool}{c e:Value}(h:vj k x y=some r)(m:VR hp L β x c)(n:VR hp L β y e):
  (do eqGuard (if b then .neq else .eql) t f g c e;binOp (if b then .neq else .eql) t c e:Sem Value).run P w =.ok (.bool (if b then !r else r)) w:=by
 obtain⟨o,h2,p,q,s⟩:=aah (w:=w) j l h m n 9999;have i:(Op.equal t c e).run P w =.ok r w:=o;simp only[Sem.run_bind,zV _ t f g c e h2 p,Result.andThen_ok];cases b
 ·simp only[if_false,Bool.false_eq_true,q];simp[i]
 simp only[if_true,s];simp[i]
theorem JZ{k:SK}{x y:AV}{r:Bool}{l o:Value}{t:TypeId}(f:P.underlying t=some (match k with |.bool=>.bool |.int k=>.int k |.str=>.string))(h:fm k x y=some r)(e:VR hp L β x l)(g:VR hp L β y o)(n:Nat):
  (Op.equalIn (n+1) t l o).run P w =.ok r w:=by
 cases k with
 |bool=>
  cases e<;>try(simp[fm]at h;done)
  cases g<;>try(simp[fm]at h;done)
  simp[fm]at h;subst h;exact run_equalIn_bool w n t _ _ f
 |int k=>
  unfold fm at h;split at h<;>(try(cases ‹SK.int k=_›; done))<;>(try(cases h;done))
  ·rename_i q k1 a k2 b d;cases d;cases e;cases g;split at h
   ·rename_i j;obtain⟨rfl,rfl⟩:=j;cases h;exact run_equalIn_int w n t _ _ _ _ f
   cases h
  rename_i q k1 m i c lo hi s d;cases d;split at h
  ·rename_i j;subst j;split at h
   ·rename_i b hs;cases h;obtain⟨u,a,v,z,rfl,rfl,p,h2⟩:=Qb hs e g;cases e;simp[eG,iq,jf]at p;subst p;have:=h2 (.bool _) (.bool _);cases this;exact run_equalIn_int w n t _ _ _ _ f
   cases h
  cases h
 |str=>
  cases e<;>try(simp[fm]at h;done)
  cases g<;>try(simp[fm]at h;done)
  simp[fm]at h;subst h;rw[run_equalIn_string w n t _ _ f,JA,JA]
theorem Zf:∀ {k1 k2:List SK} {xs ys:List AV} {r:Bool},bo (k1++k2) xs ys=some r->
  ∃r1 c,bo k1 (xs.take k1.length) (ys.take k1.length)=some r1/\bo k2 (xs.drop k1.length) (ys.drop k1.length)=some c/\r=(r1&&c)
 |[],k2,xs,ys,r,h=>⟨true,r,by simp[bo],by simpa using h,by simp⟩
 |k::k1,k2,xs,ys,r,h=>by
  cases xs with
  |nil=>simp[bo]at h
  |cons x xs=>
   cases ys with
   |nil=>simp[bo]at h
   |cons y ys=>
    simp only[List.cons_append,bo]at h;split at h
    ·rename_i a b d h2;cases h;obtain⟨r1,c,e,f,rfl⟩:=Zf h2;exact⟨a&&r1,c,by simp[bo,d,e],by simpa using f,by simp[Bool.and_assoc]⟩
    cases h
theorem Jw:∀ {c:List SK} {xs ys:List AV} {r:Bool},bo c xs ys=some r->xs.length=c.length/\ys.length=c.length
 |[],[],[],r,h=>by simp
 |[],_::_,_,r,h=>by simp[bo]at h
 |[],[],_::_,r,h=>by simp[bo]at h
 |k::c,[],_,r,h=>by simp[bo]at h
 |k::c,_::_,[],r,h=>by simp[bo]at h
 |k::c,x::xs,y::ys,r,h=>by
  simp only[bo]at h;split at h
  ·rename_i a b d h2;have:=Jw h2;simp[this.1,this.2]
  cases h
theorem NC{t:TypeId}{n off:Nat}{b:Array Value}{c:List AV}(d:gx P t=some (some n))(e:RL hp L β c b.toList):∃us:Array Value,(part t b off).run P w =.ok (.agg us) w/\RL hp L β ((c.drop off).take n) us.toList:=by
 obtain⟨q1,q2⟩:=Z8 (w:=w) d;refine⟨b.extract off (off+n),?_,?_⟩
 ·simp only[part,Sem.run_bind,q1,Result.andThen_ok,if_true,q2,Sem.run_pure]
 have:=(e.drop off).take n;simpa[List.extract_eq_take_drop]using this
theorem NG{t:TypeId}{b:Nat}{d:Array Value}{e:List AV}{c:AV}(f:gx P t=some none)(g:RL hp L β e d.toList)(i:e[b]?=some c):∃v,(part t d b).run P w =.ok v w/\VR hp L β c v:=by
 obtain⟨v,j,h2⟩:=g.get i;refine⟨v,?_,h2⟩;have k:d[b]?=some v:=by simpa using j
 simp[part,Sem.run_bind,h! f,k]
theorem afu:∀(d:Nat) (t:TypeId) (o:List SK),mc P d t=some o->∀(n:Nat) (xs ys:List AV) (r:Bool),d<=n->bo o xs ys=some r->
  (∀k x y M N,o=[k]->xs=[x]->ys=[y]->VR hp L β x M->VR hp L β y N->gx P t=some none->(Op.equalIn n t M N).run P w =.ok r w)/\
  (∀(p q:Array Value),(∃m,gx P t=some m/\m.isSome)->RL hp L β xs p.toList->RL hp L β ys q.toList->(Op.equalIn n t (.agg p) (.agg q)).run P w =.ok r w):=by
 intro d;induction d with
 |zero=>intro t o h;simp[mc]at h
 |succ d ih=>
  intro t o s n xs ys r hn he;obtain⟨n,rfl⟩:∃m,n=m+1:=⟨n-1,by omega⟩;unfold mc at s;split at s;case h_1 hu=>
   cases s;refine⟨λk x y M N c h2 u v z _=>?_,λp q ⟨m,hm,hs⟩=>by simp[gx,hu]at hm;subst hm;cases hs⟩;cases c;subst h2;subst u;simp only[bo]at he;split at he
   ·rename_i a b A C;cases C;cases he;rw[Bool.and_true];exact JZ (k:=.bool) hu A v z n
   cases he
  case h_2 k0 hu=>
   cases s;refine⟨λk x y M N c h2 u v z _=>?_,λp q ⟨m,hm,hs⟩=>by simp[gx,hu]at hm;subst hm;cases hs⟩;cases c;subst h2;subst u;simp only[bo]at he;split at he
   ·rename_i a b A C;cases C;cases he;rw[Bool.and_true];exact JZ (k:=.int k0) hu A v z n
   cases he
  case h_3 hu=>
   cases s;refine⟨λk x y M N c h2 u v z _=>?_,λp q ⟨m,hm,hs⟩=>by simp[gx,hu]at hm;subst hm;cases hs⟩;cases c;subst h2;subst u;simp only[bo]at he;split at he
   ·rename_i a b A C;cases C;cases he;rw[Bool.and_true];exact JZ (k:=.str) hu A v z n
   cases he
  case h_4 fs hu=>
   split at s
   ·cases s
   rename_i al;refine⟨λk x y M N c h2 u v z e=>?_,λp q _ v z=>?_⟩
   ·simp[gx,hu]at e
   have S:P.fieldsOf t=fs:=by simp[Program.fieldsOf,hu]
   rw[run_equalIn_struct w n t p q (by rw[S];exact hu) (by simpa using al),S];have key:∀(l:List Field) (off:Nat) (o:List SK) (r:Bool),uE P (mc P d) off l=some o->bo o (xs.drop off) (ys.drop off)=some r->(Op.eqFields n p q l).run P w =.ok r w:=by
    intro l;induction l with
    |nil=>
     intro off o r c h2;simp[uE]at c;subst c;have hl:=Jw h2;cases U:xs.drop off with
     |cons a b=>rw[U]at hl;simp at hl
     |nil=>
      cases V:ys.drop off with
      |cons a b=>rw[V]at hl;simp at hl
      |nil=>rw[U,V]at h2;simp[bo]at h2;subst h2;simp[Op.eqFields]
    |cons f l an=>
     intro off o r c h2;simp only[uE]at c;split at c
     ·cases c
     rename_i W;cases j:mc P d f.type with
     |none=>simp[j]at c
     |some k1=>
      simp only[j]at c;split at c
      ·rename_i ad;cases i:uE P (mc P d) (off+k1.length) l with
       |none=>simp[i]at c
       |some k2=>
        simp only[i]at c;cases c;obtain⟨r1,r2,u,A,rfl⟩:=Zf h2;rw[List.drop_drop,List.drop_drop]at A;have C:=an _ _ _ i A;have B:f.offset=off:=by
         by_cases Q:f.offset=off
         ·exact Q
         exact absurd (Or.inr Q) W
        have G:f.name ≠ "_":=λQ=>W (Or.inl Q)
        obtain⟨Q,h7⟩:=ih f.type k1 j n ((xs.drop off).take k1.length) ((ys.drop off).take k1.length) r1 (by omega) u;have J:∃a b,(part f.type p f.offset).run P w =.ok a w/\(part f.type q f.offset).run P w =.ok b w/\(Op.equalIn n f.type a b).run P w =.ok r1 w:=by
         cases e:gx P f.type with
         |none=>
          exfalso;cases d with
          |zero=>simp[mc]at j
          |succ d=>
           unfold mc at j;unfold gx at e;cases g:P.underlying f.type with
           |none=>simp[g]at j
           |some R=>cases R<;>simp[g]at j e<;>rw[ad]at e<;>cases e
         |some m=>
          cases m with
          |none=>
           have K:∃k,k1=[k]:=by
            cases d with
            |zero=>simp[mc]at j
            |succ d=>
             unfold mc at j;unfold gx at e;cases g:P.underlying f.type with
             |none=>simp[g]at j
             |some R=>
              cases R<;>simp[g]at j e
              ·exact⟨_,j.symm⟩
              ·exact⟨_,j.symm⟩
              exact⟨_,j.symm⟩
           obtain⟨k,rfl⟩:=K;have ao:=Jw u;match af:(xs.drop off).take [k].length,aj:(ys.drop off).take [k].length,ao with
           |[a],[b],_=>
            have ar:xs[off]?=some a:=by
             have:((xs.drop off).take [k].length)[0]?=some a:=by rw[af];rfl
             simpa[List.getElem?_take,List.getElem?_drop]using this
            have av:ys[off]?=some b:=by
             have:((ys.drop off).take [k].length)[0]?=some b:=by rw[aj];rfl
             simpa[List.getElem?_take,List.getElem?_drop]using this
            obtain⟨va,p1,q1⟩:=NG (P:=P) (w:=w) e v ar;obtain⟨vb,p2,q2⟩:=NG (P:=P) (w:=w) e z av;rw[B];exact⟨va,vb,p1,p2,Q k a b va vb rfl af aj q1 q2 e⟩
          |some m=>
           have hm:m=k1.length:=by
            unfold gx at e;cases g:P.underlying f.type with
            |none=>simp[g]at e
            |some R=>
             cases R<;>simp[g]at e;all_goals (rw[ad]at e;cases e;rfl)
           subst hm;obtain⟨ua,p1,q1⟩:=NC (P:=P) (w:=w) (off:=off) e v;obtain⟨ub,p2,q2⟩:=NC (P:=P) (w:=w) (off:=off) e z;rw[B];exact⟨_,_,p1,p2,h7 ua ub ⟨_,e,rfl⟩ q1 q2⟩
        obtain⟨a,b,p1,p2,p3⟩:=J;simp only[Op.eqFields,G,ne_eq,not_false_eq_true,if_true,Sem.run_bind,p1,p2,p3,Result.andThen_ok];cases r1
        ·simp
        simpa using C
      cases c
   exact key fs.toList 0 o r s (by simpa using he)
  case h_5=>cases s
end
abbrev au:=@List.length_append
abbrev aL:=@List.getElem?_eq_some_iff
abbrev aZ:=@Option.bind_eq_some_iff
abbrev O:=@if_neg
abbrev aF:=@List.length_cons
abbrev aI:=@Bool.and_eq_true
abbrev bF:=@List.getElem?_eq_getElem
abbrev Z:=@if_pos
abbrev ay:=@Nat.le_refl
abbrev ag:=@Eq.trans
abbrev cQ:=@List.mem_of_getElem?
abbrev bz:=@List.length_nil
abbrev dH:=@List.take_of_length_le
abbrev ck:=@decide_eq_true_eq
abbrev bO:=@List.append_nil
abbrev fQ:=@List.eq_nil_of_length_eq_zero
abbrev bW:=@List.length_drop
abbrev dP:=@List.length_singleton
abbrev cA:=@List.getElem?_map
abbrev cB:=@not_false_eq_true
abbrev cJ:=@Option.some.injEq
abbrev bf:=@Nat.le_trans
abbrev cp:=@List.cons_append
abbrev cD:=@List.nil_append
abbrev gF:=@List.getD_eq_getElem?_getD
abbrev dT:=@Bool.false_eq_true
abbrev ew:=@List.getElem?_drop
abbrev gp:=@List.drop_eq_nil_of_le
abbrev ig:=@List.drop_eq_getElem_cons
abbrev cE:=@List.mem_cons
abbrev dx:=@decide_eq_false
abbrev ey:=@Result.andThen_ok
abbrev iZ:=@List.getElem?_append_right
abbrev da:=@List.map_cons
abbrev fi:=@List.all_eq_true
abbrev gq:=@Nat.lt_of_lt_of_le
abbrev jO:=@List.getElem?_eq_none_iff
abbrev jx:=@decide_eq_false_iff_not
abbrev eD:=@decide_eq_true
abbrev gr:=@List.append_assoc
abbrev dy:=@Sem.run_bind
abbrev jy:=@Option.map_eq_some_iff
abbrev gN:=@List.getElem?_take
abbrev i_:=@List.getElem?_append
abbrev gG:=@List.getElem_mem
abbrev fK:=@run_underlying
abbrev lF:=@List.getElem?_append_left
abbrev bH:=@if_false
abbrev kL:=@Int.eq_ofNat_of_zero_le
abbrev j_:=@List.getElem?_eq_none
abbrev eK:=@List.mem_map
abbrev kh:=@Bool.or_eq_false_iff
abbrev bt:=@if_true
abbrev fC:=@Sem.run_pure
abbrev j5:=@List.length_pos_iff
abbrev kJ:=@Nat.mul_le_mul_right
abbrev mu:=@List.length_eq_zero_iff
abbrev dm:=@false_and
abbrev lC:=@Bool.beq_eq_decide_eq
abbrev j6:=@List.mem_singleton
abbrev du:=@and_false
abbrev oN:=@Array.getElem?_eq_some_iff
abbrev iY:=@Bool.or_eq_true
abbrev lE:=@List.forall_mem_cons
abbrev j7:=@Bool.not_eq_true'
abbrev jN:=@List.not_mem_nil
abbrev fJ:=@Nat.zero_le
abbrev h_:=@List.map_nil
abbrev j8:=@Option.some.inj
abbrev fR:=@beq_iff_eq
abbrev kK:=@List.length_map
abbrev rk:=@Array.getElem?_eq_getElem
abbrev ie:=@Nat.add_mul
abbrev vD:=@List.take_succ_eq_append_getElem
abbrev pV:=@List.take_append_drop
abbrev pW:=@Bool.and_eq_false_iff
abbrev mv:=@List.length_take
abbrev vE:=@Array.getElem?_setIfInBounds_ne
abbrev tL:=@List.takeWhile_cons_of_pos
abbrev lB:=@List.drop_drop
abbrev mq:=@List.foldl_cons
abbrev mr:=@List.map_append
abbrev j4:=@Nat.zero_add
abbrev oL:=@List.flatten_cons
abbrev nC:=@List.mem_append
abbrev oM:=@List.take_length
abbrev vB:=@List.takeWhile_cons_of_neg
abbrev pU:=@Int.toNat_natCast
abbrev tM:=@Array.getElem?_modify
abbrev pY:=@decide_eq_decide
abbrev nE:=@List.all_cons
abbrev rn:=@List.size_toArray
abbrev rp:=@List.take_add_one
abbrev tQ:=@Array.length_toList
abbrev tR:=@List.drop_succ_cons
abbrev nF:=@Nat.lt_or_ge
abbrev vL:=@Nat.eq_of_beq_eq_true
abbrev Jv:=@List.findIdx?_eq_some_iff_getElem
abbrev zT:=@List.getElem?_zip_eq_some
abbrev tS:=@Decidable.not_not
abbrev oO:=@Nat.succ_mul
abbrev pZ:=@Nat.add_assoc
abbrev vM:=@Nat.testBit_two_pow
abbrev p5:=@Bool.true_and
abbrev tT:=@List.drop_length
abbrev rq:=@List.drop_zero
abbrev vN:=@Nat.lt_of_le_of_lt
abbrev vO:=@Bool.not_eq_false'
abbrev vP:=@Bool.true_eq_false
abbrev p6:=@Nat.add_zero
abbrev zU:=@Nat.le_of_ble_eq_true
abbrev tV:=@List.take_left'
abbrev tW:=@List.cons.injEq
abbrev vG:=@Bool.eq_false_iff
abbrev tN:=@Nat.testBit_or
abbrev pX:=@Nat.one_mul
abbrev zI:=@Array.toList_append
abbrev rm:=@Nat.sub_self
abbrev zJ:=@grownCap_le_maxLen
abbrev nD:=@cond_true
abbrev Jt:=@List.getElem?_cons_succ
abbrev lG:=@or_false
abbrev zK:=@List.findIdx?_cons
abbrev zL:=@Option.toList_some
abbrev Ju:=@Array.getElem?_extract
abbrev zM:=@Array.size_append
abbrev zN:=@not_true_eq_false
abbrev zO:=@List.ext_getElem?
abbrev zP:=@Nat.or_lt_two_pow
abbrev zQ:=@of_decide_eq_true
abbrev vH:=@List.take_zero
abbrev vI:=@heap_alloc_new
abbrev vJ:=@List.mem_range
abbrev vK:=@List.take_left
abbrev tO:=@decide_false
abbrev tP:=@Nat.pow_succ
abbrev zR:=@Option.map_some
abbrev lI:=@Ne.symm
abbrev zS:=@Bool.decide_and
abbrev vF:=@setRow_other
