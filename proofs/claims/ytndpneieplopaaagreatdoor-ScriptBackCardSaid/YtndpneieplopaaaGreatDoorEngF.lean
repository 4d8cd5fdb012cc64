/- The abstract interpreter's ground: maps, abstract values, how they stand to the model's values, the heap of owned objects. -/
import Derived.Orders
import Derived.LoopN
import Derived.Laws.AppendOwn
import GoSem.Dispatch
import Derived.Laws.StructEq
import Derived.Laws.Strings
import Derived.Laws.Pointers
set_option linter.unusedSimpArgs false
set_option linter.unusedVariables false
namespace Go.Eng
inductive PM(α:Type) where
 |leaf
 |node (l:PM α) (v:Option α) (r:PM α)
namespace PM
variable {α:Type}
def get:PM α->Nat->Option α
 |leaf,_=>none
 |node l v r,k=>cond (Nat.beq k 0) v (cond (Nat.beq (Nat.mod k 2) 1) (l.get (Nat.div k 2)) (r.get (Nat.sub (Nat.div k 2) 1)))
def AP:Nat->PM α->Nat->Option α->PM α
 |0,t,_,_=>t
 |f+1,leaf,k,x=>cond (Nat.beq k 0) (node leaf x leaf) (cond (Nat.beq (Nat.mod k 2) 1) (node (AP f leaf (Nat.div k 2) x) none leaf) (node leaf none (AP f leaf (Nat.sub (Nat.div k 2) 1) x)))
 |f+1,node l v r,k,x=>cond (Nat.beq k 0) (node l x r) (cond (Nat.beq (Nat.mod k 2) 1) (node (AP f l (Nat.div k 2) x) v r) (node l v (AP f r (Nat.sub (Nat.div k 2) 1) x)))
def put(t:PM α)(k:Nat)(x:α):PM α:=AP (Nat.succ k) t k (some x)
def del(t:PM α)(k:Nat):PM α:=AP (Nat.succ k) t k none
theorem Df:∀(f:Nat) (t:PM α) (k:Nat) (x:Option α) (j:Nat),k<f->(AP f t k x).get j=if j=k then x else t.get j:=by
 intro f;induction f with
 |zero=>intro t k x j h;omega
 |succ f ih=>
  intro t k x j h;have hb:∀a b:Nat,Nat.beq a b=decide (a=b):=λa b=>by
   cases hq:Nat.beq a b
   ·exact(decide_eq_false (Nat.ne_of_beq_eq_false hq)).symm
   ·exact(decide_eq_true (Nat.eq_of_beq_eq_true hq)).symm
  have hm:∀a:Nat,Nat.mod a 2=a%2:=λ_=>rfl
  have hd:∀a:Nat,Nat.div a 2=a/2:=λ_=>rfl
  have hs:∀a:Nat,Nat.sub a 1=a-1:=λ_=>rfl
  cases t with
  |leaf=>
   simp only[AP,get,hb,hm,hd,hs];by_cases hk:k=0
   ·subst hk;by_cases hj:j=0
    ·simp[get,hb,hj]
    ·simp[get,hb,hj]
   ·by_cases hp:k%2=1
    ·simp only[hk,hp,decide_true,decide_false,cond_true,cond_false,get,hb,hm,hd,hs];by_cases hj:j=0
     ·have:¬(j=k):=by omega
      simp[hj];omega
     ·by_cases hjp:j%2=1
      ·simp only[hj,hjp,decide_true,decide_false,cond_true,cond_false];rw[ih _ _ _ _ (by omega)];by_cases he:j=k
       ·subst he;simp
       ·have:¬(j/2=k/2):=by omega
        simp[he,this,get]
      ·have:¬(j=k):=by intro h;subst h;omega
       simp[hj,hjp,this]
    ·simp only[hk,hp,decide_false,cond_false,get,hb,hm,hd,hs];by_cases hj:j=0
     ·simp[hj];omega
     ·by_cases hjp:j%2=1
      ·have:¬(j=k):=by intro h;subst h;omega
       simp[hj,hjp,this]
      ·simp only[hj,hjp,decide_false,cond_false];rw[ih _ _ _ _ (by omega)];by_cases he:j=k
       ·subst he;simp
       ·have:¬(j/2-1=k/2-1):=by omega
        simp[he,this,get]
  |node l v r=>
   simp only[AP,get,hb,hm,hd,hs];by_cases hk:k=0
   ·subst hk;by_cases hj:j=0
    ·simp[get,hb,hj]
    ·simp[get,hb,hj,hm,hd,hs]
   ·by_cases hp:k%2=1
    ·simp only[hk,hp,decide_true,decide_false,cond_true,cond_false,get,hb,hm,hd,hs];by_cases hj:j=0
     ·simp[hj];omega
     ·by_cases hjp:j%2=1
      ·simp only[hj,hjp,decide_true,decide_false,cond_true,cond_false];rw[ih _ _ _ _ (by omega)];by_cases he:j=k
       ·subst he;simp
       ·have:¬(j/2=k/2):=by omega
        simp[he,this]
      ·have:¬(j=k):=by intro h;subst h;omega
       simp[hj,hjp,this]
    ·simp only[hk,hp,decide_false,cond_false,get,hb,hm,hd,hs];by_cases hj:j=0
     ·simp[hj];omega
     ·by_cases hjp:j%2=1
      ·have:¬(j=k):=by intro h;subst h;omega
       simp[hj,hjp,this]
      ·simp only[hj,hjp,decide_false,cond_false];rw[ih _ _ _ _ (by omega)];by_cases he:j=k
       ·subst he;simp
       ·have:¬(j/2-1=k/2-1):=by omega
        simp[he,this]
theorem jA(t:PM α)(k:Nat)(x:α)(j:Nat):(t.put k x).get j=if j=k then some x else t.get j:=Df _ t k _ j (Nat.lt_succ_self k)
theorem CI(t:PM α)(k:Nat)(j:Nat):(t.del k).get j=if j=k then none else t.get j:=Df _ t k _ j (Nat.lt_succ_self k)
theorem cq(t:PM α)(k:Nat)(x:α):(t.put k x).get k=some x:=by rw[jA,if_pos rfl]
theorem ch(t:PM α){k j:Nat}(x:α)(h:j≠k):(t.put k x).get j=t.get j:=by rw[jA,if_neg h]
theorem aqw(t:PM α)(k:Nat):(t.del k).get k=none:=by rw[CI,if_pos rfl]
theorem qK(t:PM α){k j:Nat}(h:j≠k):(t.del k).get j=t.get j:=by rw[CI,if_neg h]
end PM
def Dy(n:Nat):Nat:=(2126*(n/65536)*(n/65536)+7152*(n/256%256)*(n/256%256)+722*(n%256)*(n%256))/650250
def Z0(a b:Nat):Nat:=((if Dy a<Dy b then Dy b else Dy a)+50)*100/((if Dy b<Dy a then Dy b else Dy a)+50)
inductive AV where
 |undef
 |bool (b:Bool)
 |int (k:IntKind) (n:Int)
 |str (s:List UInt8)
 |agg (cs:List AV)
 |tup (vs:List AV)
 |ptr (id off:Nat)
 |dS
 |lz (cs:List AV)
 |fY (g off:Nat)
 |aa
 |esl
 |psl (xs:List (List AV))
 |rsl (id off len z:Nat)
 |jR (id:Nat)
 |dP
 |func (fn:Fn) (first captured:List AV)
 |dt
 |gf
 |iface (t:TypeId) (v:AV)
 |sint (k:IntKind) (m i:Nat) (c lo hi:Int)
 |sX (k:IntKind) (m r i j l:Nat) (lo hi:Int)
 |qJ (k:IntKind) (rs:List (BinOp×Int×Int))
 deriving Inhabited
def ao8(op:BinOp)(k:IntKind)(a b:Int):Option AV:=
 match op with
 |.add=>some (.int k (k.wrap (a+b)))
 |.sub=>some (.int k (k.wrap (a-b)))
 |.mul=>some (.int k (k.wrap (a*b)))
 |.quo=>if b=0 then none else some (.int k (k.wrap (a.tdiv b)))
 |.rem=>if b=0 then none else some (.int k (a.tmod b))
 |.and=>some (.int k (k.wrap (BitVec.ofInt k.bits a &&& BitVec.ofInt k.bits b).toNat))
 |.or=>some (.int k (k.wrap (BitVec.ofInt k.bits a ||| BitVec.ofInt k.bits b).toNat))
 |.xor=>some (.int k (k.wrap (BitVec.ofInt k.bits a ^^^ BitVec.ofInt k.bits b).toNat))
 |.andNot=>some (.int k (k.wrap (BitVec.ofInt k.bits a &&& ~~~BitVec.ofInt k.bits b).toNat))
 |.eql=>some (.bool (a==b))
 |.neq=>some (.bool (a != b))
 |.lss=>some (.bool (decide (a<b)))
 |.leq=>some (.bool (decide (a<=b)))
 |.gtr=>some (.bool (decide (b<a)))
 |.geq=>some (.bool (decide (b<=a)))
 |_=>none
def AV.one:AV->Bool
 |.undef |.agg _ |.tup _=>false
 |_=>true
def AV.cells:AV->List AV
 |.agg cs=>cs
 |v=>[v]
abbrev Bl:=Nat->Option (Nat×Nat)
inductive VR(hp:Array Obj)(L:Nat->Prop)(β:Bl):AV->Value->Prop where
 |undef (v:Value):VR hp L β .undef v
 |bool (b:Bool):VR hp L β (.bool b) (.bool b)
 |int (k:IntKind) (n:Int):VR hp L β (.int k n) (.int k n)
 |str (s:List UInt8):VR hp L β (.str s) (.string ⟨s.toArray⟩)
 |agg (cs:List AV) (vs:Array Value) (hl:cs.length=vs.size) (h:∀(i:Nat) (c:AV) (v:Value),cs[i]?=some c->vs[i]?=some v->VR hp L β c v):VR hp L β (.agg cs) (.agg vs)
 |tup (cs:List AV) (vs:Array Value) (hl:cs.length=vs.size) (h:∀(i:Nat) (c:AV) (v:Value),cs[i]?=some c->vs[i]?=some v->VR hp L β c v):VR hp L β (.tup cs) (.tuple vs)
 |ptr (id off b base:Nat) (h:β id=some (b,base)):VR hp L β (.ptr id off) (.pointer (some ⟨b,base+off,none⟩))
 |dS:VR hp L β .dS (.pointer none)
 |lz (cs:List AV) (b o:Nat) (cur:Array Value) (e:TypeId) (fz:Nat×Nat) (hb:hp[b]?=some (.cells cur e fz)) (hL:¬L b) (hs:o+cs.length<=cur.size)
   (h:∀(i:Nat) (c:AV) (v:Value),cs[i]?=some c->cur[o+i]?=some v->VR hp L β c v):VR hp L β (.lz cs) (.pointer (some ⟨b,o,none⟩))
 |fY (g off:Nat):VR hp L β (.fY g off) (.pointer (some ⟨g,off,none⟩))
 |aa:VR hp L β .aa (.slice none 0 0)
 |esl (a:Option Addr):VR hp L β .esl (.slice a 0 0)
 |jS (a:Option Addr) (cap:Nat):VR hp L β (.psl []) (.slice a 0 cap)
 |psl (xs:List (List AV)) (z b o cap:Nat) (cur:Array Value) (e:TypeId) (fz:Nat×Nat) (hb:hp[b]?=some (.cells cur e fz)) (hL:¬L b) (hs:o+xs.length*z<=cur.size)
   (hz:∀(i:Nat) (x:List AV),xs[i]?=some x->x.length=z) (hc:xs.length<=cap)
   (h:∀(i:Nat) (x:List AV) (j:Nat) (c:AV) (v:Value),xs[i]?=some x->x[j]?=some c->cur[o+i*z+j]?=some v->VR hp L β c v):VR hp L β (.psl xs) (.slice (some ⟨b,o,none⟩) xs.length cap)
 |rsl (id off len z b base cap:Nat) (cur:Array Value) (e:TypeId) (fz:Nat×Nat) (h:β id=some (b,base)) (hb:hp[b]?=some (.cells cur e fz)) (hc:len<=cap) (hm:cap<=maxLen) (hs:base+off+cap*z<=cur.size):
   VR hp L β (.rsl id off len z) (.slice (some ⟨b,base+off,none⟩) len cap)
 |nQ (id off z b base o:Nat) (h:β id=some (b,base)):VR hp L β (.rsl id off 0 z) (.slice (some ⟨b,o,none⟩) 0 0)
 |jR (id b base:Nat) (h:β id=some (b,base)):VR hp L β (.jR id) (.map (some b))
 |dP:VR hp L β .dP (.map none)
 |func (fn:Fn) (f1 c1:List AV) (f2 c2:Array Value) (hl1:f1.length=f2.size) (hl2:c1.length=c2.size) (h1:∀(i:Nat) (c:AV) (v:Value),f1[i]?=some c->f2[i]?=some v->VR hp L β c v)
   (h2:∀(i:Nat) (c:AV) (v:Value),c1[i]?=some c->c2[i]?=some v->VR hp L β c v):VR hp L β (.func fn f1 c1) (.func fn f2 c2)
 |dt:VR hp L β .dt .nilFunc
 |gf:VR hp L β .gf .nilIface
 |iface (t:TypeId) (a:AV) (v:Value) (h:VR hp L β a v):VR hp L β (.iface t a) (.iface t v)
 |sint (k:IntKind) (m i:Nat) (c lo hi:Int) (b base:Nat) (h:β i=some (b,base)) (h1:lo<=((base%m:Nat):Int)+c) (h2:((base%m:Nat):Int)+c<=hi):VR hp L β (.sint k m i c lo hi) (.int k (((base%m:Nat):Int)+c))
 |sX (k:IntKind) (m r i j l:Nat) (lo hi:Int) (b1 n1 b2 n2 b3:Nat) (h1:β i=some (b1,n1)) (h2:β j=some (b2,n2)) (h3:β l=some (b3,Z0 (n1%16777216) (n2%16777216))) (q1:n1<=4294967295) (q2:n2<=4294967295)
   (q3:lo<=((Z0 (n1%16777216) (n2%16777216):Nat):Int)) (q4:((Z0 (n1%16777216) (n2%16777216):Nat):Int)<=hi):VR hp L β (.sX k m r i j l lo hi) (.int k ((((if r=0 then n1 else n2)%m:Nat):Int)))
 |qJ (k:IntKind) (rs:List (BinOp×Int×Int)) (n:Int) (h:∀o d r,(o,d,r)∈rs->ao8 o k n d=some (.int k r)):VR hp L β (.qJ k rs) (.int k n)
structure vl(hp:Array Obj)(L:Nat->Prop)(β:Bl)(hp':Array Obj)(L':Nat->Prop)(β':Bl):Prop where
 ext:∀id x,β id=some x->β' id=some x
 du:∀b,b<hp.size->¬L b->¬L' b/\hp'[b]?=hp[b]?
 shape:∀(b:Nat) (cur:Array Value) (e:TypeId) (fz:Nat×Nat),hp[b]?=some (.cells cur e fz)->∃jB fz',hp'[b]?=some (.cells jB e fz')/\jB.size=cur.size
theorem gg{α:Type}{a:Array α}{i:Nat}{x:α}(h:a[i]?=some x):i<a.size:=(Array.getElem?_eq_some_iff.1 h).1
theorem VR.later{hp:Array Obj}{L:Nat->Prop}{β:Bl}{hp':Array Obj}{L':Nat->Prop}{β':Bl}(hl:vl hp L β hp' L' β'){a:AV}{v:Value}(h:VR hp L β a v):VR hp' L' β' a v:=by
 induction h with
 |undef v=>exact .undef v
 |bool b=>exact .bool b
 |int k n=>exact .int k n
 |str s=>exact .str s
 |agg cs vs hlen h ih=>exact .agg cs vs hlen ih
 |tup cs vs hlen h ih=>exact .tup cs vs hlen ih
 |ptr id off b base h=>exact .ptr id off b base (hl.ext _ _ h)
 |dS=>exact .dS
 |lz cs b o cur e fz hb hL hs h ih=>
  obtain⟨h1,h2⟩:=hl.du b (gg hb) hL;exact .lz cs b o cur e fz (h2.trans hb) h1 hs ih
 |fY g off=>exact .fY g off
 |aa=>exact .aa
 |esl a=>exact .esl a
 |jS a cap=>exact .jS a cap
 |psl xs z b o cap cur e fz hb hL hs hz hc h ih=>
  obtain⟨h1,h2⟩:=hl.du b (gg hb) hL;exact .psl xs z b o cap cur e fz (h2.trans hb) h1 hs hz hc ih
 |rsl id off len z b base cap cur e fz h hb hc hm hs=>
  obtain⟨jB,fz',h1,h2⟩:=hl.shape _ _ _ _ hb;exact .rsl id off len z b base cap jB e fz' (hl.ext _ _ h) h1 hc hm (by omega)
 |nQ id off z b base o h=>exact .nQ id off z b base o (hl.ext _ _ h)
 |jR id b base h=>exact .jR id b base (hl.ext _ _ h)
 |dP=>exact .dP
 |func fn f1 c1 f2 c2 hl1 hl2 h1 h2 ih1 ih2=>exact .func fn f1 c1 f2 c2 hl1 hl2 ih1 ih2
 |dt=>exact .dt
 |gf=>exact .gf
 |iface t a v h ih=>exact .iface t a v ih
 |sint k m i c lo hi b base h h1 h2=>exact .sint k m i c lo hi b base (hl.ext _ _ h) h1 h2
 |sX k m r i j l lo hi b1 n1 b2 n2 b3 h1 h2 h3 q1 q2 q3 q4=>exact .sX k m r i j l lo hi b1 n1 b2 n2 b3 (hl.ext _ _ h1) (hl.ext _ _ h2) (hl.ext _ _ h3) q1 q2 q3 q4
 |qJ k rs n h=>exact .qJ k rs n h
theorem VR.one{hp:Array Obj}{L:Nat->Prop}{β:Bl}{a:AV}{v:Value}(h:VR hp L β a v)(h1:a.one=true):v.oneCell'=true:=by
 cases h<;>first|rfl|simp[AV.one]at h1
inductive dx where
 |cells (cs:List AV)
 |map (kvs:List (AV×AV))
 |aqv (s:ByteArray) (pos:Nat)
 |iq (g:Nat) (cs:List AV)
 |typ (t:TypeId) (cs:List AV)
 deriving Inhabited
abbrev Hp:=PM dx
def live(β:Bl)(H:Hp)(b:Nat):Prop:=∃id o base,H.get id=some o/\β id=some (b,base)
theorem S0(t:Nat):(2*t+1)/2=t:=by omega
def fits(t n m:Nat):Prop:=n<=m/\(t%2=1->m=n)
def OR(hp:Array Obj)(L:Nat->Prop)(β:Bl)(b base:Nat):dx->Prop
 |.cells cs=>∃cur e,hp[b]?=some (.cells cur e (0,0))/\base+cs.length<=cur.size/\
   ∀(i:Nat) (c:AV) (v:Value),cs[i]?=some c->cur[base+i]?=some v->VR hp L β c v
 |.map kvs=>base=0/\∃es,hp[b]?=some (.map es kvs.length)/\es.size=kvs.length/\
   ∀(i:Nat) (kv:AV×AV) (e:MapEntry),kvs[i]?=some kv->es[i]?=some e->VR hp L β kv.1 e.key/\VR hp L β kv.2 e.val/\e.born=i
 |.aqv s pos=>base=0/\hp[b]?=some (.stringIter s pos)
 |.iq g cs=>base=0/\b=g/\∃cur e fz,hp[b]?=some (.cells cur e fz)/\cs.length=cur.size/\
   ∀(i:Nat) (c:AV) (v:Value),cs[i]?=some c->cur[i]?=some v->VR hp L β c v
 |.typ t cs=>base=0/\∃cur,hp[b]?=some (.cells cur (t/2) (0,0))/\fits t cs.length cur.size/\
   ∀(i:Nat) (c:AV) (v:Value),cs[i]?=some c->cur[i]?=some v->VR hp L β c v
structure bV(own:Nat->Prop)(β:Bl)(H:Hp)(nx:Nat)(w:World):Prop where
 fresh:∀id,nx<=id->β id=none
 lt:∀id b base,β id=some (b,base)->b<w.heap.size
 mf:∀b,own b->b<w.heap.size
 obj:∀id o,H.get id=some o->∃b base,β id=some (b,base)/\¬own b/\OR w.heap (λb=>own b\/live β H b) β b base o
 inj:∀id id' o o' b x y,H.get id=some o->H.get id'=some o'->β id=some (b,x)->β id'=some (b,y)->id=id'
structure AH where
 H:Hp
 nx:Nat
structure bJ(own:Nat->Prop)(β:Bl)(h:AH)(w:World)(β':Bl)(h':AH)(w':World):Prop where
 ext:∀id x,β id=some x->β' id=some x
 low:∀id,id<h.nx->β' id=β id
 up:h.nx<=h'.nx
 size:w.heap.size<=w'.heap.size
 du:∀b,b<w.heap.size->¬live β h.H b->w'.heap[b]?=w.heap[b]?
 live:∀b,live β' h'.H b->live β h.H b\/w.heap.size<=b
 shape:∀(b:Nat) (cur:Array Value) (e:TypeId) (fz:Nat×Nat),w.heap[b]?=some (.cells cur e fz)->∃jB fz',w'.heap[b]?=some (.cells jB e fz')/\jB.size=cur.size/\(Eng.live β' h'.H b->fz'=fz)
 os:w'.os=w.os
 tape:w'.tape=w.tape
 output:w'.output=w.output
theorem bJ.refl(own:Nat->Prop)(β:Bl)(h:AH)(w:World):bJ own β h w β h w:=
 ⟨λ_ _ h=>h,λ_ _=>rfl,Nat.le_refl _,Nat.le_refl _,λ_ _ _=>rfl,λ_ h=>.inl h,λ_ cur _ fz h=>⟨cur,fz,h,rfl,λ_=>rfl⟩,rfl,rfl,rfl⟩
theorem bJ.trans{own:Nat->Prop}{β₁ β₂ β₃:Bl}{h₁ h₂ h₃:AH}{w₁ w₂ w₃:World}(h:bJ own β₁ h₁ w₁ β₂ h₂ w₂)(k:bJ own β₂ h₂ w₂ β₃ h₃ w₃):bJ own β₁ h₁ w₁ β₃ h₃ w₃:=by
 refine⟨λid x hx=>k.ext _ _ (h.ext _ _ hx),λid hid=>(k.low id (Nat.lt_of_lt_of_le hid h.up)).trans (h.low id hid),Nat.le_trans h.up k.up,Nat.le_trans h.size k.size,λb hb hn=>?_,λb hb=>?_,λb cur e fz hc=>?_,k.os.trans h.os,k.tape.trans h.tape,k.output.trans h.output⟩
 ·rw[k.du b (Nat.lt_of_lt_of_le hb h.size) (λhl=>?_)]
  ·exact h.du b hb hn
  ·rcases h.live b hl with h1|h1
   ·exact hn h1
   ·omega
 ·rcases k.live b hb with h1|h1
  ·exact h.live b h1
  ·exact .inr (Nat.le_trans h.size h1)
 ·obtain⟨c1,f1,h1,h2,h5⟩:=h.shape _ _ _ _ hc;obtain⟨c2,f2,h3,h4,h6⟩:=k.shape _ _ _ _ h1;refine⟨c2,f2,h3,h4.trans h2,λhl=>(h6 hl).trans (h5 ((k.live b hl).elim id λhle=>?_))⟩;have:=gg h1;omega
theorem bJ.later{own:Nat->Prop}{β β':Bl}{h h':AH}{w w':World}(ht:bJ own β h w β' h' w'):
  vl w.heap (λb=>own b\/Eng.live β h.H b) β w'.heap (λb=>own b\/Eng.live β' h'.H b) β':=
 ⟨ht.ext,λb hb hn=>⟨λhl=>hl.elim (λh1=>hn (.inl h1)) (λh1=>(ht.live b h1).elim (λh2=>hn (.inr h2)) (λh2=>by omega)),ht.du b hb (λhl=>hn (.inr hl))⟩,λb cur e fz hc=>let⟨c,f,h1,h2,_⟩:=ht.shape b cur e fz hc;⟨c,f,h1,h2⟩⟩
end Go.Eng
noncomputable section
namespace Go.Eng
inductive Opd where
 |tmp (t:Nat)
 |const (v:AV)
 deriving Inhabited
def Tm:Type:=Nat->Option AV
def Tm.get(T:Tm)(t:Nat):Option AV:=T t
def Tm.put(T:Tm)(d:Nat)(v:AV):Tm:=λt=>cond (Nat.beq t d) (some v) (T t)
def Tm.leaf:Tm:=λ_=>none
theorem Tm.jA(T:Tm)(k:Nat)(x:AV)(j:Nat):(T.put k x).get j=if j=k then some x else T.get j:=by
 unfold Tm.put Tm.get;by_cases h:j=k
 ·subst h;simp
 ·have:Nat.beq j k=false:=by cases hq:Nat.beq j k with|false=>rfl|true=>exact absurd (Nat.eq_of_beq_eq_true hq) h
  simp[this,h]
theorem Tm.cq(T:Tm)(k:Nat)(x:AV):(T.put k x).get k=some x:=by rw[jA,if_pos rfl]
theorem Tm.ch(T:Tm){k j:Nat}(x:AV)(h:j≠k):(T.put k x).get j=T.get j:=by rw[jA,if_neg h]
theorem Tm.xJ(t:Nat):Tm.leaf.get t=none:=rfl
def Opd.ev(T:Tm):Opd->AV
 |.tmp t=>(T.get t).getD .undef
 |.const v=>v
inductive SK where
 |bool
 |int (k:IntKind)
 |str
 deriving DecidableEq
inductive NK where
 |ptr|sl|mp|fn
 deriving DecidableEq
inductive MK where
 |one (k:SK)
 |st (ks:List SK)
inductive XK where
 |s2r
 |r2s
 |b2s
 |xH
 |abC (k:MK)
 |CM (k:MK) (ok:Bool) (zero:AV)
 |abD (k:MK) (zero:AV)
 |agd
 |CJ
 |aiE
 |aiA (z bytes:Nat) (zero:List AV)
 |aiy (n z:Nat)
 |NU (t:TypeId) (zero:List AV)
 |ym (neg:Bool)
 |i2s
 |s2b
 |arH (t:TypeId)
inductive AOp where
 |mov (x:Opd)
 |pick (c a b:Opd)
 |new (zero:List AV)
 |box (x:Opd)
 |build (zero:List AV) (parts:List (Nat×Nat×Opd))
 |aqu (z len:Nat) (zero:List AV) (parts:List (Nat×Nat×Opd))
 |ld1 (a:Opd)
 |ldn (n:Nat) (a:Opd)
 |st (n:Nat) (a x:Opd)
 |CK (x:Opd)
 |arith (op:BinOp) (x y:Opd)
 |eqs (neg:Bool) (x y:Opd)
 |eqn (k:NK) (neg:Bool) (x y:Opd)
 |eqf (neg:Bool) (ks:List SK) (x y:Opd)
 |un (op:UnOp) (x:Opd)
 |Mw (k:IntKind) (x:Opd)
 |fld (off:Nat) (n:Option Nat) (x:Opd)
 |abw (off:Nat) (x:Opd)
 |abB (z:Nat) (x i:Opd)
 |uU (len z:Nat) (x i:Opd)
 |idx (len z:Nat) (n:Option Nat) (x i:Opd)
 |Xo (x i:Opd)
 |sl (z:Nat) (x:Opd) (lo hi mx:Option Opd)
 |slS (x:Opd) (lo hi:Option Opd)
 |len (x:Opd)
 |Xq (x:Opd)
 |Ur (x:Opd)
 |agc (n:Nat)
 |app (z bytes:Nat) (s x:Opd)
 |copy (z:Nat) (d s:Opd)
 |Ut (mx:Bool) (x y:Opd)
 |ext (x:Opd) (i:Nat)
 |mkf (fn:Fn) (first captured:List Opd)
 |Uu (z bytes:Nat) (zero:List AV) (l c:Opd)
 |call (f:Opd) (args:List Opd)
 |xo (k:XK) (args:List Opd)
 |stuck
 deriving Inhabited
structure aY where
 dst:Option Nat
 op:AOp
 guard:Option (Nat×Bool)
 deriving Inhabited
def uG:Value->Option AV
 |.bool b=>some (.bool b)
 |.int k n=>some (.int k n)
 |.string s=>some (.str s.data.toList)
 |.pointer none=>some .dS
 |.slice none 0 0=>some .aa
 |.map none=>some .dP
 |.nilFunc=>some .dt
 |.nilIface=>some .gf
 |_=>none
def ve:List Value->Option (List AV)
 |[]=>some []
 |v::vs=>match uG v,ve vs with
  |some a,some as=>some (a::as)
  |_,_=>none
def aaF:Value->Option AV
 |.agg cs=>(ve cs.toList).map .agg
 |v=>uG v
def dv:Operand->Option Opd
 |.tmp t=>some (.tmp t)
 |.const v=>(aaF v).map .const
 |.func f=>some (.const (.func (.func f) [] []))
 |.global g=>some (.const (.fY g 0))
def yH:List Operand->Option (List Opd)
 |[]=>some []
 |v::vs=>match dv v,yH vs with
  |some a,some as=>some (a::as)
  |_,_=>none
def tx:Option Operand->Option (Option Opd)
 |none=>some none
 |some x=>(dv x).map some
section
variable (P:Program)
def fN(t:TypeId):Option (List AV):=
 match P.info? t with
 |some i=>match i.zero with
  |some v=>ve v.cells.toList
  |none=>none
 |none=>none
def jI(t:TypeId):Option Nat:=(P.info? t).map (·.size)
def MW(t:TypeId):Option Nat:=(P.info? t).map (·.bytes)
def hY(t:TypeId):Option (Option Nat):=
 match P.underlying t with
 |some (.struct _)|some (.array _ _)=>(jI P t).map some
 |some _=>some none
 |none=>none
def sD(rec:TypeId->Option (List SK))(off:Nat):List Field->Option (List SK)
 |[]=>some []
 |f::fs=>
  if f.name = "_" \/ f.offset≠off then none else
  match rec f.type with
  |some ks=>if jI P f.type=some ks.length then(match sD rec (off+ks.length) fs with|some r=>some (ks++r)|none=>none)else none
  |none=>none
def n_:Nat->TypeId->Option (List SK)
 |0,_=>none
 |d+1,t=>
  match P.underlying t with
  |some .bool=>some [.bool]
  |some (.int k)=>some [.int k]
  |some .string=>some [.str]
  |some (.struct fs)=>if P.stoodInHeld t then none else sD P (n_ d) 0 fs.toList
  |_=>none
def mG(place:Nat->Option (Nat×Nat)):List (Nat×Operand)->Option (List (Nat×Nat×Opd))
 |[]=>some []
 |(i,x)::r=>match place i,dv x,mG place r with
  |some (o,s),some y,some l=>some ((o,s,y)::l)
  |_,_,_=>none
def j3(fs:Array Field)(i:Nat):Option (Nat×Nat):=
 match fs[i]? with
 |some f=>(jI P f.type).map λs=>(f.offset,s)
 |none=>none
def lp(n:Nat)(zero:List AV):List AV:=(List.replicate n zero).flatten
def cEq(neg:Bool)(t:TypeId)(a b:Opd):Option AOp:=
 match P.underlying t with
 |some .bool=>some (.eqs neg a b)
 |some (.int _)=>some (.arith (if neg then .neq else .eql) a b)
 |some .string=>some (.arith (if neg then .neq else .eql) a b)
 |some (.pointer _)=>some (.eqn .ptr neg a b)
 |some (.slice _)=>some (.eqn .sl neg a b)
 |some (.map _ _)=>some (.eqn .mp neg a b)
 |some (.func _ _ _)=>some (.eqn .fn neg a b)
 |some (.struct _)=>if P.eqGuardType P.depth t then none else(n_ P 50 t).map λks=>.eqf neg ks a b
 |_=>none
def af2(t:TypeId):Bool:=
 match P.underlying t with
 |some (.struct fs)=>match fs.toList with
  |[a,b]=>a.name == "addr" && b.name == "buf" && a.pkgPath == "strings"
  |_=>false
 |_=>false
def cOp:Op->Option AOp
 |.move x |.assign x=>(dv x).map .mov
 |.pick c a b=>do pure (.pick (<-dv c) (<-dv a) (<-dv b))
 |.alloc e=>if af2 P e then none else(fN P e).map .new
 |.box _ x=>(dv x).map .box
 |.build t parts=>do
  match P.underlying t with
  |some (.struct fs)=>if fs.all (λf=>(P.info? f.type).isSome)then pure (.build (<-fN P t) (<-mG (j3 P fs) parts.toList))else none
  |some (.array _ e)=>do
   let s <-jI P e
   pure (.build (<-fN P t) (<-mG (λi=>some (i*s,s)) parts.toList))
  |_=>none
 |.buildSlice t len parts=>do
  match P.underlying t with
  |some (.slice e)=>do
   let s <-jI P e
   if len*s>2^24||s==0 then none else
   let z <-fN P e
   if z.length≠s then none else
   pure (.aqu s len (lp len z) (<-mG (λi=>some (i*s,s)) parts.toList))
  |_=>none
 |.load t a=>do
  match <-hY P t with
  |some n=>pure (.ldn n (<-dv a))
  |none=>pure (.ld1 (<-dv a))
 |.store t a x=>do pure (.st (<-jI P t) (<-dv a) (<-dv x))
 |.nilCheck x=>(dv x).map .CK
 |.binOp op t x y _=>do
  let a <-dv x
  let b <-dv y
  match op with
  |.eql=>cEq P false t a b
  |.neq=>cEq P true t a b
  |op=>pure (.arith op a b)
 |.unOp op _ x=>(dv x).map (.un op)
 |.convert src dst x=>do
  match P.underlying src,P.underlying dst with
  |some _,some (.int k)=>pure (.Mw k (<-dv x))
  |_,_=>none
 |.fieldAddr s x f=>do
  match P.underlying s with
  |some (.struct fs)=>do
   let g <-fs[f]?
   if(<-jI P g.type)=0 then none else pure (.abw g.offset (<-dv x))
  |_=>none
 |.indexAddr t x i=>do
  match P.underlying t with
  |some (.slice e)=>pure (.abB (<-jI P e) (<-dv x) (<-dv i))
  |some (.array n e)=>pure (.uU n (<-jI P e) (<-dv x) (<-dv i))
  |_=>none
 |.index t x i=>do
  match P.underlying t with
  |some .string=>pure (.Xo (<-dv x) (<-dv i))
  |_=>none
 |.slice t x lo hi mx=>do
  match P.underlying t with
  |some (.slice e)=>do
   let s <-jI P e
   if s==0 then none else
   pure (.sl s (<-dv x) (<-tx lo) (<-tx hi) (<-tx mx))
  |some .string=>if mx.isSome then none else do pure (.slS (<-dv x) (<-tx lo) (<-tx hi))
  |_=>none
 |.extract x i=>do pure (.ext (<-dv x) i)
 |.makeSlice t l c=>do
  match P.underlying t with
  |some (.slice e)=>do
   let s <-jI P e
   let z <-fN P e
   if z.length≠s||s==0 then none else
   pure (.Uu s (<-MW P e) z (<-dv l) (<-dv c))
  |_=>none
 |.call c=>
  match c.callee with
  |.value f=>do pure (.call (<-dv f) (<-yH c.args.toList))
  |.builtin .len=>do
   match c.args.toList,c.argTypes.toList with
   |[x],[t]=>
    match P.underlying t with
    |some .string=>pure (.Xq (<-dv x))
    |some (.slice _)=>pure (.len (<-dv x))
    |_=>none
   |_,_=>none
  |.builtin .append=>do
   match c.args.toList,c.argTypes.toList with
   |[s,x],[t,u]=>
    if t≠u then none else
    match P.underlying t with
    |some (.slice e)=>do
     let z <-fN P e
     let sz <-jI P e
     if z.length≠sz||sz==0 then none else
     pure (.app sz (<-MW P e) (<-dv s) (<-dv x))
    |_=>none
   |_,_=>none
  |.builtin .copy=>do
   match c.args.toList,c.argTypes.toList with
   |[d,s],[t,u]=>
    if t≠u then none else
    match P.underlying t with
    |some (.slice e)=>do
     let sz <-jI P e
     if sz==0 then none else
     pure (.copy sz (<-dv d) (<-dv s))
    |_=>none
   |_,_=>none
  |.builtin .min=>do
   match c.args.toList with
   |[x,y]=>pure (.Ut false (<-dv x) (<-dv y))
   |_=>none
  |.builtin .max=>do
   match c.args.toList with
   |[x,y]=>pure (.Ut true (<-dv x) (<-dv y))
   |_=>none
  |_=>none
 |_=>none
end
section
variable (P:Program)
def cX:Op->Option AOp
 |.convert src dst x=>
  match P.underlying src,P.underlying dst with
  |some .string,some (.slice e)=>match P.underlying e,dv x with
   |some (.int .i32),some y=>some (.xo .s2r [y])
   |some (.int .u8),some y=>some (.xo .s2b [y])
   |_,_=>none
  |some (.slice e),some .string=>match P.underlying e,dv x with
   |some (.int .i32),some y=>some (.xo .r2s [y])
   |some (.int .u8),some y=>some (.xo .b2s [y])
   |_,_=>none
  |some (.int _),some .string=>match dv x with
   |some y=>some (.xo .i2s [y])
   |none=>none
  |_,_=>none
 |.makeInterface t x=>
  match P.underlying t with
  |some (.interface _)=>none
  |some _=>match dv x with
   |some y=>some (.xo (.arH t) [y])
   |none=>none
  |none=>none
 |_=>none
def cM:Op->Option AOp
 |.binOp .eql t x (.const .nilIface) _=>match P.underlying t,dv x with
  |some (.interface _),some y=>some (.xo (.ym false) [y])
  |_,_=>none
 |.binOp .neq t x (.const .nilIface) _=>match P.underlying t,dv x with
  |some (.interface _),some y=>some (.xo (.ym true) [y])
  |_,_=>none
 |.alloc e=>if af2 P e then(fN P e).map λz=>.xo (.NU e z) []else none
 |_=>none
def ud(op:Op):AOp:=
 match cOp P op with
 |some ao=>ao
 |none=>match cX P op with
  |some ao=>ao
  |none=>match cM P op with
   |some ao=>ao
   |none=>.stuck
end
def AH.ab(h:AH)(id:Nat):Option (List AV):=
 match h.H.get id with
 |some (.cells cs)=>some cs
 |_=>none
def AH.mL(h:AH)(g:Nat):Option (List AV):=
 match h.H.get g with
 |some (.iq g' cs)=>if g'=g then some cs else none
 |_=>none
def AH.pn(h:AH)(id:Nat):Option (List (AV×AV)):=
 match h.H.get id with
 |some (.map kvs)=>some kvs
 |_=>none
def AH.add(h:AH)(o:dx):AH:=⟨h.H.put h.nx o,h.nx+1⟩
def AH.set(h:AH)(id:Nat)(o:dx):AH:=⟨h.H.put id o,h.nx⟩
def AH.kill(h:AH)(id:Nat):AH:=⟨h.H.del id,h.nx⟩
def cut(cs:List AV)(off n:Nat):Option (List AV):=if off+n<=cs.length then some ((cs.drop off).take n)else none
def dj(cs:List AV):Bool:=cs.all AV.one
def fi(cs:List AV)(off:Nat)(new:List AV):Option (List AV):=
 if off+new.length<=cs.length then some (cs.take off++new++cs.drop (off+new.length))else none
def iU:AV->Bool
 |.agg _=>true
 |x=>x.one
def bW:List AV->List (Nat×Nat×AV)->Option (List AV)
 |cs,[]=>some cs
 |cs,(off,size,x)::r=>
  if iU x then
   let new:=x.cells
   if new.length=size then match fi cs off new with|some cs'=>bW cs' r|none=>none else none
  else none
def evP(T:Tm)(ps:List (Nat×Nat×Opd)):List (Nat×Nat×AV):=ps.map λq=>(q.1,q.2.1,q.2.2.ev T)
def fS(T:Tm):List AV->List (Nat×Nat×Opd)->Option (List AV)
 |cs,[]=>some cs
 |cs,(off,size,x)::r=>
  if iU (x.ev T)then
   let new:=(x.ev T).cells
   if new.length=size then match fi cs off new with|some cs'=>fS T cs' r|none=>none else none
  else none
theorem br(T:Tm):∀(ps:List (Nat×Nat×Opd)) (cs:List AV),fS T cs ps=bW cs (evP T ps)
 |[],cs=>rfl
 |(off,size,x)::r,cs=>by
  simp only[fS,evP,List.map_cons,bW];split
  ·split
   ·split
    ·exact br T r _
    ·rfl
   ·rfl
  ·rfl
def jQ(h:AH):AV->Option AV
 |.ptr id off=>match h.ab id with
  |some cs=>cs[off]?
  |none=>none
 |.lz cs=>cs[0]?
 |.fY g off=>match h.mL g with
  |some cs=>cs[off]?
  |none=>none
 |_=>none
def gm(h:AH)(n:Nat):AV->Option (List AV)
 |.ptr id off=>match h.ab id with
  |some cs=>cut cs off n
  |none=>none
 |.lz cs=>cut cs 0 n
 |.fY g off=>match h.mL g with
  |some cs=>cut cs off n
  |none=>none
 |_=>none
def vn(op:BinOp)(a b:List UInt8):Option AV:=
 match op with
 |.add=>if a.length+b.length<=9223372036854775807 then some (.str (a++b))else none
 |.eql=>some (.bool (a==b))
 |.neq=>some (.bool (!(a==b)))
 |.lss=>some (.bool (Op.bytesLess a b))
 |.leq=>some (.bool (Op.bytesLess a b||a==b))
 |.gtr=>some (.bool (!(Op.bytesLess a b||a==b)))
 |.geq=>some (.bool (!(Op.bytesLess a b)))
 |_=>none
def vK(op:BinOp)(k:IntKind)(a b:Int):Option AV:=
 match op with
 |.shl=>if b<0 then none else some (.int k (k.wrap (a*2^(min b.toNat k.bits))))
 |.shr=>if b<0 then none else some (.int k (a.fdiv (2^(min b.toNat k.bits))))
 |_=>none
def ey:BinOp->Bool
 |.shl |.shr=>true
 |_=>false
def W_(op:BinOp)(x y:AV):Option AV:=none
def DH(op:BinOp)(b:Int)(k:IntKind):List (BinOp×Int×Int)->Option AV
 |[]=>none
 |(o,d,r)::t=>if o=op/\d=b then some (.int k r)else DH op b k t
theorem wZ{op:BinOp}{b:Int}{k:IntKind}{v:AV}:∀ {rs:List (BinOp×Int×Int)},DH op b k rs=some v->∃r,(op,b,r)∈rs/\v =.int k r
 |[],h=>by simp[DH]at h
 |(o,d,r)::t,h=>by
  simp only[DH]at h;split at h
  ·rename_i hh;obtain⟨rfl,rfl⟩:=hh;cases h;exact⟨r,by simp,rfl⟩
  ·obtain⟨r',h1,h2⟩:=wZ h;exact⟨r',by simp[h1],h2⟩
def dy(op:BinOp):AV->AV->Option AV
 |.int k a,.int k' b=>if ey op then vK op k a b else if k=k' then ao8 op k a b else none
 |.str a,.str b=>vn op a b
 |.qJ k rs,.int k' b=>if ey op then none else if k=k' then DH op b k rs else none
 |x,y=>W_ op x y
def ah0:NK->AV->AV->Option Bool
 |.ptr,.dS,.dS |.sl,.aa,.aa |.mp,.dP,.dP |.fn,.dt,.dt=>some true
 |.ptr,.dS,.ptr _ _ |.ptr,.dS,.lz _ |.ptr,.ptr _ _,.dS |.ptr,.lz _,.dS=>some false
 |.sl,.rsl _ _ _ _,.aa |.sl,.aa,.rsl _ _ _ _=>some false
 |.sl,.psl (_::_),.aa=>some false
 |.mp,.jR _,.dP |.mp,.dP,.jR _=>some false
 |.fn,.func _ _ _,.dt |.fn,.dt,.func _ _ _=>some false
 |_,_,_=>none
def gn:SK->AV->AV->Option Bool
 |.bool,.bool a,.bool b=>some (a==b)
 |.int k,.int k1 a,.int k2 b=>if k1=k/\k2=k then some (a==b)else none
 |.int k,.sint k1 m i c lo hi,y=>if k1=k then(match W_ .eql (.sint k1 m i c lo hi) y with
  |some (.bool b)=>some b
  |_=>none)else none
 |.str,.str a,.str b=>some (a==b)
 |_,_,_=>none
def bA:List SK->List AV->List AV->Option Bool
 |[],[],[]=>some true
 |k::ks,x::xs,y::ys=>match gn k x y,bA ks xs ys with
  |some a,some b=>some (a&&b)
  |_,_=>none
 |_,_,_=>none
def aun(op:UnOp):AV->Option AV
 |.int k n=>match op with
  |.neg=>some (.int k (k.wrap (0-n)))
  |.xor=>some (.int k (k.wrap (BitVec.ofInt k.bits (if k.signed then -1 else k.max) ^^^ BitVec.ofInt k.bits n).toNat))
  |_=>none
 |.bool b=>match op with
  |.not=>some (.bool !b)
  |_=>none
 |_=>none
def J9(n:Option Nat)(cs:List AV)(off:Nat):Option AV:=
 match n with
 |some n=>(cut cs off n).map .agg
 |none=>cs[off]?
def oc:AV->Option Int
 |.int _ i=>some i
 |_=>none
def aix(n:Nat)(v:AV):Option Nat:=
 match oc v with
 |some i=>if 0<=i/\i<n then some i.toNat else none
 |none=>none
def abd(n:Nat):Option AV->Nat->Option Nat
 |none,d=>some d
 |some v,_=>match oc v with
  |some i=>if 0<=i/\i<=n then some i.toNat else none
  |none=>none
def fj:AV->Option Nat
 |.aa |.esl=>some 0
 |.psl xs=>some xs.length
 |.rsl _ _ len _=>some len
 |_=>none
def cj(h:AH)(z:Nat):AV->Option (List AV)
 |.aa |.esl=>some []
 |.psl xs=>if xs.all (λx=>x.length==z)then some xs.flatten else none
 |.rsl id off len z'=>if z'=z then(match h.ab id with|some cs=>cut cs off (len*z)|none=>none)else none
 |_=>none
def asl(z lo hi mx:Nat)(three:Bool):AV->Option AV
 |.aa=>if hi=0 then some .aa else none
 |.esl=>if hi=0 then some .esl else none
 |.psl xs=>if xs.all (λx=>x.length==z)then some (if three&&mx==lo then .esl else .psl ((xs.drop lo).take (hi-lo)))else none
 |.rsl id off _ z'=>if z'=z then some (if three&&mx==lo then .esl else .rsl id (off+lo*z) (hi-lo) z)else none
 |_=>none
def jh(n bytes:Nat):Bool:=n*bytes<=140737488355328&&n<=9223372036854775807
def RM(h:AH)(z bytes:Nat)(s x:AV):Option (AV×AH):=
 match cj h z x,fj x with
 |some new,some m=>
  if !dj new then none else
  match s with
  |.aa=>
   if m=0 then some (.aa,h)else
   if jh m bytes then some (.rsl h.nx 0 m z,h.add (.cells new))else none
  |.esl=>
   if m=0 then some (.esl,h)else
   if jh m bytes then some (.rsl h.nx 0 m z,h.add (.cells new))else none
  |.psl xs=>if m=0 then some (.psl xs,h)else none
  |.rsl id off len z'=>
   if z'=z&&jh (len+m) bytes then
    match h.ab id with
    |some cs=>match cut cs off (len*z)with
     |some old=>some (.rsl h.nx 0 (len+m) z,(h.kill id).add (.cells (old++new)))
     |none=>none
    |none=>none
   else none
  |_=>none
 |_,_=>none
def ae5(h:AH)(z:Nat)(d s:AV):Option (AV×AH):=
 match cj h z s,fj s,fj d with
 |some src,some m,some n=>
  let k:=min m n
  if k=0 then some (.int .i64 0,h)else
  if !dj (src.take (k*z))then none else
  match d with
  |.rsl id off _ z'=>
   if z'=z then
    match h.ab id with
    |some cs=>match fi cs off (src.take (k*z))with
     |some cs'=>some (.int .i64 k,h.set id (.cells cs'))
     |none=>none
    |none=>none
   else none
  |_=>none
 |_,_,_=>none
def n9(off:Nat):AV->Option AV
 |.ptr id o=>some (.ptr id (o+off))
 |.lz cs=>if off<=cs.length then some (.lz (cs.drop off))else none
 |.fY g o=>some (.fY g (o+off))
 |_=>none
def yF(z:Nat)(x i:AV):Option AV:=
 match x with
 |.psl xs=>match aix xs.length i with
  |some j=>match xs[j]? with
   |some c=>if c.length=z then some (.lz c)else none
   |none=>none
  |none=>none
 |.rsl id off len z'=>if z'=z then match aix len i with
  |some j=>some (.ptr id (off+j*z))
  |none=>none else none
 |_=>none
def lF(z:Nat)(x:AV)(lo hi mx:Option AV):Option AV:=
 match fj x with
 |some n=>match abd n mx n with
  |some m=>match abd m hi n with
   |some hb=>match abd hb lo 0 with
    |some l=>if mx.isSome&&hi.isNone then none else asl z l hb m mx.isSome x
    |none=>none
   |none=>none
  |none=>none
 |none=>none
def mC(s:List UInt8)(lo hi:Option AV):Option (List UInt8):=
 match abd s.length hi s.length with
 |some hb=>match abd hb lo 0 with
  |some l=>some ((s.drop l).take (hb-l))
  |none=>none
 |none=>none
abbrev cI:=Nat->List AV->AH->Option (AV×AH)
def aB(h:AH)(x:AV):Option (AV×AH):=
 some (x,h)
def aG(h:AH)(c:AV)(a:AV)(b:AV):Option (AV×AH):=
 match c with
  |.bool t=>some (if t then a else b,h)
  |_=>none
def cU(h:AH)(zero:List AV):Option (AV×AH):=
 some (.ptr h.nx 0,h.add (.cells zero))
def fh(h:AH)(x:AV):Option (AV×AH):=
 if iU x then some (.ptr h.nx 0,h.add (.cells x.cells))else none
def aO(h:AH)(zero:List AV)(parts:List (Nat×Nat×AV)):Option (AV×AH):=
 match bW zero parts with
  |some cs=>some (.agg cs,h)
  |none=>none
def aQ(h:AH)(z:Nat)(len:Nat)(zero:List AV)(parts:List (Nat×Nat×AV)):Option (AV×AH):=
 match bW zero parts with
  |some cs=>some (.rsl h.nx 0 len z,h.add (.cells cs))
  |none=>none
def eK(h:AH)(a:AV):Option (AV×AH):=
 match jQ h (a)with
  |some v=>some (v,h)
  |none=>none
def bj(h:AH)(n:Nat)(a:AV):Option (AV×AH):=
 match gm h n (a)with
  |some cs=>some (.agg cs,h)
  |none=>none
def kSt(h:AH)(n:Nat)(a:AV)(x:AV):Option (AV×AH):=
  if iU x then
   let new:=x.cells
   if new.length=n&&dj new then
    match a with
    |.ptr id off=>match h.ab id with
     |some cs=>match fi cs off new with
      |some cs'=>some (.undef,h.set id (.cells cs'))
      |none=>none
     |none=>none
    |_=>none
   else none
  else none
def aq(h:AH)(x:AV):Option (AV×AH):=
 match x with
  |.ptr id off=>some (.ptr id off,h)
  |.lz cs=>some (.lz cs,h)
  |.fY g o=>some (.fY g o,h)
  |.func (.func f) a b=>some (.func (.func f) a b,h)
  |_=>none
def ae(h:AH)(op:BinOp)(x:AV)(y:AV):Option (AV×AH):=
 match dy op x (y)with
  |some v=>some (v,h)
  |none=>none
def arJ(h:AH)(neg:Bool)(x:AV)(y:AV):Option (AV×AH):=
 match x,y with
  |.bool a,.bool b=>some (.bool (if neg then !(a==b)else a==b),h)
  |_,_=>none
def NF(h:AH)(k:NK)(neg:Bool)(x:AV)(y:AV):Option (AV×AH):=
 match ah0 k x (y)with
  |some b=>some (.bool (if neg then !b else b),h)
  |none=>none
def pb(h:AH)(neg:Bool)(ks:List SK)(x:AV)(y:AV):Option (AV×AH):=
 match x,y with
  |.agg xs,.agg ys=>match bA ks xs ys with
   |some b=>some (.bool (if neg then !b else b),h)
   |none=>none
  |_,_=>none
def kUn(h:AH)(op:UnOp)(x:AV):Option (AV×AH):=
 match aun op x with
  |some v=>some (v,h)
  |none=>none
def cB(h:AH)(k:IntKind)(x:AV):Option (AV×AH):=
 match x with
  |.int _ n=>some (.int k (k.wrap n),h)
  |_=>none
def Nf(h:AH)(off:Nat)(n:Option Nat)(x:AV):Option (AV×AH):=
 match x with
  |.agg cs=>match J9 n cs off with
   |some v=>some (v,h)
   |none=>none
  |_=>none
def ah(h:AH)(off:Nat)(x:AV):Option (AV×AH):=
 match n9 off x with
  |some v=>some (v,h)
  |none=>none
def aF(h:AH)(z:Nat)(x:AV)(i:AV):Option (AV×AH):=
 match yF z x (i)with
  |some v=>some (v,h)
  |none=>none
def fv(h:AH)(len:Nat)(z:Nat)(x:AV)(i:AV):Option (AV×AH):=
 match aix len (i)with
  |some j=>match n9 (j*z) x with
   |some v=>some (v,h)
   |none=>none
  |none=>none
def Nb(h:AH)(len:Nat)(z:Nat)(n:Option Nat)(x:AV)(i:AV):Option (AV×AH):=
 match aix len (i),x with
  |some j,.agg cs=>match J9 n cs (j*z)with
   |some v=>some (v,h)
   |none=>none
  |_,_=>none
def dH(h:AH)(x:AV)(i:AV):Option (AV×AH):=
 match x with
  |.str s=>match aix s.length (i)with
   |some j=>match s[j]? with
    |some c=>some (.int .u8 c.toNat,h)
    |none=>none
   |none=>none
  |_=>none
def kSl(h:AH)(z:Nat)(x:AV)(lo:Option AV)(hi:Option AV)(mx:Option AV):Option (AV×AH):=
 match lF z x (lo) (hi) (mx)with
  |some v=>some (v,h)
  |none=>none
def gI(h:AH)(x:AV)(lo:Option AV)(hi:Option AV):Option (AV×AH):=
 match x with
  |.str s=>match mC s (lo) (hi)with
   |some r=>some (.str r,h)
   |none=>none
  |_=>none
def bh(h:AH)(x:AV):Option (AV×AH):=
 match fj x with
  |some n=>some (.int .i64 n,h)
  |none=>none
def cL(h:AH)(x:AV):Option (AV×AH):=
 match x with
  |.str s=>some (.int .i64 s.length,h)
  |_=>none
def sT(h:AH)(x:AV):Option (AV×AH):=
 match x with
  |.str s=>some (.str s,h)
  |_=>none
def zy(h:AH)(n:Nat):Option (AV×AH):=
 some (.int .i64 n,h)
def dK(h:AH)(z:Nat)(bytes:Nat)(s:AV)(x:AV):Option (AV×AH):=
 RM h z bytes (s) x
def yq(h:AH)(z:Nat)(d:AV)(s:AV):Option (AV×AH):=
 ae5 h z (d) (s)
def smm(mx:Bool)(x y:AV):Option AV:=none
def iy(h:AH)(mx:Bool)(x:AV)(y:AV):Option (AV×AH):=
 match x,y with
  |.int k a,.int _ b=>some (.int k (if mx then(if a<b then b else a)else(if b<a then b else a)),h)
  |x,y=>match smm mx x y with
   |some v=>some (v,h)
   |none=>none
def cm(h:AH)(x:AV)(i:Nat):Option (AV×AH):=
 match x with
  |.tup vs=>match vs[i]? with
   |some v=>some (v,h)
   |none=>none
  |_=>none
def Nn(h:AH)(fn:Fn)(first:List AV)(captured:List AV):Option (AV×AH):=
 some (.func fn (first) (captured),h)
def nZ(h:AH)(z:Nat)(bytes:Nat)(zero:List AV)(l:AV)(c:AV):Option (AV×AH):=
 match l,c with
  |.int .i64 n,.int .i64 m=>
   if 0<=n/\n<=m/\m<=9223372036854775807 then
    if m.toNat*bytes<=140737488355328 then some (.rsl h.nx 0 n.toNat z,h.add (.cells (lp m.toNat zero)))else none
   else none
  |_,_=>none
def wN(cl:cI)(h:AH)(f:AV)(args:List AV):Option (AV×AH):=
 match f with
  |.func (.func g) first captured=>cl g (first++args++captured) h
  |_=>none
def asc(s:List UInt8):Bool:=s.all (λb=>Nat.blt b.toNat 128)
def wV:List AV->Option (List UInt8)
 |[]=>some []
 |.int .i32 n::r=>if 0<=n/\n<128 then(match wV r with|some l=>some (UInt8.ofNat n.toNat::l)|none=>none)else none
 |_=>none
def lJ:List AV->Option (List UInt8)
 |[]=>some []
 |.int .u8 n::r=>(match lJ r with|some l=>some (UInt8.ofNat n.toNat::l)|none=>none)
 |_=>none
def apu:List UInt8->List AV
 |[]=>[]
 |b::r=>.int .i32 b.toNat::apu r
def M1:Nat->List UInt8->List Int
 |0,_=>[]
 |_+1,[]=>[]
 |n+1,b::l=>((Utf8.decode ⟨(b::l).toArray⟩ 0).1:Int)::M1 n ((b::l).drop (Utf8.decode ⟨(b::l).toArray⟩ 0).2)
def aD(l:List UInt8):List Int:=M1 l.length l
def bH(n:Int):AV:=.int .i32 n
def xq:List AV->Option (List Int)
 |[]=>some []
 |.int .i32 n::r=>(match xq r with|some l=>some (n::l)|none=>none)
 |_=>none
def oe(n:Int):List UInt8:=(Utf8.encode n).data.toList
def cC(ns:List Int):List UInt8:=ns.flatMap oe
def ael:SK->AV->Bool
 |.bool,.bool _=>true
 |.int k,.int k' _=>decide (k'=k)
 |.str,.str _=>true
 |_,_=>false
def Yo:List SK->List AV->Bool
 |[],[]=>true
 |k::ks,a::as=>ael k a&&Yo ks as
 |_,_=>false
def JX:MK->AV->Bool
 |.one k,a=>ael k a
 |.st ks,.agg cs=>Yo ks cs
 |.st _,_=>false
def aew:AV->AV->Bool
 |.bool a,.bool b=>a==b
 |.int _ a,.int _ b=>a==b
 |.str a,.str b=>a==b
 |_,_=>false
def aeJ:List AV->List AV->Bool
 |[],[]=>true
 |a::as,b::bs=>aew a b&&aeJ as bs
 |_,_=>false
def keq:AV->AV->Bool
 |.agg as,.agg bs=>aeJ as bs
 |a,b=>aew a b
def Es(k:MK)(key:AV):List (AV×AV)->Nat->Option (Option (Nat×AV))
 |[],_=>some none
 |e::es,i=>if JX k e.1 then(if keq key e.1 then some (some (i,e.2))else Es k key es (i+1))else none
def D5(h:AH):AV->Option (List (AV×AV))
 |.dP=>some []
 |.jR id=>h.pn id
 |_=>none
def kX(h:AH):XK->List AV->Option (AV×AH)
 |.s2r,[.str s]=>if asc s&&Nat.ble s.length 1000000 then some (.rsl h.nx 0 s.length 1,h.add (.cells (apu s)))
  else if Nat.ble s.length 1000000 then some (.rsl h.nx 0 (aD s).length 1,h.add (.cells ((aD s).map bH)))else none
 |.r2s,[x]=>match cj h 1 x,fj x with
  |some cs,some _=>match wV cs with
   |some s=>some (.str s,h)
   |none=>match xq cs with
    |some ns=>some (.str (cC ns),h)
    |none=>none
  |_,_=>none
 |.i2s,[.int _ n]=>some (.str (oe n),h)
 |.s2b,[.str s]=>if Nat.ble s.length 1000000 then some (.psl (s.map λc=>[.int .u8 c.toNat]),h)else none
 |.arH t,[x]=>some (.iface t x,h)
 |.b2s,[x]=>match cj h 1 x,fj x with
  |some cs,some _=>match lJ cs with
   |some s=>some (.str s,h)
   |none=>none
  |_,_=>none
 |.xH,[]=>some (.jR h.nx,h.add (.map []))
 |.ym neg,[.gf]=>some (.bool (!neg),h)
 |.ym neg,[.iface _ _]=>some (.bool neg,h)
 |.NU t z,[]=>some (.ptr h.nx 0,h.add (.typ (2*t+1) z))
 |.xH,[.int _ _]=>some (.jR h.nx,h.add (.map []))
 |.abC k,[.jR id,key,x]=>if JX k key then(match h.pn id with
  |some kvs=>match Es k key kvs 0 with
   |some (some r)=>some (.undef,h.set id (.map (kvs.set r.1 (key,x))))
   |some none=>some (.undef,h.set id (.map (kvs++[(key,x)])))
   |none=>none
  |none=>none)else none
 |.CM k ok zero,[m,key]=>if JX k key then(match D5 h m with
  |some kvs=>match Es k key kvs 0 with
   |some (some r)=>some (if ok then .tup [r.2,.bool true]else r.2,h)
   |some none=>some (if ok then .tup [zero,.bool false]else zero,h)
   |none=>none
  |none=>none)else none
 |.abD k zero,[.jR id,key]=>if JX k key then(match h.pn id with
  |some kvs=>match Es k key kvs 0 with
   |some (some r)=>some (.tup [r.2,.int .i64 r.1],h)
   |some none=>some (.tup [zero,.int .i64 kvs.length],h.set id (.map (kvs++[(key,zero)])))
   |none=>none
  |none=>none)else none
 |.agd,[.jR id,.int _ n,x]=>match h.pn id with
  |some kvs=>if 0<=n then(match kvs[n.toNat]? with
   |some e=>some (.undef,h.set id (.map (kvs.set n.toNat (e.1,x))))
   |none=>none)else none
  |none=>none
 |.CJ,[m]=>match D5 h m with
  |some kvs=>some (.int .i64 kvs.length,h)
  |none=>none
 |.aiE,[.aa]=>some (.int .i64 0,h)
 |.aiA z bytes zero,[.aa,.int .i64 n]=>if 0<n then(if jh n.toNat bytes then some (.rsl h.nx 0 n.toNat z,h.add (.cells (lp n.toNat zero)))else none)else none
 |.aiy n z,[.ptr id off]=>match h.ab id with
  |some cs=>if Nat.ble (off+n*z) cs.length&&Nat.ble n 4611686018427387904 then some (.rsl id off n z,h)else none
  |none=>none
 |_,_=>none
def aop(cl:cI)(T:Tm)(h:AH):AOp->Option (AV×AH)
 |.mov x=>aB h (x.ev T)
 |.pick c a b=>aG h (c.ev T) (a.ev T) (b.ev T)
 |.new zero=>cU h zero
 |.box x=>fh h (x.ev T)
 |.build zero parts=>aO h zero (evP T parts)
 |.aqu z len zero parts=>aQ h z len zero (evP T parts)
 |.ld1 a=>eK h (a.ev T)
 |.ldn n a=>bj h n (a.ev T)
 |.st n a x=>kSt h n (a.ev T) (x.ev T)
 |.CK x=>aq h (x.ev T)
 |.arith op x y=>ae h op (x.ev T) (y.ev T)
 |.eqs neg x y=>arJ h neg (x.ev T) (y.ev T)
 |.eqn k neg x y=>NF h k neg (x.ev T) (y.ev T)
 |.eqf neg ks x y=>pb h neg ks (x.ev T) (y.ev T)
 |.un op x=>kUn h op (x.ev T)
 |.Mw k x=>cB h k (x.ev T)
 |.fld off n x=>Nf h off n (x.ev T)
 |.abw off x=>ah h off (x.ev T)
 |.abB z x i=>aF h z (x.ev T) (i.ev T)
 |.uU len z x i=>fv h len z (x.ev T) (i.ev T)
 |.idx len z n x i=>Nb h len z n (x.ev T) (i.ev T)
 |.Xo x i=>dH h (x.ev T) (i.ev T)
 |.sl z x lo hi mx=>kSl h z (x.ev T) (lo.map (·.ev T)) (hi.map (·.ev T)) (mx.map (·.ev T))
 |.slS x lo hi=>gI h (x.ev T) (lo.map (·.ev T)) (hi.map (·.ev T))
 |.len x=>bh h (x.ev T)
 |.Xq x=>cL h (x.ev T)
 |.Ur x=>sT h (x.ev T)
 |.agc n=>zy h n
 |.app z bytes s x=>dK h z bytes (s.ev T) (x.ev T)
 |.copy z d s=>yq h z (d.ev T) (s.ev T)
 |.Ut mx x y=>iy h mx (x.ev T) (y.ev T)
 |.ext x i=>cm h (x.ev T) i
 |.mkf fn first captured=>Nn h fn (first.map (·.ev T)) (captured.map (·.ev T))
 |.Uu z bytes zero l c=>nZ h z bytes zero (l.ev T) (c.ev T)
 |.call f args=>wN cl h (f.ev T) (args.map (·.ev T))
 |.xo k args=>kX h k (args.map (·.ev T))
 |.stuck=>none
abbrev LL(own:Nat->Prop)(β:Bl)(H:Hp):Nat->Prop:=λb=>own b\/live β H b
theorem OR.later{hp:Array Obj}{L:Nat->Prop}{β:Bl}{hp':Array Obj}{L':Nat->Prop}{β':Bl}(hl:vl hp L β hp' L' β'){b base:Nat}{o:dx}(hb:hp'[b]?=hp[b]?)(h:OR hp L β b base o):OR hp' L' β' b base o:=by
 cases o with
 |cells cs=>
  obtain⟨cur,e,h1,h2,h4⟩:=h;exact⟨cur,e,hb.trans h1,h2,λi c v hc hv=>(h4 i c v hc hv).later hl⟩
 |map kvs=>
  obtain⟨h0,es,h1,h2,h3⟩:=h;exact⟨h0,es,hb.trans h1,h2,λi kv e hk he=>by
   obtain⟨a1,a2,a3⟩:=h3 i kv e hk he;exact⟨a1.later hl,a2.later hl,a3⟩⟩
 |aqv s pos=>exact⟨h.1,hb.trans h.2⟩
 |typ t cs=>
  obtain⟨h0,cur,h1,h2,h4⟩:=h;exact⟨h0,cur,hb.trans h1,h2,λi c v hc hv=>(h4 i c v hc hv).later hl⟩
 |iq g cs=>
  obtain⟨h0,h5,cur,e,fz,h1,h2,h4⟩:=h;exact⟨h0,h5,cur,e,fz,hb.trans h1,h2,λi c v hc hv=>(h4 i c v hc hv).later hl⟩
section
variable {own:Nat->Prop} {β:Bl} {H:Hp} {nx:Nat} {w w':World}
theorem bV.dead(hs:bV own β H nx w){id:Nat}(h:nx<=id):H.get id=none:=by
 cases hg:H.get id with
 |none=>rfl
 |some o=>obtain⟨b,base,hb,_⟩:=hs.obj id o hg;rw[hs.fresh id h]at hb;cases hb
theorem bV.same(hs:bV own β H nx w)(hh:w'.heap=w.heap):bV own β H nx w':=by
 refine⟨hs.fresh,λid b base h=>by rw[hh];exact hs.lt id b base h,λb h=>by rw[hh];exact hs.mf b h,λid o h=>?_,hs.inj⟩;obtain⟨b,base,h1,h2,h3⟩:=hs.obj id o h;exact⟨b,base,h1,h2,by rw[hh];exact h3⟩
theorem bJ.same(hh:w'.heap=w.heap)(h1:w'.os=w.os)(h2:w'.tape=w.tape)(h3:w'.output=w.output):bJ own β ⟨H,nx⟩ w β ⟨H,nx⟩ w':=
 ⟨λ_ _ h=>h,λ_ _=>rfl,Nat.le_refl _,by rw[hh];exact Nat.le_refl _,λ_ _ _=>by rw[hh],λ_ h=>.inl h,λ_ cur _ fz h=>⟨cur,fz,by rw[hh];exact h,rfl,λ_=>rfl⟩,h1,h2,h3⟩
def upd(β:Bl)(id b base:Nat):Bl:=λj=>if j=id then some (b,base)else β j
theorem dz(β:Bl)(id b base:Nat):upd β id b base id=some (b,base):=by simp[upd]
theorem fK(β:Bl){id j:Nat}(b base:Nat)(h:j≠id):upd β id b base j=β j:=by simp[upd,h]
theorem bV.newObj(hs:bV own β H nx w)(r:Nat)(mE:β r=none)(o:dx)(ob:Obj)(hh:w'.heap=w.heap.push ob)(h1:w'.os=w.os)(h2:w'.tape=w.tape)(h3:w'.output=w.output)
  (ho:∀hp' L' β',vl w.heap (LL own β H) β hp' L' β'->hp'[w.heap.size]?=some ob->OR hp' L' β' w.heap.size 0 o):
  bV own (upd β r w.heap.size 0) (H.put r o) (max nx (r+1)) w'/\(nx<=r->bJ own β ⟨H,nx⟩ w (upd β r w.heap.size 0) ⟨H.put r o,max nx (r+1)⟩ w')/\bJ own β ⟨H,0⟩ w (upd β r w.heap.size 0) ⟨H.put r o,0⟩ w':=by
 have hsz:w'.heap.size=w.heap.size+1:=by rw[hh];simp
 have hold:∀b,b<w.heap.size->w'.heap[b]?=w.heap[b]?:=λb hb=>by rw[hh,Array.getElem?_push,if_neg (by omega)]
 have r_:∀b,live (upd β r w.heap.size 0) (H.put r o) b->live β H b\/w.heap.size<=b:=by
  rintro b ⟨id,o',base,hg,hb⟩;by_cases hid:id=r
  ·subst hid;rw[dz]at hb;cases hb;exact .inr (Nat.le_refl _)
  ·rw[fK _ _ _ hid]at hb;rw[PM.ch _ _ hid]at hg;exact .inl ⟨id,o',base,hg,hb⟩
 have ht0:bJ own β ⟨H,0⟩ w (upd β r w.heap.size 0) ⟨H.put r o,0⟩ w':=by
  refine⟨λid x hx=>?_,λid hid=>absurd hid (Nat.not_lt_zero _),Nat.le_refl _,by omega,λb hb _=>hold b hb,r_,λb cur e fz hc=>⟨cur,fz,by rw[hold b (gg hc)];exact hc,rfl,λ_=>rfl⟩,h1,h2,h3⟩;by_cases hid:id=r
  ·subst hid;rw[mE]at hx;cases hx
  ·rw[fK _ _ _ hid];exact hx
 have ht:nx<=r->bJ own β ⟨H,nx⟩ w (upd β r w.heap.size 0) ⟨H.put r o,max nx (r+1)⟩ w':=λhr=>
  ⟨ht0.ext,λid hid=>fK _ _ _ (by simp only at hid;omega),by simp only;omega,ht0.size,ht0.du,ht0.live,ht0.shape,h1,h2,h3⟩
 refine⟨⟨λid hid=>?_,λid b base hb=>?_,λb hb=>by have:=hs.mf b hb;omega,λid o' hg=>?_,λid id' o1 o2 b x y hg hg' hb hb'=>?_⟩,ht,ht0⟩
 ·rw[fK _ _ _ (by omega)];exact hs.fresh id (by omega)
 ·by_cases hid:id=r
  ·subst hid;rw[dz]at hb;cases hb;omega
  ·rw[fK _ _ _ hid]at hb;have:=hs.lt id b base hb;omega
 ·by_cases hid:id=r
  ·subst hid;rw[PM.cq]at hg;cases hg;refine⟨w.heap.size,0,dz _ _ _ _,λacs=>by have:=hs.mf _ acs;omega,ho _ _ _ ht0.later ?_⟩;rw[hh];simp
  ·rw[PM.ch _ _ hid]at hg;obtain⟨b,base,hb,hno,hor⟩:=hs.obj id o' hg;exact⟨b,base,by rw[fK _ _ _ hid];exact hb,hno,hor.later ht0.later (hold b (hs.lt id b base hb))⟩
 ·by_cases hid:id=r
  ·subst hid;rw[dz]at hb;cases hb;by_cases N4:id'=id
   ·exact N4.symm
   ·rw[fK _ _ _ N4]at hb';have:=hs.lt _ _ _ hb';omega
  ·rw[fK _ _ _ hid]at hb;rw[PM.ch _ _ hid]at hg;by_cases N4:id'=r
   ·subst N4;rw[dz]at hb';cases hb';have:=hs.lt _ _ _ hb;omega
   ·rw[fK _ _ _ N4]at hb';rw[PM.ch _ _ N4]at hg';exact hs.inj id id' o1 o2 b x y hg hg' hb hb'
theorem bV.EF(hs:bV own β H nx w)(r:Nat)(mE:β r=none)(cs:List AV)(cur:Array Value)(e:TypeId)(hh:w'.heap=w.heap.push (.cells cur e))(h1:w'.os=w.os)(h2:w'.tape=w.tape)(h3:w'.output=w.output)
  (hl:cs.length<=cur.size) (hr:∀(i:Nat) (c:AV) (v:Value),cs[i]?=some c->cur[i]?=some v->VR w.heap (LL own β H) β c v):
  bV own (upd β r w.heap.size 0) (H.put r (.cells cs)) (max nx (r+1)) w'/\(nx<=r->bJ own β ⟨H,nx⟩ w (upd β r w.heap.size 0) ⟨H.put r (.cells cs),max nx (r+1)⟩ w')/\bJ own β ⟨H,0⟩ w (upd β r w.heap.size 0) ⟨H.put r (.cells cs),0⟩ w':=
 hs.newObj r mE _ _ hh h1 h2 h3 λhp' L' β' hl' hb=>⟨cur,e,hb,by omega,λi c v hc hv=>(hr i c v hc (by rwa [Nat.zero_add]at hv)).later hl'⟩
theorem bV.CO(hs:bV own β H nx w){id b base:Nat}{o0:dx}(hg:H.get id=some o0)(hβ:β id=some (b,base))(id' eI:Nat)(hid:id'=id/\eI=base\/id'=nx)
  (o:dx) (hsz:w'.heap.size=w.heap.size) (hk:∀k,k≠b->w'.heap[k]?=w.heap[k]?) (ab6:∀(cur:Array Value) (e:TypeId) (fz:Nat×Nat),w.heap[b]?=some (.cells cur e fz)->∃jB fz',w'.heap[b]?=some (.cells jB e fz')/\jB.size=cur.size/\fz'=fz)
  (h1:w'.os=w.os) (h2:w'.tape=w.tape) (h3:w'.output=w.output)
  (ho:∀L' β',vl w.heap (LL own β H) β w'.heap L' β'->OR w'.heap L' β' b eI o):
  bV own (upd β id' b eI) ((H.del id).put id' o) (if id'=nx then nx+1 else nx) w'/\bJ own β ⟨H,nx⟩ w (upd β id' b eI) ⟨(H.del id).put id' o,if id'=nx then nx+1 else nx⟩ w':=by
 have ak4:id<nx:=by
  rcases Nat.lt_or_ge id nx with h|h
  ·exact h
  ·rw[hs.fresh id h]at hβ;cases hβ
 have aiG:∀j x,β j=some x->upd β id' b eI j=some x:=by
  intro j x hx;by_cases hj:j=id'
  ·subst hj;rcases hid with⟨h4,h5⟩|h4
   ·subst h4;subst h5;rw[dz];rw[hβ]at hx;exact hx
   ·rw[hs.fresh j (by omega)]at hx;cases hx
  ·rw[fK _ _ _ hj];exact hx
 have qh:∀j o',((H.del id).put id' o).get j=some o'->(j=id'/\o'=o)\/(j≠id'/\j≠id/\H.get j=some o'):=by
  intro j o' hj;by_cases h4:j=id'
  ·subst h4;rw[PM.cq]at hj;cases hj;exact .inl ⟨rfl,rfl⟩
  ·rw[PM.ch _ _ h4]at hj;by_cases h5:j=id
   ·subst h5;rw[PM.aqw]at hj;cases hj
   ·rw[PM.qK _ h5]at hj;exact .inr ⟨h4,h5,hj⟩
 have r_:∀k,live (upd β id' b eI) ((H.del id).put id' o) k->live β H k\/w.heap.size<=k:=by
  rintro k ⟨j,o',x,hj,hx⟩;rcases qh j o' hj with⟨h4,_⟩|⟨h4,_,h6⟩
  ·subst h4;rw[dz]at hx;cases hx;exact .inl ⟨id,o0,base,hg,hβ⟩
  ·rw[fK _ _ _ h4]at hx;exact .inl ⟨j,o',x,h6,hx⟩
 have uk:∀j,j<nx->upd β id' b eI j=β j:=by
  intro j hj;by_cases h4:j=id'
  ·subst h4;rcases hid with⟨h5,h6⟩|h5
   ·subst h5;subst h6;rw[dz,hβ]
   ·omega
  ·exact fK _ _ _ h4
 have ht:bJ own β ⟨H,nx⟩ w (upd β id' b eI) ⟨(H.del id).put id' o,if id'=nx then nx+1 else nx⟩ w':=by
  refine⟨aiG,uk,by simp only;split<;>omega,by omega,λk hk1 hn=>?_,r_,λk cur e fz hc=>?_,h1,h2,h3⟩
  ·have hne:k≠b:=λh4=>by subst h4;exact hn ⟨id,o0,base,hg,hβ⟩
   exact hk k hne
  ·by_cases hkb:k=b
   ·subst hkb;obtain⟨c,f,k1,k2,k3⟩:=ab6 cur e fz hc;exact⟨c,f,k1,k2,λ_=>k3⟩
   ·exact⟨cur,fz,by rw[hk k hkb];exact hc,rfl,λ_=>rfl⟩
 have hno:¬own b:=by
  obtain⟨b',kp,hb',hn,_⟩:=hs.obj id o0 hg;rw[hβ]at hb';cases hb';exact hn
 refine⟨⟨λj hj=>?_,λj b2 x hx=>?_,λk hk1=>by rw[hsz];exact hs.mf k hk1,λj o' hj=>?_,λj j' o1 o2 k x y hj hj' hx hy=>?_⟩,ht⟩
 ·have h4:nx<=j/\j≠id':=by
   split at hj
   ·omega
   ·rcases hid with⟨h4,_⟩|h4
    ·omega
    ·omega
  rw[fK _ _ _ h4.2];exact hs.fresh j h4.1
 ·rw[hsz];by_cases h4:j=id'
  ·subst h4;rw[dz]at hx;cases hx;exact hs.lt _ _ _ hβ
  ·rw[fK _ _ _ h4]at hx;exact hs.lt _ _ _ hx
 ·rcases qh j o' hj with⟨h4,h5⟩|⟨h4,h5,h6⟩
  ·subst h4;subst h5;exact⟨b,eI,dz _ _ _ _,hno,ho _ _ ht.later⟩
  ·obtain⟨b2,x,hb2,hn2,hor⟩:=hs.obj j o' h6;have hne:b2≠b:=λh7=>by subst h7;exact h5 (hs.inj j id o' o0 b2 x base h6 hg hb2 hβ)
   exact⟨b2,x,by rw[fK _ _ _ h4];exact hb2,hn2,hor.later ht.later (hk b2 hne)⟩
 ·rcases qh j o1 hj with⟨h4,_⟩|⟨h4,h5,h6⟩
  ·subst h4;rw[dz]at hx;cases hx;rcases qh j' o2 hj' with⟨h7,_⟩|⟨h7,h8,h9⟩
   ·exact h7.symm
   ·rw[fK _ _ _ h7]at hy;exact absurd (hs.inj j' id o2 o0 b y base h9 hg hy hβ) h8
  ·rw[fK _ _ _ h4]at hx;rcases qh j' o2 hj' with⟨h7,_⟩|⟨h7,h8,h9⟩
   ·subst h7;rw[dz]at hy;cases hy;exact absurd (hs.inj j id o1 o0 b x base h6 hg hx hβ) h5
   ·rw[fK _ _ _ h7]at hy;exact hs.inj j j' o1 o2 k x y h6 h9 hx hy
theorem OO(β:Bl){id b base:Nat}(h:β id=some (b,base)):upd β id b base=β:=by
 funext j;unfold upd;split
 ·rename_i hj;subst hj;exact h.symm
 ·rfl
theorem lW{β:Bl}{H H':Hp}(h:∀j,H'.get j=H.get j):live β H'=live β H:=by
 funext b;unfold live;simp only[h]
theorem bV.congr{H':Hp}(hs:bV own β H nx w)(h:∀j,H'.get j=H.get j):bV own β H' nx w:=by
 refine⟨hs.fresh,hs.lt,hs.mf,λid o hg=>?_,λid id' o o' b x y h1 h2=>hs.inj id id' o o' b x y (by rw[<-h];exact h1) (by rw[<-h];exact h2)⟩;rw[h]at hg;rw[lW h];exact hs.obj id o hg
theorem bJ.congr{β':Bl}{H₁ H₂ H₁' H₂':Hp}{n₁ n₂:Nat}(ht:bJ own β ⟨H₁,n₁⟩ w β' ⟨H₂,n₂⟩ w')(h1:∀j,H₁'.get j=H₁.get j)(h2:∀j,H₂'.get j=H₂.get j):bJ own β ⟨H₁',n₁⟩ w β' ⟨H₂',n₂⟩ w':=by
 refine⟨ht.ext,ht.low,ht.up,ht.size,?_,?_,?_,ht.os,ht.tape,ht.output⟩
 ·simp only[lW h1];exact ht.du
 ·simp only[lW h1,lW h2];exact ht.live
 ·simp only[lW h2];exact ht.shape
theorem bV.I6(hs:bV own β H nx w){id b base:Nat}{cs cs':List AV}{cur jB:Array Value}{e:TypeId}(hg:H.get id=some (.cells cs))(hβ:β id=some (b,base))(hb:w.heap[b]?=some (.cells cur e (0,0)))
  (hw:w'=w.setRow b jB) (hsz:jB.size=cur.size) (hl:base+cs'.length<=cur.size) (hr:∀(i:Nat) (c:AV) (v:Value),cs'[i]?=some c->jB[base+i]?=some v->VR w.heap (LL own β H) β c v):
  bV own β (H.put id (.cells cs')) nx w'/\bJ own β ⟨H,nx⟩ w β ⟨H.put id (.cells cs'),nx⟩ w':=by
 subst hw;have agm:id≠nx:=λh=>by rw[hs.fresh id (by omega)]at hβ;cases hβ
 have hb':(w.setRow b jB).heap[b]?=some (.cells jB e (0,0)):=setRow_heap w b cur jB e _ hb;have h:=hs.CO (w':=w.setRow b jB) hg hβ id base (.inl ⟨rfl,rfl⟩) (.cells cs') (by simp) (λk hk=>setRow_other w b k jB hk)
  (λc1 e1 fz hc=>by rw[hb]at hc;cases hc;exact⟨jB,_,hb',hsz,rfl⟩) rfl rfl rfl
  (λL' β' hl'=>⟨jB,e,hb',by omega,λi c v hc hv=>(hr i c v hc hv).later hl'⟩)
 rw[OO β hβ,if_neg agm]at h;have hc:∀j,(H.put id (.cells cs')).get j=((H.del id).put id (.cells cs')).get j:=by
  intro j;by_cases hj:j=id
  ·subst hj;rw[PM.cq,PM.cq]
  ·rw[PM.ch _ _ hj,PM.ch _ _ hj,PM.qK _ hj]
 exact⟨h.1.congr hc,h.2.congr (λ_=>rfl) hc⟩
theorem bV.drop(hs:bV own β H nx w)(id:Nat):bV own β (H.del id) nx w/\bJ own β ⟨H,nx⟩ w β ⟨H.del id,nx⟩ w:=by
 have qh:∀j o,(H.del id).get j=some o->H.get j=some o:=by
  intro j o hj;by_cases h:j=id
  ·subst h;rw[PM.aqw]at hj;cases hj
  ·rwa [PM.qK _ h]at hj
 have r_:∀b,live β (H.del id) b->live β H b:=λb ⟨j,o,x,h1,h2⟩=>⟨j,o,x,qh j o h1,h2⟩
 have ht:bJ own β ⟨H,nx⟩ w β ⟨H.del id,nx⟩ w:=⟨λ_ _ h=>h,λ_ _=>rfl,Nat.le_refl _,Nat.le_refl _,λ_ _ _=>rfl,λb h=>.inl (r_ b h),λ_ cur _ fz h=>⟨cur,fz,h,rfl,λ_=>rfl⟩,rfl,rfl,rfl⟩;refine⟨⟨hs.fresh,hs.lt,hs.mf,λj o hj=>?_,λj j' o o' b x y h1 h2=>hs.inj j j' o o' b x y (qh _ _ h1) (qh _ _ h2)⟩,ht⟩;obtain⟨b,base,h1,h2,h3⟩:=hs.obj j o (qh j o hj);exact⟨b,base,h1,h2,h3.later ht.later rfl⟩
end
def RL(hp:Array Obj)(L:Nat->Prop)(β:Bl)(as:List AV)(vs:List Value):Prop:=
 as.length=vs.length/\∀(i:Nat) (c:AV) (v:Value),as[i]?=some c->vs[i]?=some v->VR hp L β c v
section
variable {hp:Array Obj} {L:Nat->Prop} {β:Bl}
theorem RL.nil:RL hp L β [] []:=⟨rfl,λi c v h=>by simp at h⟩
theorem RL.cons{a:AV}{v:Value}{as:List AV}{vs:List Value}(h:VR hp L β a v)(hs:RL hp L β as vs):RL hp L β (a::as) (v::vs):=by
 refine⟨by simp[hs.1],λi c x hc hx=>?_⟩;cases i with
 |zero=>simp at hc hx;subst hc;subst hx;exact h
 |succ i=>simp at hc hx;exact hs.2 i c x hc hx
theorem RL.head{a:AV}{v:Value}{as:List AV}{vs:List Value}(h:RL hp L β (a::as) (v::vs)):VR hp L β a v:=h.2 0 a v (by simp) (by simp)
theorem RL.tail{a:AV}{v:Value}{as:List AV}{vs:List Value}(h:RL hp L β (a::as) (v::vs)):RL hp L β as vs:=
 ⟨by have:=h.1;simp at this;exact this,λi c x hc hx=>h.2 (i+1) c x (by simpa using hc) (by simpa using hx)⟩
theorem RL.take{as:List AV}{vs:List Value}(h:RL hp L β as vs)(n:Nat):RL hp L β (as.take n) (vs.take n):=
 ⟨by simp[h.1],λi c x hc hx=>h.2 i c x (by rw[List.getElem?_take]at hc;split at hc<;>simp_all) (by rw[List.getElem?_take]at hx;split at hx<;>simp_all)⟩
theorem RL.drop{as:List AV}{vs:List Value}(h:RL hp L β as vs)(n:Nat):RL hp L β (as.drop n) (vs.drop n):=
 ⟨by simp[h.1],λi c x hc hx=>h.2 (n+i) c x (by rwa [List.getElem?_drop]at hc) (by rwa [List.getElem?_drop]at hx)⟩
theorem RL.append{as bs:List AV}{vs us:List Value}(h:RL hp L β as vs)(k:RL hp L β bs us):RL hp L β (as++bs) (vs++us):=by
 refine⟨by simp[h.1,k.1],λi c x hc hx=>?_⟩;rw[List.getElem?_append]at hc hx;rw[<-h.1]at hx;split at hc
 ·rename_i hi;rw[if_pos hi]at hx;exact h.2 i c x hc hx
 ·rename_i hi;rw[if_neg hi]at hx;exact k.2 _ c x hc hx
theorem RL.later{as:List AV}{vs:List Value}{hp':Array Obj}{L':Nat->Prop}{β':Bl}(hl:vl hp L β hp' L' β')(h:RL hp L β as vs):RL hp' L' β' as vs:=
 ⟨h.1,λi c v hc hv=>(h.2 i c v hc hv).later hl⟩
theorem RL.agg{as:List AV}{vs:Array Value}(h:RL hp L β as vs.toList):VR hp L β (.agg as) (.agg vs):=
 .agg as vs (by simpa using h.1) λi c v hc hv=>h.2 i c v hc (by simpa using hv)
theorem RL.tup{as:List AV}{vs:Array Value}(h:RL hp L β as vs.toList):VR hp L β (.tup as) (.tuple vs):=
 .tup as vs (by simpa using h.1) λi c v hc hv=>h.2 i c v hc (by simpa using hv)
theorem RL.get{as:List AV}{vs:List Value}(h:RL hp L β as vs){i:Nat}{c:AV}(hc:as[i]?=some c):∃v,vs[i]?=some v/\VR hp L β c v:=by
 have hi:i<vs.length:=by rw[<-h.1];exact(List.getElem?_eq_some_iff.1 hc).1
 exact⟨vs[i],by simp[hi],h.2 i c _ hc (by simp[hi])⟩
theorem RL.dj{as:List AV}{vs:List Value}(h:RL hp L β as vs)(ho:Eng.dj as=true):∀v∈vs,v.oneCell'=true:=by
 intro v hv;obtain⟨i,hi,rfl⟩:=List.getElem_of_mem hv;have hia:i<as.length:=by rw[h.1];exact hi
 have h1:as[i].one=true:=List.all_eq_true.1 ho _ (List.getElem_mem hia);exact(h.2 i as[i] vs[i] (by simp[hia]) (by simp[hi])).one h1
theorem vq{v:Value}{a:AV}(h:uG v=some a):VR hp L β a v:=by
 unfold uG at h;split at h<;>cases h;case h_1=>exact .bool _
 case h_2=>exact .int _ _
 case h_3 s=>have:=VR.str (hp:=hp) (L:=L) (β:=β) s.data.toList;simpa using this
 case h_4=>exact .dS
 case h_5=>exact .aa
 case h_6=>exact .dP
 case h_7=>exact .dt
 case h_8=>exact .gf
theorem rb:∀ {vs:List Value} {as:List AV},ve vs=some as->RL hp L β as vs
 |[],as,h=>by simp[ve]at h;subst h;exact .nil
 |v::vs,as,h=>by
  unfold ve at h;split at h
  ·rename_i a as' h1 h2;cases h;exact .cons (vq h1) (rb h2)
  ·cases h
theorem WN{v:Value}{a:AV}(h:aaF v=some a):VR hp L β a v:=by
 unfold aaF at h;split at h
 ·rename_i cs;cases hq:ve cs.toList with
  |none=>simp[hq]at h
  |some as=>simp[hq]at h;subst h;exact RL.agg (rb hq)
 ·exact vq h
end
structure Sim(nt:Nat)(ds:List Deferred)(own:Nat->Prop)(β:Bl)(T:Tm)(h:AH)(a:Act)(w:World):Prop where
 hp:bV own β h.H h.nx w
 sz:a.tmps.size=nt
 tm:∀t v,T.get t=some v->VR w.heap (LL own β h.H) β v (a.tmps.getD t Go.undef)
 df:a.defers=ds
section
variable {nt:Nat} {ds:List Deferred} {own:Nat->Prop} {β:Bl} {T:Tm} {h:AH} {a:Act} {w:World}
theorem fT(hs:Sim nt ds own β T h a w){x:Operand}{y:Opd}(hx:dv x=some y):VR w.heap (LL own β h.H) β (y.ev T) (a.eval x):=by
 cases x with
 |tmp t=>
  simp[dv]at hx;subst hx;simp only[Opd.ev,Act.eval];cases hg:T.get t with
  |none=>exact .undef _
  |some v=>exact hs.tm t v hg
 |const v=>
  simp[dv]at hx;obtain⟨b,hb,rfl⟩:=hx;exact WN hb
 |global g=>
  simp[dv]at hx;subst hx;exact .fY g 0
 |func f=>
  simp[dv]at hx;subst hx;exact .func _ [] [] #[] #[] rfl rfl (λi c v h=>by simp at h) (λi c v h=>by simp at h)
theorem vH(hs:Sim nt ds own β T h a w):∀ {xs:List Operand} {ys:List Opd},yH xs=some ys->RL w.heap (LL own β h.H) β (ys.map (·.ev T)) (xs.map a.eval)
 |[],ys,hx=>by simp[yH]at hx;subst hx;exact .nil
 |x::xs,ys,hx=>by
  unfold yH at hx;split at hx
  ·rename_i y ys' h1 h2;cases hx;exact .cons (fT hs h1) (vH hs h2)
  ·cases hx
end
def nd(P:Program)(own:Nat->Prop)(β:Bl)(h:AH)(w:World)(s:Sem Next)(v:AV)(h':AH):Prop:=
 ∃cv w' β',(s.run P w =.ok (.value cv) w'\/(s.run P w =.ok .skip w'/\cv=Go.undef))/\bV own β' h'.H h'.nx w'/\VR w'.heap (LL own β' h'.H) β' v cv/\bJ own β h w β' h' w'
section
variable {P:Program} {own:Nat->Prop} {β:Bl} {h:AH} {w:World}
theorem nd.still{s:Sem Next}{v:AV}{cv:Value}(hs:bV own β h.H h.nx w)(hr:s.run P w =.ok (.value cv) w)(hv:VR w.heap (LL own β h.H) β v cv):nd P own β h w s v h:=
 ⟨cv,w,β,.inl hr,hs,hv,.refl _ _ _ _⟩
theorem z8{id:Nat}{cs:List AV}(hc:h.ab id=some cs):h.H.get id=some (.cells cs):=by
 unfold AH.ab at hc;split at hc
 ·rename_i cs' hg;cases hc;exact hg
 ·cases hc
theorem jl(b o n:Nat):(⟨b,o,none⟩:Addr).add n=⟨b,o+n,none⟩:=by
 unfold Addr.add;split<;>simp_all
theorem bV.row(hs:bV own β h.H h.nx w){id:Nat}{cs:List AV}(hc:h.ab id=some cs):
  ∃b base cur e,h.H.get id=some (.cells cs)/\β id=some (b,base)/\w.heap[b]?=some (.cells cur e (0,0))/\base+cs.length<=cur.size/\
   ∀(i:Nat) (c:AV) (v:Value),cs[i]?=some c->cur[base+i]?=some v->VR w.heap (LL own β h.H) β c v:=by
 have hg:=z8 hc;obtain⟨b,base,h1,_,cur,e,h2,h3,h4⟩:=hs.obj id _ hg;exact⟨b,base,cur,e,hg,h1,h2,h3,h4⟩
theorem bV.Ux(hs:bV own β h.H h.nx w){g:Nat}{cs:List AV}(hg:h.H.get g=some (.iq g cs)):
  ∃cur e fz,w.heap[g]?=some (.cells cur e fz)/\cs.length=cur.size/\∀(i:Nat) (c:AV) (v:Value),cs[i]?=some c->cur[i]?=some v->VR w.heap (LL own β h.H) β c v:=by
 obtain⟨b,base,h1,_,h0,h5,cur,e,fz,h2,h3,h4⟩:=hs.obj _ _ hg;subst h5;exact⟨cur,e,fz,h2,h3,h4⟩
theorem bV.iq(hs:bV own β h.H h.nx w){g:Nat}{cs:List AV}(hc:h.mL g=some cs):
  ∃cur e fz,w.heap[g]?=some (.cells cur e fz)/\cs.length<=cur.size/\∀(i:Nat) (c:AV) (v:Value),cs[i]?=some c->cur[i]?=some v->VR w.heap (LL own β h.H) β c v:=by
 unfold AH.mL at hc;split at hc
 ·rename_i g' cs' hg;split at hc
  ·rename_i hgg;cases hc;subst hgg;obtain⟨b,base,h1,_,h0,h5,cur,e,fz,h2,h3,h4⟩:=hs.obj _ _ hg;subst h5;exact⟨cur,e,fz,h2,Nat.le_of_eq h3,h4⟩
  ·cases hc
 ·cases hc
theorem mY{cs as:List AV}{off n:Nat}(hc:cut cs off n=some as):off+n<=cs.length/\as=(cs.drop off).take n:=by
 unfold cut at hc;split at hc
 ·cases hc;exact⟨by assumption,rfl⟩
 ·cases hc
theorem oX{cs new as:List AV}{off:Nat}(hc:fi cs off new=some as):off+new.length<=cs.length/\as=cs.take off++new++cs.drop (off+new.length):=by
 unfold fi at hc;split at hc
 ·cases hc;exact⟨by assumption,rfl⟩
 ·cases hc
theorem xt{hp:Array Obj}{L:Nat->Prop}{β:Bl}{cs:List AV}{cur:Array Value}{o:Nat}(hl:o+cs.length<=cur.size)(hr:∀(i:Nat) (c:AV) (v:Value),cs[i]?=some c->cur[o+i]?=some v->VR hp L β c v):
  RL hp L β cs ((cur.toList.drop o).take cs.length):=
 ⟨by simp;omega,λi c v hc hv=>hr i c v hc (by
  rw[List.getElem?_take]at hv;split at hv
  ·rw[List.getElem?_drop]at hv;simpa using hv
  ·cases hv)⟩
theorem pG{b o n:Nat}{cur:Array Value}{e:TypeId}{fz:Nat×Nat}(hb:w.heap[b]?=some (.cells cur e fz)):
  ∀(j:Nat) (v:Value),((cur.toList.drop o).take n)[j]?=some v->w.cell? ((⟨b,o,none⟩:Addr).add j)=some v:=by
 intro j v hv;rw[jl,cell_of_row w b _ cur e fz hb];rw[List.getElem?_take]at hv;split at hv
 ·rw[List.getElem?_drop]at hv;simpa using hv
 ·cases hv
theorem sx(hs:bV own β h.H h.nx w){n:Nat}{av:AV}{cv:Value}{as:List AV}(hl:gm h n av=some as)(hv:VR w.heap (LL own β h.H) β av cv):
  ∃ad vs,cv =.pointer (some ad)/\RL w.heap (LL own β h.H) β as vs/\vs.length=n/\∀(j:Nat) (v:Value),vs[j]?=some v->w.cell? (ad.add j)=some v:=by
 cases hv<;>simp only[gm]at hl<;>try cases hl
 case ptr id off b base hβ=>
  cases hc:h.ab id with
  |none=>simp[hc]at hl
  |some cs=>
   simp only[hc]at hl;obtain⟨h1,rfl⟩:=mY hl;obtain⟨b',eI,cur,e,hg,hβ',hb,hlen,hr⟩:=hs.row hc;rw[hβ]at hβ';cases hβ';have hR:=((xt hlen hr).drop off).take n;have heq:(((cur.toList.drop base).take cs.length).drop off).take n=(cur.toList.drop (base+off)).take n:=by
    rw[List.drop_take,List.take_take,List.drop_drop,Nat.min_eq_left (by omega)]
   rw[heq]at hR;refine⟨_,_,rfl,hR,?_,pG hb⟩;have:=hR.1;simp at this ⊢;omega
 case fY g off=>
  cases hc:h.mL g with
  |none=>simp[hc]at hl
  |some cs=>
   simp only[hc]at hl;obtain⟨h1,rfl⟩:=mY hl;obtain⟨cur,e,fz,hb,hlen,hr⟩:=hs.iq hc;have hR:=((xt (cs:=cs) (cur:=cur) (o:=0) (by omega) (λi c v hc hv=>hr i c v hc (by rwa [Nat.zero_add]at hv))).drop off).take n;have heq:(((cur.toList.drop 0).take cs.length).drop off).take n=(cur.toList.drop off).take n:=by
    rw[List.drop_zero,List.drop_take,List.take_take,Nat.min_eq_left (by omega)]
   rw[heq]at hR;refine⟨_,_,rfl,hR,?_,pG hb⟩;have:=hR.1;simp at this ⊢;omega
 case lz cs b o cur e fz hb hL hlen hr=>
  obtain⟨h1,rfl⟩:=mY hl;have hR:=((xt hlen hr).drop 0).take n;have heq:(((cur.toList.drop o).take cs.length).drop 0).take n=(cur.toList.drop o).take n:=by
   rw[List.drop_zero,List.take_take,Nat.min_eq_left (by omega)]
  rw[heq]at hR;refine⟨_,_,rfl,hR,?_,pG hb⟩;have:=hR.1;simp at this ⊢;omega
theorem yS(hs:bV own β h.H h.nx w){av:AV}{cv:Value}{x:AV}(hl:jQ h av=some x)(hv:VR w.heap (LL own β h.H) β av cv):
  ∃ad v,cv =.pointer (some ad)/\VR w.heap (LL own β h.H) β x v/\w.cell? ad=some v:=by
 have h1:gm h 1 av=some [x]:=by
  cases av<;>simp only[jQ]at hl<;>try cases hl
  case ptr id off=>
   simp only[gm];cases hc:h.ab id with
   |none=>simp[hc]at hl
   |some cs=>
    simp only[hc]at hl ⊢;obtain⟨hlt,hx⟩:=List.getElem?_eq_some_iff.1 hl;unfold cut;rw[if_pos (by omega)];congr 1
    rw[List.drop_eq_getElem_cons hlt];simp[hx]
  case fY g off=>
   simp only[gm];cases hc:h.mL g with
   |none=>simp[hc]at hl
   |some cs=>
    simp only[hc]at hl ⊢;obtain⟨hlt,hx⟩:=List.getElem?_eq_some_iff.1 hl;unfold cut;rw[if_pos (by omega)];congr 1
    rw[List.drop_eq_getElem_cons hlt];simp[hx]
  case lz cs=>
   simp only[gm];cases cs with
   |nil=>simp at hl
   |cons c cs=>simp at hl;subst hl;simp[cut]
 obtain⟨ad,vs,h2,h3,h4,h5⟩:=sx hs h1 hv;match vs,h4 with
 |[v],_=>exact⟨ad,v,h2,h3.head,by have:=h5 0 v (by simp);simpa[Addr.add]using this⟩
theorem u3{t:TypeId}(hq:hY P t=some none):(isAgg t).run P w =.ok false w:=by
 unfold hY at hq;cases hu:P.underlying t with
 |none=>simp[hu]at hq
 |some d=>
  simp only[isAgg,Sem.run_bind,run_underlying hu,Result.andThen_ok];cases d<;>simp[hu]at hq<;>rfl
theorem gh{t:TypeId}{n:Nat}(hq:jI P t=some n):(sizeOf t).run P w =.ok n w:=by
 unfold jI at hq;cases hi:P.info? t with
 |none=>simp[hi]at hq
 |some i=>simp[hi]at hq;simp[sizeOf,typeInfo,hi,hq]
theorem vd{t:TypeId}{n:Nat}(hq:hY P t=some (some n)):(isAgg t).run P w =.ok true w/\(sizeOf t).run P w =.ok n w:=by
 unfold hY at hq;cases hu:P.underlying t with
 |none=>simp[hu]at hq
 |some d=>
  simp only[isAgg,Sem.run_bind,run_underlying hu,Result.andThen_ok];cases d<;>simp[hu]at hq;all_goals exact⟨rfl,gh hq⟩
theorem Ea(hs:bV own β h.H h.nx w){t:TypeId}{av:AV}{cv:Value}{x:AV}(hq:hY P t=some none)(hl:jQ h av=some x)(hv:VR w.heap (LL own β h.H) β av cv):
  ∃v,(Instr.loadAt t cv).run P w =.ok v w/\VR w.heap (LL own β h.H) β x v:=by
 obtain⟨ad,v,rfl,h1,h2⟩:=yS hs hl hv;refine⟨v,?_,h1⟩;simp only[Instr.loadAt,Instr.sureAddr,Sem.run_bind,Sem.run_pure,Result.andThen_ok,loadVar,u3 hq];simp[h2]
theorem Dg(hs:bV own β h.H h.nx w){t:TypeId}{n:Nat}{av:AV}{cv:Value}{as:List AV}(hq:hY P t=some (some n))(hl:gm h n av=some as)(hv:VR w.heap (LL own β h.H) β av cv):
  ∃v,(Instr.loadAt t cv).run P w =.ok v w/\VR w.heap (LL own β h.H) β (.agg as) v:=by
 obtain⟨ad,vs,rfl,h1,h2,h3⟩:=sx hs hl hv;obtain⟨q1,q2⟩:=vd (w:=w) hq;refine⟨.agg vs.toArray,?_,RL.agg (by simpa using h1)⟩;have hld:=run_loadCells_list (P:=P) w ad vs h3;rw[h2]at hld;simp only[Instr.loadAt,Instr.sureAddr,Sem.run_bind,Sem.run_pure,Result.andThen_ok,loadVar,q1,q2,hld,if_true]
end
theorem kB{α:Type}(l new:List α)(off i:Nat)(h:off+new.length<=l.length):
  (l.take off++new++l.drop (off+new.length))[i]?=if i<off then l[i]? else if i<off+new.length then new[i-off]? else l[i]?:=by
 rw[List.append_assoc,List.getElem?_append,List.getElem?_append,List.getElem?_take,List.getElem?_drop,List.length_take,Nat.min_eq_left (by omega)];by_cases h1:i<off
 ·simp[h1]
 ·by_cases h2:i<off+new.length
  ·have:i-off<new.length:=by omega
   simp[h1,h2,this]
  ·have h3:¬(i-off<new.length):=by omega
   simp only[h1,h2,h3,if_false];congr 1
   omega
section
variable {hp:Array Obj} {L:Nat->Prop} {β:Bl}
theorem RL.fi{as bs:List AV}{vs us:List Value}(h:RL hp L β as vs)(k:RL hp L β bs us)(off:Nat):RL hp L β (as.take off++bs++as.drop (off+bs.length)) (vs.take off++us++vs.drop (off+us.length)):=by
 rw[<-k.1];exact((h.take off).append k).append (h.drop _)
theorem qp{x:AV}{v:Value}(hx:iU x=true)(h:VR hp L β x v):RL hp L β x.cells v.cells.toList:=by
 cases h<;>simp only[AV.cells,Value.cells]<;>first
  |(simp[iU,AV.one]at hx;done)
  |(refine RL.cons ?_ RL.nil;constructor<;>assumption)
  |skip
 case agg cs vs hl h=>exact⟨by simpa using hl,λi c v hc hv=>h i c v hc (by simpa using hv)⟩
end
section
variable {P:Program} {own:Nat->Prop} {β:Bl} {h:AH} {w:World}
theorem DR(hs:bV own β h.H h.nx w){id off:Nat}{cs cs' new:List AV}{vs:List Value}{b base:Nat}(hc:h.ab id=some cs)(hβ:β id=some (b,base))(hsp:fi cs off new=some cs')(hv:RL w.heap (LL own β h.H) β new vs)
  (ho:dj new=true):∃w',(storeCells ⟨b,base+off,none⟩ vs).run P w =.ok () w'/\bV own β (h.set id (.cells cs')).H (h.set id (.cells cs')).nx w'/\bJ own β h w β (h.set id (.cells cs')) w':=by
 obtain⟨h1,rfl⟩:=oX hsp;obtain⟨b',eI,cur,e,hg,hβ',hb,hlen,hr⟩:=hs.row hc;rw[hβ]at hβ';cases hβ';have hlv:new.length=vs.length:=hv.1;have hst:=run_storeCells_at P b (base+off) e vs 0 cur w hb (by omega) (hv.dj ho);simp only[Nat.add_zero]at hst;refine⟨_,hst,?_⟩;have hsz:(cur.toList.take (base+off)++vs++cur.toList.drop (base+off+vs.length)).toArray.size=cur.size:=by simp;omega
 refine hs.I6 hg hβ hb rfl hsz (by simp;omega) λi c v hc' hv'=>?_
 rw[kB _ _ _ _ h1]at hc';have hv2:(cur.toList.take (base+off)++vs++cur.toList.drop (base+off+vs.length))[base+i]?=some v:=by simpa using hv'
 rw[kB _ _ _ _ (by simp;omega)]at hv2;split at hc'
 ·rw[if_pos (by omega)]at hv2;exact hr i c v hc' (by simpa using hv2)
 ·rw[if_neg (by omega)]at hv2;split at hc'
  ·rw[if_pos (by omega)]at hv2;exact hv.2 _ c v hc' (by rw[show base+i-(base+off)=i-off by omega]at hv2;exact hv2)
  ·rw[if_neg (by omega)]at hv2;exact hr i c v hc' (by simpa using hv2)
theorem S8(hs:bV own β h.H h.nx w){t:TypeId}{n id off:Nat}{cs cs':List AV}{x:AV}{cv cx:Value}(hq:jI P t=some n)(hx:iU x=true)(hn:x.cells.length=n)(ho:dj x.cells=true)
  (hc:h.ab id=some cs) (hsp:fi cs off x.cells=some cs') (hv:VR w.heap (LL own β h.H) β (.ptr id off) cv) (hvx:VR w.heap (LL own β h.H) β x cx):
  ∃w',(Instr.storeAt t cv cx).run P w =.ok () w'/\bV own β (h.set id (.cells cs')).H (h.set id (.cells cs')).nx w'/\bJ own β h w β (h.set id (.cells cs')) w':=by
 cases hv;rename_i b base hβ;have hR:=qp hx hvx;obtain⟨w',h1,h2,h3⟩:=DR (P:=P) hs hc hβ hsp hR ho;refine⟨w',?_,h2,h3⟩;have hl:cx.cells.size=n:=by have:=hR.1;simp at this;omega
 simp only[Instr.storeAt,Instr.sureAddr,Sem.run_bind,Sem.run_pure,Result.andThen_ok,storeVar,gh hq,hl];simp[h1]
def DY(P:Program)(own:Nat->Prop)(β:Bl)(H:Hp)(nx:Nat)(w:World)(s:Sem Next)(v:AV)(ob:dx)(r:Nat):Prop:=
 ∃cv w',s.run P w =.ok (.value cv) w'/\bV own (upd β r w.heap.size 0) (H.put r ob) (max nx (r+1)) w'/\VR w'.heap (LL own (upd β r w.heap.size 0) (H.put r ob)) (upd β r w.heap.size 0) v cv/\
  (nx<=r->bJ own β ⟨H,nx⟩ w (upd β r w.heap.size 0) ⟨H.put r ob,max nx (r+1)⟩ w')/\bJ own β ⟨H,0⟩ w (upd β r w.heap.size 0) ⟨H.put r ob,0⟩ w'
theorem DY.ok{s:Sem Next}{v:AV}{ob:dx}(ho:DY P own β h.H h.nx w s v ob h.nx):nd P own β h w s v (h.add ob):=by
 obtain⟨cv,w',h1,h2,h3,h4,_⟩:=ho;have hm:max h.nx (h.nx+1)=h.nx+1:=by omega
 have h4':=h4 (Nat.le_refl _);rw[hm]at h2 h4';exact⟨cv,w',_,.inl h1,h2,h3,h4'⟩
theorem vQ{H:Hp}{nx:Nat}(hs:bV own β H nx w)(r:Nat)(hr:β r=none)(t:TypeId){cs:List AV}{cur:Array Value}(hR:RL w.heap (LL own β H) β cs cur.toList):
  ∃w',(newRow t cur).run P w =.ok ⟨w.heap.size,0,none⟩ w'/\bV own (upd β r w.heap.size 0) (H.put r (.cells cs)) (max nx (r+1)) w'/\upd β r w.heap.size 0 r=some (w.heap.size,0)/\
   ((nx<=r->bJ own β ⟨H,nx⟩ w (upd β r w.heap.size 0) ⟨H.put r (.cells cs),max nx (r+1)⟩ w')/\bJ own β ⟨H,0⟩ w (upd β r w.heap.size 0) ⟨H.put r (.cells cs),0⟩ w')/\w'.heap[w.heap.size]?=some (.cells cur t (0,0)):=by
 have hl:cs.length=cur.size:=by simpa using hR.1
 obtain⟨h1,h2,h3⟩:=hs.EF (w':={ w with heap:=w.heap.push (.cells cur t) }) r hr cs cur t rfl rfl rfl rfl (by omega) (λi c v hc hv=>hR.2 i c v hc (by simpa using hv));exact⟨_,rfl,h1,dz _ _ _ _,⟨h2,h3⟩,by simp⟩
theorem iO{t:TypeId}{z:List AV}(hq:fN P t=some z){hp:Array Obj}{L:Nat->Prop}{β:Bl}:∃v,(zeroValue t).run P w =.ok v w/\RL hp L β z v.cells.toList:=by
 unfold fN at hq;split at hq
 ·rename_i i hi;split at hq
  ·rename_i v hv;exact⟨v,by simp[zeroValue,typeInfo,hi,hv],rb hq⟩
  ·cases hq
 ·cases hq
theorem QQ{H:Hp}{nx:Nat}(hs:bV own β H nx w)(r:Nat)(hr:β r=none){t:TypeId}{z:List AV}(hq:fN P t=some z):
  DY P own β H nx w (do pure (.value (<-Instr.alloc t true (.tuple #[])))) (.ptr r 0) (.cells z) r:=by
 obtain⟨v,h1,h2⟩:=iO (P:=P) (w:=w) hq (hp:=w.heap) (L:=LL own β H) (β:=β);obtain⟨w',h3,h4,h5,h6,h7⟩:=vQ (P:=P) hs r hr t (cs:=z) (cur:=v.cells) h2;refine⟨_,w',?_,h4,VR.ptr r 0 w.heap.size 0 h5,h6⟩;simp only[Instr.alloc,newVar,Sem.run_bind,h1,Result.andThen_ok,h3,Sem.run_pure]
theorem ZI{H:Hp}{nx:Nat}(hs:bV own β H nx w)(r:Nat)(hr:β r=none)(t:TypeId){x:AV}{cx:Value}(hx:iU x=true)(hvx:VR w.heap (LL own β H) β x cx):
  DY P own β H nx w (do pure (.value (<-Instr.box t cx))) (.ptr r 0) (.cells x.cells) r:=by
 obtain⟨w',h3,h4,h5,h6,h7⟩:=vQ (P:=P) hs r hr t (cs:=x.cells) (cur:=cx.cells) (qp hx hvx);refine⟨_,w',?_,h4,VR.ptr r 0 w.heap.size 0 h5,h6⟩;simp only[Instr.box,newVar,Sem.run_bind,Result.andThen_ok,h3,Sem.run_pure]
end
theorem zC(off:Nat):∀(vs:List Value) (k:Nat) (cs:Array Value),off+k+vs.length<=cs.size->
  ((vs.zipIdx k).foldl (λcs p=>cs.setIfInBounds (off+p.2) p.1) cs).toList=cs.toList.take (off+k)++vs++cs.toList.drop (off+k+vs.length)
 |[],k,cs,h=>by simp
 |v::vs,k,cs,h=>by
  simp only[List.length_cons]at h;simp only[List.zipIdx_cons,List.foldl_cons];rw[zC off vs (k+1) (cs.setIfInBounds (off+k) v) (by simp;omega)];have e:=list_seg_step cs.toList (off+k) v vs (by simp;omega);simpa[Array.toList_setIfInBounds,Nat.add_assoc]using e
theorem rH{hp:Array Obj}{L:Nat->Prop}{β:Bl}{T:Tm}{ρ:Operand->Value}(place:Nat->Option (Nat×Nat))(hρ:∀x y,dv x=some y->VR hp L β (y.ev T) (ρ x)):
  ∀(ps:List (Nat×Operand)) (aps:List (Nat×Nat×Opd)) (zero cs:List AV) (zv:Array Value),mG place ps=some aps->fS T zero aps=some cs->RL hp L β zero zv.toList->
   ∃cv,Instr.fill place zv (ps.map λp=>(p.1,ρ p.2))=some cv/\RL hp L β cs cv.toList
 |[],aps,zero,cs,zv,hp1,hf,hR=>by
  simp[mG]at hp1;subst hp1;simp[fS]at hf;subst hf;exact⟨zv,by simp[Instr.fill],hR⟩
 |(i,x)::ps,aps,zero,cs,zv,hp1,hf,hR=>by
  unfold mG at hp1;split at hp1
  ·rename_i o s y l h1 h2 h3;cases hp1;unfold fS at hf;split at hf
   ·rename_i hst;simp only at hf;split at hf
    ·rename_i hlen;cases hsp:Eng.fi zero o (y.ev T).cells with
     |none=>simp[hsp]at hf
     |some cs1=>
      simp only[hsp]at hf;obtain⟨hb,rfl⟩:=oX hsp;have hx:=qp (show iU (y.ev T)=true from hst) (hρ x y h2);have hxl:(ρ x).cells.size=s:=by have:=hx.1;simp at this;omega
      have hzl:zv.size=zero.length:=by have:=hR.1;simp at this;omega
      have fJ:((ρ x).cells.zipIdx.foldl (λcs p=>cs.setIfInBounds (o+p.2) p.1) zv).toList=zv.toList.take o++(ρ x).cells.toList++zv.toList.drop (o+(ρ x).cells.toList.length):=by
       rw[<-Array.foldl_toList];have:=zC o (ρ x).cells.toList 0 zv (by simp;omega);simpa using this
      have hR2:=hR.fi hx o;rw[<-fJ]at hR2;obtain⟨cv,hc1,hc2⟩:=rH place hρ ps l _ cs _ h3 hf hR2;refine⟨cv,?_,hc2⟩;simp only[List.map_cons,Instr.fill,h1,hxl];rw[if_neg (by simp;omega)];exact hc1
    ·cases hf
   ·cases hf
  ·cases hp1
section
variable {P:Program} {own:Nat->Prop} {β:Bl} {h:AH} {w:World}
theorem qe{α γ:Type}(f:α->Sem γ)(g:α->γ):∀(l:List α),(∀x∈l,(f x).run P w =.ok (g x) w)->(l.mapM f).run P w =.ok (l.map g) w
 |[],_=>by simp
 |x::l,hl=>by
  have h1:=hl x (by simp);have h2:=qe f g l (λy hy=>hl y (by simp[hy]));rw[List.mapM_cons];simp only[Sem.run_bind,h1,Result.andThen_ok,h2,Sem.run_pure,List.map_cons]
theorem wc{α γ:Type}(f:α->Sem γ)(g:α->γ)(a:Array α)(ha:∀x∈a.toList,(f x).run P w =.ok (g x) w):(a.mapM f).run P w =.ok (a.map g) w:=by
 have h1:=qe (P:=P) (w:=w) f g a.toList ha;have h2:a.mapM f=(do let l <-a.toList.mapM f;pure l.toArray):=by
  rw[Array.mapM_eq_mapM_toList];rfl
 rw[h2];simp only[Sem.run_bind,h1,Result.andThen_ok,Sem.run_pure];simp only[List.map_toArray,Array.toArray_toList,<-Array.toList_map]
theorem tY{T:Tm}{ρ:Operand->Value}(hρ:∀x y,dv x=some y->VR w.heap (LL own β h.H) β (y.ev T) (ρ x)){t:TypeId}{fs:Array Field}{ps:Array (Nat×Operand)}{aps:List (Nat×Nat×Opd)}{zero cs:List AV}
  (hu:P.underlying t=some (.struct fs)) (hfs:fs.all (λf=>(P.info? f.type).isSome)=true) (hz:fN P t=some zero) (hp1:mG (j3 P fs) ps.toList=some aps) (hf:fS T zero aps=some cs):
  ∃v,(Instr.build t (ps.map fun(i,x)=>(i,ρ x))).run P w =.ok v w/\VR w.heap (LL own β h.H) β (.agg cs) v:=by
 obtain⟨zv,h1,h2⟩:=iO (P:=P) (w:=w) hz (hp:=w.heap) (L:=LL own β h.H) (β:=β);obtain⟨cv,h3,h4⟩:=rH (j3 P fs) hρ ps.toList aps zero cs zv.cells hp1 hf h2;refine⟨.agg cv,?_,RL.agg h4⟩;have hm:=wc (P:=P) (w:=w) (λf:Field=>do pure (f.offset,<-sizeOf f.type)) (λf=>(f.offset,P.cellsOf f.type)) fs (by
  intro f hfm;have hsm:=Array.all_eq_true_iff_forall_mem.1 hfs f (by simpa using hfm);cases hi:P.info? f.type with
  |none=>simp[hi]at hsm
  |some i=>simp[sizeOf,typeInfo,hi,Program.cellsOf])
 have abG:(λi=>(fs.map λf=>(f.offset,P.cellsOf f.type))[i]?)=j3 P fs:=by
  funext i
  simp only[Array.getElem?_map,j3];cases hi:fs[i]? with
  |none=>rfl
  |some f=>
   have hsm:=Array.all_eq_true_iff_forall_mem.1 hfs f (Array.mem_of_getElem? hi);cases hii:P.info? f.type with
   |none=>simp[hii]at hsm
   |some j=>simp[jI,Program.cellsOf,hii]
 simp only[Instr.build,Sem.run_bind,h1,Result.andThen_ok,run_underlying hu,hm,abG];have hl:(ps.map fun(i,x)=>(i,ρ x)).toList=ps.toList.map λp=>(p.1,ρ p.2):=by simp
 rw[hl,h3];rfl
theorem wS{T:Tm}{ρ:Operand->Value}(hρ:∀x y,dv x=some y->VR w.heap (LL own β h.H) β (y.ev T) (ρ x)){t e:TypeId}{n s:Nat}{ps:Array (Nat×Operand)}{aps:List (Nat×Nat×Opd)}{zero cs:List AV}
  (hu:P.underlying t=some (.array n e)) (hsz:jI P e=some s) (hz:fN P t=some zero) (hp1:mG (λi=>some (i*s,s)) ps.toList=some aps) (hf:fS T zero aps=some cs):
  ∃v,(Instr.build t (ps.map fun(i,x)=>(i,ρ x))).run P w =.ok v w/\VR w.heap (LL own β h.H) β (.agg cs) v:=by
 obtain⟨zv,h1,h2⟩:=iO (P:=P) (w:=w) hz (hp:=w.heap) (L:=LL own β h.H) (β:=β);obtain⟨cv,h3,h4⟩:=rH (λi=>some (i*s,s)) hρ ps.toList aps zero cs zv.cells hp1 hf h2;refine⟨.agg cv,?_,RL.agg h4⟩;simp only[Instr.build,Sem.run_bind,h1,Result.andThen_ok,run_underlying hu,gh hsz];have hl:(ps.map fun(i,x)=>(i,ρ x)).toList=ps.toList.map λp=>(p.1,ρ p.2):=by simp
 rw[hl,h3];rfl
theorem K6{hp:Array Obj}{L:Nat->Prop}{β:Bl}{z:List AV}{zv:Array Value}(hR:RL hp L β z zv.toList)(h0:0<z.length)(n:Nat):
  RL hp L β (lp n z) ((Array.range (n*z.length)).map λi=>zv[i%zv.size]!).toList:=by
 have hzs:zv.size=z.length:=by have:=hR.1;simp at this;omega
 have hlen:∀n,(lp n z).length=n*z.length:=by
  intro n;unfold lp;simp
 have um:∀n i c,(lp n z)[i]?=some c->z[i%z.length]?=some c:=by
  intro n;induction n with
  |zero=>intro i c hc;simp[lp]at hc
  |succ n ih=>
   intro i c hc;have:lp (n+1) z=z++lp n z:=by simp[lp,List.replicate_succ]
   rw[this,List.getElem?_append]at hc;split at hc
   ·rw[Nat.mod_eq_of_lt (by assumption)];exact hc
   ·have:=ih _ c hc;rwa [<-Nat.mod_eq_sub_mod (by omega)]at this
 refine⟨by simp[hlen],λi c v hc hv=>?_⟩;have hc':=um n i c hc;have hi:i<n*z.length:=by rw[<-hlen n];exact(List.getElem?_eq_some_iff.1 hc).1
 have hm:i%z.length<z.length:=Nat.mod_lt _ h0;simp only[Array.toList_map,List.getElem?_map,Array.toList_range,List.getElem?_range hi,Option.map_some,Option.some.injEq]at hv;refine hR.2 (i%z.length) c v hc' ?_;have hmz:i%z.length<zv.size:=by omega
 rw[hzs,getElem!_pos zv _ hmz]at hv;simp[hmz,hv]
theorem yl{H:Hp}{nx:Nat}(hs:bV own β H nx w)(r:Nat)(hr:β r=none){T:Tm}{ρ:Operand->Value}(hρ:∀x y,dv x=some y->VR w.heap (LL own β H) β (y.ev T) (ρ x)){t e:TypeId}{len s:Nat}{ps:Array (Nat×Operand)}{aps:List (Nat×Nat×Opd)}{zero cs:List AV}
  (hu:P.underlying t=some (.slice e)) (hsz:jI P e=some s) (EN:¬(len*s>2^24)) (hs0:s≠0) (hz:fN P e=some zero) (hzl:zero.length=s) (hp1:mG (λi=>some (i*s,s)) ps.toList=some aps) (hf:fS T (lp len zero) aps=some cs):
  DY P own β H nx w (do pure (.value (<-Instr.buildSlice t len (ps.map fun(i,x)=>(i,ρ x))))) (.rsl r 0 len s) (.cells cs) r:=by
 obtain⟨zv,h1,h2⟩:=iO (P:=P) (w:=w) hz (hp:=w.heap) (L:=LL own β H) (β:=β);have hR:=K6 h2 (by omega) len;have alJ:zv.cells.size=zero.length:=by have:=h2.1;simp at this;omega
 rw[hzl]at hR;by_cases h0:len*s=0
 ·-- no elements
  have hl0:len=0:=by rcases Nat.mul_eq_zero.1 h0 with h|h<;>omega
  subst hl0;obtain⟨cv,h3,h4⟩:=rH (λi=>some (i*s,s)) hρ ps.toList aps (lp 0 zero) cs #[] hp1 hf (by simpa[lp]using RL.nil);obtain⟨w',h5,h6,h7,h8,h9⟩:=vQ (P:=P) hs r hr e (cs:=cs) (cur:=cv) h4;refine⟨.slice (some ⟨w.heap.size,0,none⟩) 0 0,w',?_,h6,VR.nQ r 0 s w.heap.size 0 0 h7,h8⟩;have hl:(ps.map fun(i,x)=>(i,ρ x)).toList=ps.toList.map λp=>(p.1,ρ p.2):=by simp
  have hr0:Array.map (λ_=>(default:Value)) (Array.range 0) = #[]:=by apply Array.ext';simp
  have h3':Instr.fill (λi=>some (i*s,s)) #[] (ps.toList.map λx=>(x.1,ρ x.2))=some cv:=h3;simp only[Instr.buildSlice,Sem.run_bind,run_underlying hu,Result.andThen_ok,gh hsz,Nat.zero_mul,hl];simp[hr0,h3',h5]
 ·obtain⟨cv,h3,h4⟩:=rH (λi=>some (i*s,s)) hρ ps.toList aps (lp len zero) cs _ hp1 hf hR;obtain⟨w',h5,h6,h7,h8,h9⟩:=vQ (P:=P) hs r hr e (cs:=cs) (cur:=cv) h4;have hcs:cs.length=len*s:=by
   have hfl:∀(aps:List (Nat×Nat×Opd)) (z cs:List AV),fS T z aps=some cs->cs.length=z.length:=by
    intro aps;induction aps with
    |nil=>intro z cs hf;simp[fS]at hf;rw[hf]
    |cons p r ih=>
     intro z cs hf;obtain⟨o,sz,x⟩:=p;unfold fS at hf;split at hf
     ·simp only at hf;split at hf
      ·split at hf
       ·rename_i cs1 hsp;obtain⟨hb,rfl⟩:=oX hsp;rw[ih _ _ hf];simp;omega
       ·cases hf
      ·cases hf
     ·cases hf
   rw[hfl _ _ _ hf];simp[lp,hzl]
  have alw:cv.size=len*s:=by have:=h4.1;simp at this;omega
  have hml:len<=maxLen:=by
   have:len<=len*s:=Nat.le_mul_of_pos_right _ (by omega);simp only[maxLen];omega
  refine⟨.slice (some ⟨w.heap.size,0,none⟩) len len,w',?_,h6,VR.rsl r 0 len s w.heap.size 0 len cv e _ h7 h9 (Nat.le_refl _) hml (by omega),h8⟩;have hl:(ps.map fun(i,x)=>(i,ρ x)).toList=ps.toList.map λp=>(p.1,ρ p.2):=by simp
  have agW:¬(2^24<len*s):=by omega
  simp only[Instr.buildSlice,Sem.run_bind,run_underlying hu,Result.andThen_ok,gh hsz,hl,gt_iff_lt,agW,if_false,h0,h1,Sem.run_pure,Sem.run_ite];simp[h3,h5]
end
theorem nk(l:List UInt8):(⟨l.toArray⟩:ByteArray).toList=l:=by rw[ByteArray.toList_eq]
theorem ed(l:List UInt8):(⟨l.toArray⟩:ByteArray).size=l.length:=by simp[<-ByteArray.size_data]
theorem rq(a b:List UInt8):(⟨a.toArray⟩:ByteArray)++⟨b.toArray⟩=⟨(a++b).toArray⟩:=by
 apply ByteArray.ext;rw[ByteArray.data_append];simp
theorem ye(l:List UInt8)(a b:Nat):(⟨l.toArray⟩:ByteArray).extract a b=⟨((l.drop a).take (b-a)).toArray⟩:=by
 apply ByteArray.ext;rw[ByteArray.data_extract];simp[List.extract_eq_take_drop]
section
variable {P:Program} {hp:Array Obj} {L:Nat->Prop} {β:Bl} {w:World}
theorem jv(op:BinOp)(t:TypeId)(x y:Operand)(a b:Value)(ha:∀cs,a ≠ .agg cs)(hn:a ≠ .nilIface):(eqGuard op t x y a b).run P w =.ok () w:=by
 unfold eqGuard;cases op<;>cases a<;>first|(exact absurd rfl hn)|(exact absurd rfl (ha _))|simp
theorem Mj{op:BinOp}{x y v:AV}{cx cy:Value}(h:W_ op x y=some v)(hx:VR hp L β x cx)(hy:VR hp L β y cy):
  ∃k a b v',cx =.int k a/\cy =.int k b/\dy op (.int k a) (.int k b)=some v'/\∀cv,VR hp L β v' cv->VR hp L β v cv:=by
 simp[W_]at h
theorem Re{mx:Bool}{x y v:AV}{cx cy:Value}(h:smm mx x y=some v)(hx:VR hp L β x cx)(hy:VR hp L β y cy):
  ∃k a b,cx =.int k a/\cy =.int k b/\VR hp L β v (.int k (if mx then(if a<b then b else a)else(if b<a then b else a))):=by
 simp[smm]at h
theorem sV{op:BinOp}{t:TypeId}{ox oy:Operand}{k k':IntKind}{a b:Int}{v:AV}(h:dy op (.int k a) (.int k' b)=some v):
  ∃cv,(do eqGuard op t ox oy (.int k a) (.int k' b);binOp op t (.int k a) (.int k' b):Sem Value).run P w =.ok cv w/\VR hp L β v cv:=by
 simp only[Sem.run_bind,jv op t ox oy (.int k a) (.int k' b) (λ_ h=>by cases h) (λh=>by cases h),Result.andThen_ok];by_cases hk:k=k'
 ·subst hk;cases op<;>simp only[dy,ey,vK,ao8,if_true,Bool.false_eq_true,if_false]at h;case quo=>
   split at h
   ·cases h
   ·cases h;exact⟨_,by simp[binOp,Op.intDiv, *],.int _ _⟩
  case rem=>
   split at h
   ·cases h
   ·cases h;exact⟨_,by simp[binOp,Op.intDiv, *],.int _ _⟩
  case shl=>
   split at h
   ·cases h
   ·cases h;exact⟨_,by simp[binOp,Op.shift, *],.int _ _⟩
  case shr=>
   split at h
   ·cases h
   ·cases h;exact⟨_,by simp[binOp,Op.shift, *],.int _ _⟩
  all_goals cases h
  all_goals first
   |(refine⟨_,?_,.int _ _⟩;simp only[binOp,ne_eq,not_true_eq_false,if_false];rfl)
   |(refine⟨_,?_,.bool _⟩;simp only[binOp,ne_eq,not_true_eq_false,if_false];rfl)
 ·cases op<;>simp only[dy,ey,vK,hk,if_true,Bool.false_eq_true,if_false]at h;case shl=>
   split at h
   ·cases h
   ·cases h;exact⟨_,by simp[binOp,Op.shift, *],.int _ _⟩
  case shr=>
   split at h
   ·cases h
   ·cases h;exact⟨_,by simp[binOp,Op.shift, *],.int _ _⟩
  all_goals cases h
theorem Nv{op:BinOp}{t:TypeId}{ox oy:Operand}{a b:List UInt8}{v:AV}(h:dy op (.str a) (.str b)=some v):
  ∃cv,(do eqGuard op t ox oy (.string ⟨a.toArray⟩) (.string ⟨b.toArray⟩);binOp op t (.string ⟨a.toArray⟩) (.string ⟨b.toArray⟩):Sem Value).run P w =.ok cv w/\VR hp L β v cv:=by
 simp only[Sem.run_bind,jv op t ox oy (.string ⟨a.toArray⟩) (.string ⟨b.toArray⟩) (λ_ h=>by cases h) (λh=>by cases h),Result.andThen_ok];cases op<;>simp only[dy,vn]at h;case add=>
  split at h
  ·rename_i hl;cases h;refine⟨.string ⟨(a++b).toArray⟩,?_,.str _⟩;have hlt:¬((((⟨a.toArray⟩:ByteArray).size+(⟨b.toArray⟩:ByteArray).size:Nat):Int)>IntKind.i64.max):=by
    rw[ed,ed];have:IntKind.i64.max=9223372036854775807:=by decide
    omega
   simp only[binOp,Op.stringOp,if_neg hlt,rq,Sem.run_pure]
  ·cases h
 all_goals cases h
 all_goals exact⟨_,by simp only[binOp,Op.stringOp,nk,Sem.run_pure],.bool _⟩
theorem R4{op:BinOp}{t:TypeId}{ox oy:Operand}{x y v:AV}{cx cy:Value}(h:dy op x y=some v)(hx:VR hp L β x cx)(hy:VR hp L β y cy):
  ∃cv,(do eqGuard op t ox oy cx cy;binOp op t cx cy:Sem Value).run P w =.ok cv w/\VR hp L β v cv:=by
 have h0:=h;unfold dy at h;split at h
 ·cases hx;cases hy;exact sV h0
 ·cases hx;cases hy;exact Nv h0
 ·rename_i k rs k' b;split at h
  ·cases h
  ·rename_i hsh;split at h
   ·rename_i hk;subst hk;cases hx with
    |qJ _ _ n hn=>
    cases hy;obtain⟨r,h1,rfl⟩:=wZ h;refine sV ?_;simp only[dy,hsh,if_true,Bool.false_eq_true,if_false];exact hn _ _ _ h1
   ·cases h
 ·obtain⟨k,a,b,v',rfl,rfl,h1,h2⟩:=Mj h hx hy;obtain⟨cv,r1,r2⟩:=sV (P:=P) (w:=w) (hp:=hp) (L:=L) (β:=β) (t:=t) (ox:=ox) (oy:=oy) h1;exact⟨cv,r1,h2 cv r2⟩
theorem Zc{neg:Bool}{t:TypeId}{ox oy:Operand}{a b:Bool}(hu:P.underlying t=some .bool):
  (do eqGuard (if neg then .neq else .eql) t ox oy (.bool a) (.bool b);binOp (if neg then .neq else .eql) t (.bool a) (.bool b):Sem Value).run P w =.ok (.bool (if neg then !(a==b)else a==b)) w:=by
 simp only[Sem.run_bind,jv _ t ox oy (.bool a) (.bool b) (λ_ h=>by cases h) (λh=>by cases h),Result.andThen_ok];cases neg<;>simp[binOp,run_equal_bool w t a b hu]
def NK.fits(k:NK)(d:TypeDesc):Prop:=
 match k,d with
 |.ptr,.pointer _ |.sl,.slice _ |.mp,.map _ _ |.fn,.func _ _ _=>True
 |_,_=>False
theorem avq{k:NK}{t:TypeId}{d:TypeDesc}(hu:P.underlying t=some d)(hf:k.fits d){x y:AV}{r:Bool}{cx cy:Value}(h:ah0 k x y=some r)(hx:VR hp L β x cx)(hy:VR hp L β y cy)(n:Nat):
  (Op.equalIn (n+1) t cx cy).run P w =.ok r w/\(∀cs,cx ≠ .agg cs)/\cx ≠ .nilIface/\(binOp .eql t cx cy=do pure (.bool (<-Op.equal t cx cy)))/\(binOp .neq t cx cy=do pure (.bool (!(<-Op.equal t cx cy)))):=by
 unfold ah0 at h;split at h<;>cases h<;>cases hx<;>cases hy<;>cases d<;>simp only[NK.fits]at hf;all_goals refine⟨by simp[Op.equalIn,run_underlying hu],by simp,by simp,?_,?_⟩
 all_goals simp only[binOp]
theorem ay3{k:NK}{neg:Bool}{t:TypeId}{d:TypeDesc}{ox oy:Operand}(hu:P.underlying t=some d)(hf:k.fits d){x y:AV}{r:Bool}{cx cy:Value}(h:ah0 k x y=some r)(hx:VR hp L β x cx)(hy:VR hp L β y cy):
  (do eqGuard (if neg then .neq else .eql) t ox oy cx cy;binOp (if neg then .neq else .eql) t cx cy:Sem Value).run P w =.ok (.bool (if neg then !r else r)) w:=by
 obtain⟨h1,h2,h3,h4,h5⟩:=avq (w:=w) hu hf h hx hy 9999;have h6:(Op.equal t cx cy).run P w =.ok r w:=h1;simp only[Sem.run_bind,jv _ t ox oy cx cy h2 h3,Result.andThen_ok];cases neg
 ·simp only[if_false,Bool.false_eq_true,h4];simp[h6]
 ·simp only[if_true,h5];simp[h6]
theorem so{k:SK}{x y:AV}{r:Bool}{cx cy:Value}{t:TypeId}(hu:P.underlying t=some (match k with |.bool=>.bool |.int k=>.int k |.str=>.string))(h:gn k x y=some r)(hx:VR hp L β x cx)(hy:VR hp L β y cy)(n:Nat):
  (Op.equalIn (n+1) t cx cy).run P w =.ok r w:=by
 cases k with
 |bool=>
  cases hx<;>try(simp[gn]at h;done)
  cases hy<;>try(simp[gn]at h;done)
  simp[gn]at h;subst h;exact run_equalIn_bool w n t _ _ hu
 |int k=>
  unfold gn at h;split at h<;>(try(cases ‹SK.int k=_›; done))<;>(try(cases h;done))
  ·rename_i k0 k1 a k2 b hk0;cases hk0;cases hx;cases hy;split at h
   ·rename_i hk;obtain⟨rfl,rfl⟩:=hk;cases h;exact run_equalIn_int w n t _ _ _ _ hu
   ·cases h
  ·rename_i k0 k1 m i c lo hi y' hk0;cases hk0;split at h
   ·rename_i hk;subst hk;split at h
    ·rename_i b hs;cases h;obtain⟨k',a,b',v',rfl,rfl,h1,h2⟩:=Mj hs hx hy;cases hx;simp[dy,ey,ao8]at h1;subst h1;have:=h2 (.bool _) (.bool _);cases this;exact run_equalIn_int w n t _ _ _ _ hu
    ·cases h
   ·cases h
 |str=>
  cases hx<;>try(simp[gn]at h;done)
  cases hy<;>try(simp[gn]at h;done)
  simp[gn]at h;subst h;rw[run_equalIn_string w n t _ _ hu,nk,nk]
theorem apU:∀ {k1 k2:List SK} {xs ys:List AV} {r:Bool},bA (k1++k2) xs ys=some r->
  ∃r1 r2,bA k1 (xs.take k1.length) (ys.take k1.length)=some r1/\bA k2 (xs.drop k1.length) (ys.drop k1.length)=some r2/\r=(r1&&r2)
 |[],k2,xs,ys,r,h=>⟨true,r,by simp[bA],by simpa using h,by simp⟩
 |k::k1,k2,xs,ys,r,h=>by
  cases xs with
  |nil=>simp[bA]at h
  |cons x xs=>
   cases ys with
   |nil=>simp[bA]at h
   |cons y ys=>
    simp only[List.cons_append,bA]at h;split at h
    ·rename_i a b h1 h2;cases h;obtain⟨r1,r2,h3,h4,rfl⟩:=apU h2;exact⟨a&&r1,r2,by simp[bA,h1,h3],by simpa using h4,by simp[Bool.and_assoc]⟩
    ·cases h
theorem lN:∀ {ks:List SK} {xs ys:List AV} {r:Bool},bA ks xs ys=some r->xs.length=ks.length/\ys.length=ks.length
 |[],[],[],r,h=>by simp
 |[],_::_,_,r,h=>by simp[bA]at h
 |[],[],_::_,r,h=>by simp[bA]at h
 |k::ks,[],_,r,h=>by simp[bA]at h
 |k::ks,_::_,[],r,h=>by simp[bA]at h
 |k::ks,x::xs,y::ys,r,h=>by
  simp only[bA]at h;split at h
  ·rename_i a b h1 h2;have:=lN h2;simp[this.1,this.2]
  ·cases h
theorem Ek{t:TypeId}{n off:Nat}{vs:Array Value}{as:List AV}(hq:hY P t=some (some n))(hR:RL hp L β as vs.toList):∃us:Array Value,(part t vs off).run P w =.ok (.agg us) w/\RL hp L β ((as.drop off).take n) us.toList:=by
 obtain⟨q1,q2⟩:=vd (w:=w) hq;refine⟨vs.extract off (off+n),?_,?_⟩
 ·simp only[part,Sem.run_bind,q1,Result.andThen_ok,if_true,q2,Sem.run_pure]
 ·have:=(hR.drop off).take n;simpa[List.extract_eq_take_drop]using this
theorem DF{t:TypeId}{off:Nat}{vs:Array Value}{as:List AV}{c:AV}(hq:hY P t=some none)(hR:RL hp L β as vs.toList)(hc:as[off]?=some c):∃v,(part t vs off).run P w =.ok v w/\VR hp L β c v:=by
 obtain⟨v,h1,h2⟩:=hR.get hc;refine⟨v,?_,h2⟩;have h3:vs[off]?=some v:=by simpa using h1
 simp[part,Sem.run_bind,u3 hq,h3]
theorem aaM:∀(d:Nat) (t:TypeId) (ks:List SK),n_ P d t=some ks->∀(n:Nat) (xs ys:List AV) (r:Bool),d<=n->bA ks xs ys=some r->
  (∀k x y cx cy,ks=[k]->xs=[x]->ys=[y]->VR hp L β x cx->VR hp L β y cy->hY P t=some none->(Op.equalIn n t cx cy).run P w =.ok r w)/\
  (∀(vx vy:Array Value),(∃m,hY P t=some m/\m.isSome)->RL hp L β xs vx.toList->RL hp L β ys vy.toList->(Op.equalIn n t (.agg vx) (.agg vy)).run P w =.ok r w):=by
 intro d;induction d with
 |zero=>intro t ks h;simp[n_]at h
 |succ d ih=>
  intro t ks hk n xs ys r hn he;obtain⟨n,rfl⟩:∃m,n=m+1:=⟨n-1,by omega⟩;unfold n_ at hk;split at hk;case h_1 hu=>
   cases hk;refine⟨λk x y cx cy h1 h2 h3 hx hy _=>?_,λvx vy ⟨m,hm,hs⟩=>by simp[hY,hu]at hm;subst hm;cases hs⟩;cases h1;subst h2;subst h3;simp only[bA]at he;split at he
   ·rename_i a b h4 h5;cases h5;cases he;rw[Bool.and_true];exact so (k:=.bool) hu h4 hx hy n
   ·cases he
  case h_2 k0 hu=>
   cases hk;refine⟨λk x y cx cy h1 h2 h3 hx hy _=>?_,λvx vy ⟨m,hm,hs⟩=>by simp[hY,hu]at hm;subst hm;cases hs⟩;cases h1;subst h2;subst h3;simp only[bA]at he;split at he
   ·rename_i a b h4 h5;cases h5;cases he;rw[Bool.and_true];exact so (k:=.int k0) hu h4 hx hy n
   ·cases he
  case h_3 hu=>
   cases hk;refine⟨λk x y cx cy h1 h2 h3 hx hy _=>?_,λvx vy ⟨m,hm,hs⟩=>by simp[hY,hu]at hm;subst hm;cases hs⟩;cases h1;subst h2;subst h3;simp only[bA]at he;split at he
   ·rename_i a b h4 h5;cases h5;cases he;rw[Bool.and_true];exact so (k:=.str) hu h4 hx hy n
   ·cases he
  case h_4 fs hu=>
   split at hk
   ·cases hk
   ·rename_i hsi;refine⟨λk x y cx cy h1 h2 h3 hx hy ha=>?_,λvx vy _ hx hy=>?_⟩
    ·simp[hY,hu]at ha
    ·have hfo:P.fieldsOf t=fs:=by simp[Program.fieldsOf,hu]
     rw[run_equalIn_struct w n t vx vy (by rw[hfo];exact hu) (by simpa using hsi),hfo];have key:∀(l:List Field) (off:Nat) (ks:List SK) (r:Bool),sD P (n_ P d) off l=some ks->bA ks (xs.drop off) (ys.drop off)=some r->(Op.eqFields n vx vy l).run P w =.ok r w:=by
      intro l;induction l with
      |nil=>
       intro off ks r h1 h2;simp[sD]at h1;subst h1;have hl:=lN h2;cases hxs:xs.drop off with
       |cons a b=>rw[hxs]at hl;simp at hl
       |nil=>
        cases hys:ys.drop off with
        |cons a b=>rw[hys]at hl;simp at hl
        |nil=>rw[hxs,hys]at h2;simp[bA]at h2;subst h2;simp[Op.eqFields]
      |cons f l ihl=>
       intro off ks r h1 h2;simp only[sD]at h1;split at h1
       ·cases h1
       ·rename_i hnm;cases hf:n_ P d f.type with
        |none=>simp[hf]at h1
        |some k1=>
         simp only[hf]at h1;split at h1
         ·rename_i hsz;cases xV:sD P (n_ P d) (off+k1.length) l with
          |none=>simp[xV]at h1
          |some k2=>
           simp only[xV]at h1;cases h1;obtain⟨r1,r2,h3,h4,rfl⟩:=apU h2;rw[List.drop_drop,List.drop_drop]at h4;have h5:=ihl _ _ _ xV h4;have agT:f.offset=off:=by
            by_cases h6:f.offset=off
            ·exact h6
            ·exact absurd (Or.inr h6) hnm
           have ET:f.name ≠ "_":=λh6=>hnm (Or.inl h6)
           obtain⟨h6,h7⟩:=ih f.type k1 hf n ((xs.drop off).take k1.length) ((ys.drop off).take k1.length) r1 (by omega) h3;have agS:∃a b,(part f.type vx f.offset).run P w =.ok a w/\(part f.type vy f.offset).run P w =.ok b w/\(Op.equalIn n f.type a b).run P w =.ok r1 w:=by
            cases ha:hY P f.type with
            |none=>
             exfalso;cases d with
             |zero=>simp[n_]at hf
             |succ d=>
              unfold n_ at hf;unfold hY at ha;cases hu2:P.underlying f.type with
              |none=>simp[hu2]at hf
              |some dd=>cases dd<;>simp[hu2]at hf ha<;>rw[hsz]at ha<;>cases ha
            |some m=>
             cases m with
             |none=>
              have U_:∃k,k1=[k]:=by
               cases d with
               |zero=>simp[n_]at hf
               |succ d=>
                unfold n_ at hf;unfold hY at ha;cases hu2:P.underlying f.type with
                |none=>simp[hu2]at hf
                |some dd=>
                 cases dd<;>simp[hu2]at hf ha
                 ·exact⟨_,hf.symm⟩
                 ·exact⟨_,hf.symm⟩
                 ·exact⟨_,hf.symm⟩
              obtain⟨k,rfl⟩:=U_;have hl3:=lN h3;match hxa:(xs.drop off).take [k].length,hya:(ys.drop off).take [k].length,hl3 with
              |[a],[b],_=>
               have hga:xs[off]?=some a:=by
                have:((xs.drop off).take [k].length)[0]?=some a:=by rw[hxa];rfl
                simpa[List.getElem?_take,List.getElem?_drop]using this
               have hgb:ys[off]?=some b:=by
                have:((ys.drop off).take [k].length)[0]?=some b:=by rw[hya];rfl
                simpa[List.getElem?_take,List.getElem?_drop]using this
               obtain⟨va,p1,q1⟩:=DF (P:=P) (w:=w) ha hx hga;obtain⟨vb,p2,q2⟩:=DF (P:=P) (w:=w) ha hy hgb;rw[agT];exact⟨va,vb,p1,p2,h6 k a b va vb rfl hxa hya q1 q2 ha⟩
             |some m=>
              have hm:m=k1.length:=by
               unfold hY at ha;cases hu2:P.underlying f.type with
               |none=>simp[hu2]at ha
               |some dd=>
                cases dd<;>simp[hu2]at ha;all_goals (rw[hsz]at ha;cases ha;rfl)
              subst hm;obtain⟨ua,p1,q1⟩:=Ek (P:=P) (w:=w) (off:=off) ha hx;obtain⟨ub,p2,q2⟩:=Ek (P:=P) (w:=w) (off:=off) ha hy;rw[agT];exact⟨_,_,p1,p2,h7 ua ub ⟨_,ha,rfl⟩ q1 q2⟩
           obtain⟨a,b,p1,p2,p3⟩:=agS;simp only[Op.eqFields,ET,ne_eq,not_false_eq_true,if_true,Sem.run_bind,p1,p2,p3,Result.andThen_ok];cases r1
           ·simp
           ·simpa using h5
         ·cases h1
     exact key fs.toList 0 ks r hk (by simpa using he)
  case h_5=>cases hk
end
abbrev amU:=@if_neg
abbrev amW:=@Option.bind_eq_some_iff
abbrev amX:=@List.length_append
abbrev amV:=@List.getElem?_eq_some_iff
abbrev amZ:=@Bool.and_eq_true
abbrev am0:=@List.getElem?_eq_getElem
abbrev amY:=@Nat.le_refl
abbrev am6:=@List.length_cons
abbrev am1:=@if_pos
abbrev am8:=@List.eq_nil_of_length_eq_zero
abbrev anc:=@List.take_of_length_le
abbrev anb:=@List.getElem?_map
abbrev am4:=@Option.some.injEq
abbrev anp:=@not_false_eq_true
abbrev am3:=@List.length_drop
abbrev am9:=@List.mem_of_getElem?
abbrev ane:=@Nat.le_trans
abbrev am_:=@Eq.trans
abbrev anh:=@List.getD_eq_getElem?_getD
abbrev am5:=@List.append_nil
abbrev ani:=@Result.andThen_ok
abbrev anx:=@List.nil_append
abbrev anB:=@List.cons_append
abbrev ana:=@decide_eq_true_eq
abbrev anu:=@Int.eq_ofNat_of_zero_le
abbrev anr:=@List.length_nil
abbrev anO:=@List.map_cons
abbrev am2:=@List.length_singleton
abbrev anm:=@Option.map_eq_some_iff
abbrev anT:=@List.mem_cons
abbrev anl:=@List.getElem?_drop
abbrev anq:=@Sem.run_bind
abbrev anj:=@List.getElem?_append_right
abbrev anA:=@decide_eq_true
abbrev aod:=@List.getElem?_append
abbrev anw:=@decide_eq_false
abbrev anK:=@List.all_eq_true
abbrev anZ:=@List.getElem?_take
abbrev anJ:=@run_underlying
abbrev anz:=@List.getElem?_append_left
abbrev anv:=@Array.getElem?_eq_some_iff
abbrev aok:=@List.append_assoc
abbrev am7:=@Bool.false_eq_true
abbrev ant:=@Nat.lt_of_lt_of_le
abbrev anN:=@List.length_take
abbrev anG:=@Sem.run_pure
abbrev an3:=@false_and
abbrev aob:=@Bool.beq_eq_decide_eq
abbrev an5:=@and_false
abbrev anf:=@List.drop_eq_nil_of_le
abbrev aoo:=@Nat.zero_le
abbrev anL:=@List.getElem_mem
abbrev ang:=@List.drop_eq_getElem_cons
abbrev aoa:=@List.getElem?_eq_none
abbrev an0:=@List.mem_map
abbrev anI:=@List.length_pos_iff
abbrev anS:=@Nat.mul_le_mul_right
abbrev anH:=@if_true
abbrev anV:=@Bool.or_eq_true
abbrev anU:=@Array.getElem?_setIfInBounds_ne
abbrev anW:=@Option.some.inj
abbrev aor:=@List.length_map
abbrev aCf:=@Array.getElem?_eq_getElem
abbrev anP:=@List.mem_append
abbrev an4:=@List.drop_drop
abbrev aof:=@List.takeWhile_cons_of_pos
abbrev aoq:=@List.map_nil
abbrev an1:=@List.foldl_cons
abbrev aoC:=@List.map_append
abbrev anY:=@Nat.add_mul
abbrev anX:=@Bool.not_eq_true'
abbrev an8:=@Nat.eq_of_beq_eq_true
abbrev an9:=@List.take_append_drop
abbrev an6:=@List.flatten_cons
abbrev ans:=@if_false
abbrev anE:=@List.length_eq_zero_iff
abbrev anQ:=@List.mem_singleton
abbrev aoe:=@Nat.zero_add
abbrev aou:=@Int.toNat_natCast
abbrev aCh:=@List.take_add_one
abbrev an7:=@List.getElem?_zip_eq_some
abbrev aoi:=@Nat.lt_or_ge
abbrev aCi:=@Array.getElem?_modify
abbrev aCg:=@List.take_length
abbrev ano:=@decide_eq_false_iff_not
abbrev an2:=@beq_iff_eq
abbrev aCk:=@List.size_toArray
abbrev aCl:=@Array.length_toList
abbrev aog:=@List.takeWhile_cons_of_neg
abbrev aoc:=@List.not_mem_nil
abbrev aCm:=@List.findIdx?_eq_some_iff_getElem
abbrev aoj:=@List.take_succ_eq_append_getElem
abbrev aos:=@Decidable.not_not
abbrev aol:=@Nat.testBit_two_pow
abbrev aox:=@List.drop_succ_cons
abbrev aoE:=@List.all_cons
abbrev aon:=@Bool.true_eq_false
abbrev aoy:=@Nat.add_zero
abbrev aoK:=@Nat.le_of_ble_eq_true
abbrev aoQ:=@Nat.succ_mul
abbrev aCp:=@List.mem_of_mem_take
abbrev anC:=@Bool.or_eq_false_iff
abbrev aCq:=@List.forall_mem_cons
abbrev aov:=@Nat.testBit_or
abbrev aCr:=@Array.toList_append
abbrev aoA:=@Nat.add_assoc
abbrev aCs:=@grownCap_le_maxLen
abbrev aoB:=@cond_true
abbrev aCt:=@List.getElem?_cons_succ
abbrev aCu:=@Option.toList_some
abbrev aCv:=@Array.getElem?_extract
abbrev aCw:=@Array.size_append
abbrev aCx:=@List.ext_getElem?
abbrev aoI:=@Nat.or_lt_two_pow
abbrev aCy:=@Bool.eq_false_iff
abbrev aCz:=@heap_alloc_new
abbrev aoJ:=@List.mem_range
abbrev aCA:=@List.take_left
abbrev an_:=@Bool.and_eq_false_iff
abbrev aoM:=@List.drop_length
abbrev aoH:=@Nat.one_mul
abbrev aCB:=@setRow_other
abbrev aCC:=@List.map_map
