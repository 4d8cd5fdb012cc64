/- Methods on one owned object: entries of a table; what such a method leaves. -/
import Derived.Test.YtndpneieplopaaaGreatDoorStB
import Derived.ChangeArms
import Derived.ChangeSame
import Derived.Handy
import Derived.Test.YtndpneieplopaaaGreatDoorProg
import Derived.KernelRfl
set_option linter.unusedSimpArgs false
set_option linter.unusedVariables false
noncomputable section
namespace Go.Eng
structure Ob(h h1:AH)(id:Nat)(cs:LA):Prop where
 c:h1.ab id=some cs
 nx:h.nx<=h1.nx
 get:∀i,i≠id->i<h.nx->h1.H.get i=h.H.get i
theorem Ob.start{h:AH}{id:Nat}{cs:LA}(hc:h.ab id=some cs):Ob h h id cs:=⟨hc,amY _,λ_ _ _=>rfl⟩
theorem Ob.bump{h h1:AH}{id:Nat}{cs:LA}(o:Ob h h1 id cs)(k:Nat)(hk:h1.nx<=k):Ob h ⟨h1.H,k⟩ id cs:=⟨o.c,ane o.nx hk,o.get⟩
theorem Ob.set{h h1:AH}{id:Nat}{cs:LA}(o:Ob h h1 id cs)(cs2:LA):Ob h (h1.set id (.cells cs2)) id cs2:=
 ⟨eD _ _ _ _ rfl,o.nx,λi hi hl=>by rw[au,amU hi];exact o.get i hi hl⟩
theorem Ob.lt{h h1:AH}{id:Nat}{cs:LA}(o:Ob h h1 id cs)(hid:id<h.nx):id<h1.nx:=ant hid o.nx
theorem Ob.new{h h1 h2:AH}{id:Nat}{cs:LA}(o:Ob h h1 id cs)(hid:id<h.nx)(h3:h1.nx<=h2.nx)(h4:∀i,i<h1.nx->h2.H.get i=h1.H.get i):Ob h h2 id cs:=
 ⟨(ay (h4 id (o.lt hid))).trans o.c,ane o.nx h3,λi hi hl=>by rw[h4 i (ant hl o.nx)];exact o.get i hi hl⟩
def vt(cs:LA):Prop:=∀H:AH,ea H false cs cs
theorem bm{P:Program}{f:Nat}{args:LA}{h:AH}{v:AV}{id:Nat}{cs:LA}{R:QT}(hid:id<h.nx)(hp:vt cs)(hc:aJ P f args h R)
  (hR:∀v' h',R v' h'->Frz (fresh h' h.nx) false v' v/\Ob h h' id cs):aK P f args h v (h.set id (.cells cs)):=by
 refine AF hc rfl (λi hi=>?_) λv' h' hq=>⟨(hR v' h' hq).1,λi hi=>?_⟩
 ·show(h.set id _).H.get i=_
  rw[au,amU (by omega)]
 ·have ho:=(hR v' h' hq).2;by_cases he:i=id
  ·subst he;exact .inr ⟨cs,cs,gN ho.c,by rw[au,am1 rfl],hp _⟩
  ·exact .inl ⟨by rw[au,amU he],ho.get i he hi⟩
theorem aZ{P:Program}{f:Nat}{args:LA}{h:AH}{v:AV}{R:QT}(hc:aJ P f args h R)
  (hR:∀v' h',R v' h'->Frz (fresh h' h.nx) false v' v/\h.nx<=h'.nx/\∀i,i<h.nx->h'.H.get i=h.H.get i):aK P f args h v h:=
 RZ hc λv' h' hq=>⟨(hR v' h' hq).1,(hR v' h' hq).2.2⟩
def QE.obj{P:Program}(f:Nat)(J:AH->Nat->Prop){σ α:Type}(enc:σ->LA)(ag:α->LA)(pre:σ->α->Prop)(res:σ->α->AV)(post:σ->α->σ)
  (ok:∀(h:AH) (id:Nat) (s:σ) (a:α),J h id->h.ab id=some (enc s)->id<h.nx->pre s a->aK P f (.ptr id 0::ag a) h (res s a) (h.set id (.cells (enc (post s a))))):QE P:=
 ⟨f,λargs h Q=>∃id s a,args =.ptr id 0::ag a/\J h id/\h.ab id=some (enc s)/\id<h.nx/\pre s a/\Q (res s a) (h.set id (.cells (enc (post s a)))),λargs h Q ⟨id,s,a,h1,h0,h2,h3,h4,h5⟩=>by
  subst h1;exact⟨_,_,ok h id s a h0 h2 h3 h4,h5⟩⟩
def QE.abx{P:Program}(f:Nat)(J:AH->Nat->Prop){σ α:Type}(enc:σ->LA)(ag:α->LA)(pre:σ->α->Prop)(res:σ->α->AV)
  (ok:∀(h:AH) (id:Nat) (s:σ) (a:α),J h id->h.ab id=some (enc s)->id<h.nx->pre s a->aK P f (.ptr id 0::ag a) h (res s a) h):QE P:=
 ⟨f,λargs h Q=>∃id s a,args =.ptr id 0::ag a/\J h id/\h.ab id=some (enc s)/\id<h.nx/\pre s a/\Q (res s a) h,λargs h Q ⟨id,s,a,h1,h0,h2,h3,h4,h5⟩=>by
  subst h1;exact⟨_,_,ok h id s a h0 h2 h3 h4,h5⟩⟩
def QE.fn{P:Program}(f:Nat)(J:AH->Prop){α:Type}(ag:α->LA)(pre:α->AH->Prop)(res:α->AV)(ok:∀(h:AH) (a:α),J h->pre a h->aK P f (ag a) h (res a) h):QE P:=
 ⟨f,λargs h Q=>∃a,args=ag a/\J h/\pre a h/\Q (res a) h,λargs h Q ⟨a,h1,h0,h2,h3⟩=>by
  subst h1;exact⟨_,_,ok h a h0 h2,h3⟩⟩
theorem bF{P:Program}{f:Nat}{J:AH->Nat->Prop}{σ α:Type}{enc:σ->LA}{ag:α->LA}{pre:σ->α->Prop}{res:σ->α->AV}{post:σ->α->σ}{ok}{tl:List (QE P)}{h:AH}{id:Nat}{s:σ}(a:α){Q:QT}
  (hJ:J h id) (hc:h.ab id=some (enc s)) (hid:id<h.nx) (hp:pre s a) (hq:Q (res s a) (h.set id (.cells (enc (post s a))))):tb (QE.obj f J enc ag pre res post ok::tl) f (.ptr id 0::ag a) h Q:=by
 rw[dJ _ tl f _ _ _ rfl];exact⟨id,s,a,rfl,hJ,hc,hid,hp,hq⟩
theorem y_{P:Program}{f:Nat}{J:AH->Nat->Prop}{σ α:Type}{enc:σ->LA}{ag:α->LA}{pre:σ->α->Prop}{res:σ->α->AV}{ok}{tl:List (QE P)}{h:AH}{id:Nat}{s:σ}(a:α){Q:QT}
  (hJ:J h id) (hc:h.ab id=some (enc s)) (hid:id<h.nx) (hp:pre s a) (hq:Q (res s a) h):tb (QE.abx f J enc ag pre res ok::tl) f (.ptr id 0::ag a) h Q:=by
 rw[dJ _ tl f _ _ _ rfl];exact⟨id,s,a,rfl,hJ,hc,hid,hp,hq⟩
theorem aV{P:Program}{f:Nat}{J:AH->Prop}{α:Type}{ag:α->LA}{pre:α->AH->Prop}{res:α->AV}{ok}{tl:List (QE P)}{h:AH}(a:α){Q:QT}
  (hJ:J h) (hp:pre a h) (hq:Q (res a) h):tb (QE.fn f J ag pre res ok::tl) f (ag a) h Q:=by
 rw[dJ _ tl f _ _ _ rfl];exact⟨a,rfl,hJ,hp,hq⟩
def Gx(V:List (Nat×LA))(h:AH):Prop:=∀g cs,(g,cs)∈V->h.H.get g=some (.iq g cs)
open Go.St
theorem bC{h:AH}{s:Str}{p:Nat}{c:UInt8}(hx:s[p]?=some c):dH h (.str s) (I p)=some (.int .u8 c.toNat,h):=by
 have hp:p<s.length:=(amV.1 hx).1;have he:s[p]=c:=by
  have:=am0 hp;rw[hx]at this;exact(anW this).symm
 simp[dH,aix,oc,hp,he]
theorem b8(c d:UInt8):((c.toNat:Int)==(d.toNat:Int))=(c==d):=by
 cases h:(c==d)with
 |true=>have:=eq_of_beq h;subst this;simp
 |false=>
  have hn:c≠d:=by simpa using h
  have:c.toNat≠d.toNat:=λe=>hn (UInt8.toNat_inj.1 e)
  simp;omega
theorem b8n(c d:UInt8):((c.toNat:Int) != (d.toNat:Int))=(c != d):=by
 show(!((c.toNat:Int)==(d.toNat:Int))) = !(c==d)
 rw[b8]
theorem AY(c:UInt8):((c.toNat:Int) != 32)=(c != 32):=b8n c 32
theorem Ke(c:UInt8):((c.toNat:Int)==34)=(c==34):=b8 c 34
theorem Ax(c:UInt8):((c.toNat:Int) != 34)=(c != 34):=b8n c 34
theorem adQ(c:UInt8):((c.toNat:Int)==91)=(c==91):=b8 c 91
theorem JR(c:UInt8):((c.toNat:Int)==92)=(c==92):=b8 c 92
theorem SN(c:UInt8):((c.toNat:Int) != 93)=(c != 93):=b8n c 93
theorem Uj(c:UInt8):((c.toNat:Int)==110)=(c==110):=b8 c 110
theorem ZE(h:AH):kX h (.ym false) [.gf]=some (.bool true,h):=am_ rfl rfl
theorem XP(h:AH)(t:TypeId)(v:AV):kX h (.ym false) [.iface t v]=some (.bool false,h):=am_ rfl rfl
theorem nG{h:AH}{s:Str}{a b:Nat}(h1:a<=b)(h2:b<=s.length):gI h (.str s) (some (I a)) (some (I b))=some (.str ((s.drop a).take (b-a)),h):=by
 have q1:(a:Int)<=b:=by omega
 have q2:(b:Int)<=s.length:=by omega
 simp[gI,mC,abd,oc,q1,q2,cut]
theorem Tj{α:Type}(p:α->Bool):∀(l:List α) (j:Nat),j<=(l.takeWhile p).length->(j<(l.takeWhile p).length↔∃x,l[j]?=some x/\p x=true)
 |[],j,_=>by simp
 |a::l,j,hj=>by
  by_cases ha:p a=true
  ·rw[aof ha]at hj ⊢;cases j with
   |zero=>simp[ha]
   |succ j=>
    have:=Tj p l j (by simpa using hj);simpa using this
  ·rw[aog ha]at hj ⊢;simp at hj;subst hj;simp[ha]
theorem Mr{α:Type}(p:α->Bool)(l:List α):l.take (l.takeWhile p).length=l.takeWhile p:=by
 induction l with
 |nil=>rfl
 |cons a l ih=>
  by_cases ha:p a=true
  ·rw[aof ha];simp[ih]
  ·rw[aog ha];simp
theorem mD{α:Type}(p:α->Bool)(l:List α):(l.takeWhile p).length<=l.length:=(List.takeWhile_sublist p).length_le
open Go.RowKit
inductive SH where
 |int (k:IntKind)
 |bool
 |str
 |sl (e:List SH)
mutual
inductive DN:AV->SH->Prop where
 |int (k:IntKind) (n:Int) (h:(Lit.int k n).wf=true):DN (.int k n) (.int k)
 |bool (b:Bool):DN (.bool b) .bool
 |str (s:List UInt8) (h:s.length<=maxLen):DN (.str s) .str
 |sl (xs:List (List AV)) (e:List SH) (h:xs.length<=maxLen) (hx:∀x∈xs,il x e):DN (.psl xs) (.sl e)
inductive il:List AV->List SH->Prop where
 |nil:il [] []
 |cons (a:AV) (s:SH) (ar:List AV) (ss:List SH) (h:DN a s) (hs:il ar ss):il (a::ar) (s::ss)
end
theorem il.len:∀ {ar:List AV} {ss:List SH},il ar ss->ar.length=ss.length
 |_,_,.nil=>rfl
 |_,_,.cons _ _ _ _ _ hs=>by simp[hs.len]
theorem il.append:∀ {ar bs:List AV} {ss ts:List SH},il ar ss->il bs ts->il (ar++bs) (ss++ts)
 |_,_,_,_,.nil,k=>k
 |_,_,_,_,.cons a s ar ss h hs,k=>.cons a s _ _ h (hs.append k)
def RG(cells:TypeId->Nat)(rec:TypeId->Option (List SH)):Nat->List Field->Option (List SH)
 |_,[]=>some []
 |off,f::fs=>match rec f.type with
  |some s=>if f.offset=off/\s.length=cells f.type then(match RG cells rec (off+s.length) fs with
   |some r=>some (s++r)
   |none=>none)else none
  |none=>none
def Ds(P:Program):Nat->TypeId->Option (List SH)
 |0,_=>none
 |n+1,t=>match P.underlying t with
  |some .bool=>some [.bool]
  |some (.int k)=>some [.int k]
  |some .string=>some [.str]
  |some (.slice e)=>match Ds P n e with
   |some s=>if s.length=P.cellsOf e/\0<s.length then some [.sl s]else none
   |none=>none
  |some (.struct fs)=>match RG P.cellsOf (Ds P n) 0 fs.toList with
   |some s=>if s.length=P.cellsOf t then some s else none
   |none=>none
  |_=>none
theorem tu{α:Type}{p:Nat->α->Prop}:∀(n:Nat),(∀i,i<n->∃y,p i y)->∃l:List α,l.length=n/\∀i y,l[i]?=some y->p i y
 |0,_=>⟨[],rfl,λi y h=>by simp at h⟩
 |n+1,h=>by
  obtain⟨l,h1,h2⟩:=tu n λi hi=>h i (by omega)
  obtain⟨y,hy⟩:=h n (by omega);refine⟨l++[y],by simp[h1],λi z hz=>?_⟩;rw[aod]at hz;split at hz
  ·exact h2 i z hz
  ·rename_i hi;have:i=n:=by
    have:=(amV.1 hz).1;simp at this;omega
   subst this;simp[h1]at hz;subst hz;exact hy
section
variable {H:Type} {enc:TypeId×Value->H} {P:Program} {w:World} {spare:Nat->Bool} {held:Bool} {L:Nat->Prop}
def Ta(w:World)(L:Nat->Prop)(ar:List AV)(cs:List Value):Prop:=ar.length=cs.length/\∀(i:Nat) (c:AV) (v:Value),ar[i]?=some c->cs[i]?=some v->VR w.heap L noB c v
theorem Jp(hL:∀b,¬L b){n m:Nat}{cs:List Value}(ih:∀(t:TypeId) (s:List SH) (cs:List Value) (x:DataW H×List MemPlace),Ds P m t=some s->DataW.trod enc P w 0 spare held n t cs=some x->∃ar,il ar s/\Ta w L ar cs):
  ∀(fl:List Field) (off:Nat) (s:List SH),RG P.cellsOf (Ds P m) off fl=some s->(∀f∈fl,∃y,DataW.trod enc P w 0 spare held n f.type ((cs.drop f.offset).take (P.cellsOf f.type))=some y)->
   ∃ar,il ar s/\∀(i:Nat) (c:AV) (v:Value),ar[i]?=some c->cs[off+i]?=some v->VR w.heap L noB c v
 |[],off,s,hs,_=>by simp[RG]at hs;subst hs;exact⟨[],.nil,λi c v h=>by simp at h⟩
 |f::fl,off,s,hs,hf=>by
  unfold RG at hs;split at hs;case h_2=>cases hs
  rename_i s1 h1;split at hs;case isFalse=>cases hs
  rename_i h2;split at hs;case h_2=>cases hs
  rename_i r h3;cases hs;obtain⟨y,hy⟩:=hf f (by simp);obtain⟨ar,q1,q2⟩:=ih _ _ _ _ h1 hy;obtain⟨bs,q3,q4⟩:=Jp hL ih fl _ _ h3 λg hg=>hf g (by simp[hg])
  have hl:=q1.len;refine⟨ar++bs,q1.append q3,λi c v k1 k2=>?_⟩;rw[aod]at k1;split at k1
  ·rename_i hi;refine q2.2 i c v k1 ?_;rw[anZ,am1 (by omega),anl,h2.1];exact k2
  ·rename_i hi;refine q4 (i-ar.length) c v k1 ?_;rw[<-k2];congr 1;omega
theorem Cv(hL:∀b,¬L b):∀(n m:Nat) (t:TypeId) (s:List SH) (cs:List Value) (x:DataW H×List MemPlace),Ds P m t=some s->DataW.trod enc P w 0 spare held n t cs=some x->∃ar,il ar s/\Ta w L ar cs
 |0,m,t,s,cs,x,_,h=>by simp[DataW.trod]at h
 |n+1,0,t,s,cs,x,hs,_=>by simp[Ds]at hs
 |n+1,m+1,t,s,cs,x,hs,h=>by
  unfold Ds at hs;split at hs
  ·rename_i ht;cases hs;obtain⟨b,rfl,_⟩:=DataW.trod_bool ht h;exact⟨[.bool b],.cons _ _ _ _ (.bool b) .nil,rfl,λi c v h1 h2=>by
    match i with
    |0=>simp at h1 h2;subst h1;subst h2;exact .bool b
    |i+1=>simp at h1⟩
  ·rename_i k ht;cases hs;obtain⟨z,rfl,_,hw⟩:=DataW.trod_int ht h;exact⟨[.int k z],.cons _ _ _ _ (.int k z hw) .nil,rfl,λi c v h1 h2=>by
    match i with
    |0=>simp at h1 h2;subst h1;subst h2;exact .int k z
    |i+1=>simp at h1⟩
  ·rename_i ht;cases hs;obtain⟨z,rfl,_,hw⟩:=DataW.trod_string ht h;refine⟨[.str z.data.toList],.cons _ _ _ _ (.str _ (by simpa using hw)) .nil,rfl,λi c v h1 h2=>?_⟩;match i with
   |0=>
    simp at h1 h2;subst h1;subst h2;have:z=⟨z.data.toList.toArray⟩:=by cases z;simp
    rw[this];exact .str _
   |i+1=>simp at h1
  ·rename_i e ht;split at hs;case h_2=>cases hs
   rename_i s1 h1;split at hs;case isFalse=>cases hs
   rename_i h2;cases hs;rcases DataW.trod_slice ht h with⟨rfl,_⟩|⟨a,len,cap,elems,S1,n',hn,rfl,_,_,hlc,hcm,hel,hx,_,_⟩
   ·refine⟨[.psl []],.cons _ _ _ _ (.sl [] _ (by simp) (λx hx=>by simp at hx)) .nil,rfl,λi c v q1 q2=>?_⟩;match i with
    |0=>simp at q1 q2;subst q1;subst q2;exact .jS none 0
    |i+1=>simp at q1
   ·cases hn;have each:∀i,i<len->∃ar:List AV,il ar s1/\∃ds,w.cells? 0 (a.add (i*P.cellsOf e)) (P.cellsOf e)=some ds/\Ta w L ar ds:=by
     intro i hi;have:=hx i hi;obtain⟨y,hy⟩:∃y,elems[i]?=some y:=⟨elems[i],by simp[hel,hi]⟩;rw[hy,amW]at this;obtain⟨ds,q1,q2⟩:=this;obtain⟨ar,q3,q4⟩:=Cv hL n m e s1 ds y h1 q2;exact⟨ar,q3,ds,q1,q4⟩
    obtain⟨l,hl1,hl2⟩:=tu len each;have ab2:∀x∈l,il x s1:=λx hx=>by
     obtain⟨i,hi⟩:=List.getElem?_of_mem hx;exact(hl2 i x hi).1
    refine⟨[.psl l],.cons _ _ _ _ (.sl l s1 (by omega) ab2) .nil,rfl,λi c v q1 q2=>?_⟩;match i with
    |i+1=>simp at q1
    |0=>
     simp at q1 q2;subst q1;subst q2;by_cases hz:len=0
     ·subst hz;have:l=[]:=anE.1 hl1;subst this;exact .jS _ _
     ·-- the block
      have Jb:∀i j,i<len->j<s1.length->∃v,w.cell? (a.add (i*P.cellsOf e+j))=some v/\∀x c,l[i]?=some x->x[j]?=some c->VR w.heap L noB c v:=by
       intro i j hi hj;obtain⟨y,hy⟩:∃y,l[i]?=some y:=⟨l[i]'(by omega),by simp[hl1,hi]⟩;obtain⟨q3,ds,q4,q5⟩:=hl2 i y hy;obtain⟨_,q6,q7⟩:=World.cells?_some q4;have hj2:j<ds.length:=by omega
       have:=q7 j (by omega);rw[show(a.add (i*P.cellsOf e)).add j=a.add (i*P.cellsOf e+j)by unfold Addr.add;(repeat' split)<;>simp_all [aoA]]at this;refine⟨ds[j],by rw[this];simp[hj2],λx c k1 k2=>?_⟩;rw[hy]at k1;cases k1;exact q5.2 j c _ k2 (by simp[hj2])
      obtain⟨v0,hv0,_⟩:=Jb 0 0 (by omega) h2.2;obtain⟨b,o,sp⟩:=a;have hsp:sp=none:=by
       have:=World.cell?_spot hv0;simpa[Addr.add]using this
      subst hsp;have U8:∀n,(⟨b,o,none⟩:Addr).add n=⟨b,o+n,none⟩:=λn=>jl b o n
      rw[U8]at hv0;obtain⟨cur,et,fz,hb⟩:∃cur et fz,w.heap[b]?=some (.cells cur et fz):=by
       unfold World.cell? at hv0;split at hv0
       ·rename_i c et fz hq;exact⟨c,et,fz,hq⟩
       ·cases hv0
      have tS:∀n v,w.cell? ⟨b,o+n,none⟩=some v->cur[o+n]?=some v:=by
       intro n v hv;unfold World.cell? at hv;simp only[hb]at hv;simpa using hv
      have hsz:o+l.length*s1.length<=cur.size:=by
       obtain⟨v1,hv1,_⟩:=Jb (len-1) (s1.length-1) (by omega) (by omega);rw[U8]at hv1;have:=(anv.1 (tS _ _ hv1)).1;rw[<-h2.1]at this;rw[hl1];have h4:len*s1.length=(len-1)*s1.length+s1.length:=by
        conv=>lhs;rw[show len=(len-1)+1 by omega]
        rw[aoQ]
       have:=h2.2;omega
      have:=VR.psl (hp:=w.heap) (L:=L) (β:=noB) l s1.length b o cap cur et fz hb (hL b) hsz (λi x hi=>(hl2 i x hi).1.len) (by omega) (λi x j c v k1 k2 k3=>?_)
      ·rw[hl1]at this;exact this
      ·have hi:i<len:=by have:=(amV.1 k1).1;omega
       have hj:j<s1.length:=by
        have:=(amV.1 k2).1;rw[(hl2 i x k1).1.len]at this;exact this
       obtain⟨v1,hv1,hv2⟩:=Jb i j hi hj;rw[U8]at hv1;have:=tS _ _ hv1;rw[<-h2.1,<-aoA]at this;rw[k3]at this;cases this;exact hv2 x c k1 k2
  ·rename_i fs ht;split at hs;case h_2=>cases hs
   rename_i s1 h1;split at hs;case isFalse=>cases hs
   rename_i h2;cases hs;obtain⟨xs,n',hn,_,hlen,hxl,hf⟩:=DataW.trod_struct ht h;cases hn;obtain⟨ar,q1,q2⟩:=Jp (cs:=cs) hL (λt s cs x a b=>Cv hL n m t s cs x a b) fs.toList 0 s h1 λf hfm=>by
    obtain⟨i,hi⟩:=List.getElem?_of_mem hfm;have hi2:fs[i]?=some f:=by simpa using hi
    have hlt:i<fs.size:=(anv.1 hi2).1;exact⟨xs[i]'(by omega),by rw[hf i f hi2];simp[hxl,hlt]⟩
   exact⟨ar,q1,by rw[q1.len,hlen];exact h2,λi c v k1 k2=>q2 i c v k1 (by rw[aoe];exact k2)⟩
  ·cases hs
end
open Go.RowKit
def wA(g:AV)(r:Option (AV×AH))(h:AH)(k:AV->Rec->AH->Prop):Prop:=wgd (gdv true g) (λk=>wdp h r .pure k) h k
@[simp ↓] theorem akL(g:AV)(r:Option (AV×AH))(h:AH)(k:AV->Rec->AH->Prop):wA g r h k=wgd (gdv true g) (λk=>wdp h r .pure k) h k:=am_ rfl rfl
def wB(g:AV)(r:Option (AV×AH))(h:AH)(k:AV->Rec->AH->Prop):Prop:=wgd (gdv false g) (λk=>wdp h r .pure k) h k
@[simp ↓] theorem akl(g:AV)(r:Option (AV×AH))(h:AH)(k:AV->Rec->AH->Prop):wB g r h k=wgd (gdv false g) (λk=>wdp h r .pure k) h k:=am_ rfl rfl
def wC(g:AV)(r:Option (AV×AH))(x:AV)(h:AH)(k:AV->Rec->AH->Prop):Prop:=wgd (gdv true g) (λk=>wdp h r (rdK (rdv x)) k) h k
@[simp ↓] theorem akz(g:AV)(r:Option (AV×AH))(x:AV)(h:AH)(k:AV->Rec->AH->Prop):wC g r x h k=wgd (gdv true g) (λk=>wdp h r (rdK (rdv x)) k) h k:=am_ rfl rfl
def wD(g:AV)(r:Option (AV×AH))(x:AV)(h:AH)(k:AV->Rec->AH->Prop):Prop:=wgd (gdv false g) (λk=>wdp h r (rdK (rdv x)) k) h k
@[simp ↓] theorem akS(g:AV)(r:Option (AV×AH))(x:AV)(h:AH)(k:AV->Rec->AH->Prop):wD g r x h k=wgd (gdv false g) (λk=>wdp h r (rdK (rdv x)) k) h k:=am_ rfl rfl
def wP(h:AH)(r:Option (AV×AH))(k:AV->Rec->AH->Prop):Prop:=wdp h r .pure k
@[simp ↓] theorem akT(h:AH)(r:Option (AV×AH))(k:AV->Rec->AH->Prop):wP h r k=wdp h r .pure k:=am_ rfl rfl
def wR(h:AH)(r:Option (AV×AH))(x:AV)(k:AV->Rec->AH->Prop):Prop:=wdp h r (rdK (rdv x)) k
@[simp ↓] theorem akW(h:AH)(r:Option (AV×AH))(x:AV)(k:AV->Rec->AH->Prop):wR h r x k=wdp h r (rdK (rdv x)) k:=am_ rfl rfl
def gA(g:AV)(r:Option (AV×AH))(h:AH)(k:AV->AH->Prop):Prop:=wg (gdv true g) (λk=>wk r k) h k
@[simp ↓] theorem akK(g:AV)(r:Option (AV×AH))(h:AH)(k:AV->AH->Prop):gA g r h k=wg (gdv true g) (λk=>wk r k) h k:=am_ rfl rfl
def gB(g:AV)(r:Option (AV×AH))(h:AH)(k:AV->AH->Prop):Prop:=wg (gdv false g) (λk=>wk r k) h k
@[simp ↓] theorem akF(g:AV)(r:Option (AV×AH))(h:AH)(k:AV->AH->Prop):gB g r h k=wg (gdv false g) (λk=>wk r k) h k:=am_ rfl rfl
abbrev F(n:Nat):AV:=.func (.func n) [] []
inductive An where
 |j (lo:List Nat)
 |jn (lo:List Nat)
 |l (li lo:List Nat)
def anD(d:Option Nat)(done:List Nat):List Nat:=
 match d with
 |some n=>done.filter λx=> !Nat.beq x n
 |none=>done
def anM(n:Nat):List Nat->Bool
 |[]=>false
 |x::l=>cond (Nat.beq x n) true (anM n l)
def Xe(o:aY)(done:List Nat):Option Nat×List Nat:=
 match o.guard with
 |some (g,_)=>cond (anM g done) (none,anD o.dst done) (some g,anD o.dst (g::done))
 |none=>(none,anD o.dst done)
def CH:List aY->List Nat->List (aY×Option Nat)
 |[],_=>[]
 |o::l,d=>(o,(Xe o d).1)::CH l (Xe o d).2
def Az:List (aY×Nat)->List Nat->List ((aY×Nat)×Option Nat)
 |[],_=>[]
 |o::l,d=>(o,(Xe o.1 d).1)::Az l (Xe o.1 d).2
def vz:List aY->Bool
 |[]=>false
 |o::l=>match o.guard with
  |some _=>true
  |none=>vz l
def w9:List (aY×Nat)->Bool
 |[]=>false
 |o::l=>match o.1.guard with
  |some _=>true
  |none=>w9 l
def R8(ops:List aY):dh:=cond (vz ops) (.I5 (CH ops [])) (.reg ops)
def IE(ops:List (aY×Nat)):dh:=cond (w9 ops) (.xG (Az ops [])) (.draw ops)
def DM(i:Nat):List (Nat×An)->Option An
 |(k,t)::_=>cond (Nat.beq i k) (some t) none
 |[]=>none
def qg(i:Nat):List (Nat×An)->List (Nat×An)
 |(k,t)::l=>cond (Nat.beq i k) l ((k,t)::l)
 |[]=>[]
def yt(a:Option An)(s:dh):dh:=
 match a with
 |some (.j lo)=>.join lo s
 |some (.jn lo)=>.xI lo s
 |_=>s
def Ow(a:Option An)(s:dh):dh:=
 match a with
 |some (.l li lo)=>.loop li lo s
 |_=>.loop [] [] s
structure AnS where
 c:dh
 i:Nat
 l:List (Nat×An)
def ann:apg->Nat->List (Nat×An)->AnS
 |.skip,i,l=>⟨.skip,i,l⟩
 |.reg ops,i,l=>⟨yt (DM i l) (R8 ops),i+1,qg i l⟩
 |.draw ops,i,l=>⟨yt (DM i l) (IE ops),i+1,qg i l⟩
 |.seq a b,i,l=>
  match ann a i l with
  |⟨x,j,l1⟩=>match ann b j l1 with
   |⟨y,k,l2⟩=>⟨.seq x y,k,l2⟩
 |.cond c a b,i,l=>
  match ann a (i+1) (qg i l)with
  |⟨x,j,l1⟩=>match ann b j l1 with
   |⟨y,k,l2⟩=>⟨yt (DM i l) (.cond c x y),k,l2⟩
 |.block id a,i,l=>
  match ann a (i+1) (qg i l)with
  |⟨x,j,l1⟩=>⟨yt (DM i l) (.block id x),j,l1⟩
 |.loop a,i,l=>
  match ann a (i+1) (qg i l)with
  |⟨x,j,l1⟩=>⟨Ow (DM i l) x,j,l1⟩
 |.exit id,i,l=>⟨.exit id,i,l⟩
 |.ret,i,l=>⟨.ret,i,l⟩
 |.stuck,i,l=>⟨.stuck,i,l⟩
 |.rng g ps a b,i,l=>
  match ann a i l with
  |⟨x,j,l1⟩=>match ann b j l1 with
   |⟨y,k,l2⟩=>⟨.rng [] g ps x y,k,l2⟩
theorem xd:∀(l:List aY) (d:List Nat),(CH l d).map (·.1)=l
 |[],_=>rfl
 |o::l,d=>by simp[CH,xd l]
theorem vB:∀(l:List (aY×Nat)) (d:List Nat),(Az l d).map (·.1)=l
 |[],_=>rfl
 |o::l,d=>by simp[Az,vB l]
theorem Oi(ops:List aY):(R8 ops).erase =.reg ops:=by
 unfold R8;cases vz ops
 ·rfl
 ·simp[dh.erase,xd]
theorem MF(ops:List (aY×Nat)):(IE ops).erase =.draw ops:=by
 unfold IE;cases w9 ops
 ·rfl
 ·simp[dh.erase,vB]
theorem rQ(a:Option An)(s:dh):(yt a s).erase=s.erase:=by
 unfold yt;split<;>rfl
theorem Rp(a:Option An)(s:dh):(Ow a s).erase =.loop s.erase:=by
 unfold Ow;split<;>rfl
theorem nJ:∀(c:apg) (i:Nat) (l:List (Nat×An)),(ann c i l).c.erase=c
 |.skip,i,l=>rfl
 |.reg ops,i,l=>by simp only[ann];rw[rQ,Oi]
 |.draw ops,i,l=>by simp only[ann];rw[rQ,MF]
 |.seq a b,i,l=>by
  simp only[ann];have h1:=nJ a i l;have h2:=nJ b (ann a i l).i (ann a i l).l;simp only[dh.erase];rw[h1,h2]
 |.cond c a b,i,l=>by
  simp only[ann];have h1:=nJ a (i+1) (qg i l);have h2:=nJ b (ann a (i+1) (qg i l)).i (ann a (i+1) (qg i l)).l;rw[rQ];simp only[dh.erase];rw[h1,h2]
 |.block id a,i,l=>by
  simp only[ann];have h1:=nJ a (i+1) (qg i l);rw[rQ];simp only[dh.erase];rw[h1]
 |.loop a,i,l=>by
  simp only[ann];have h1:=nJ a (i+1) (qg i l);rw[Rp,h1]
 |.exit id,i,l=>rfl
 |.ret,i,l=>rfl
 |.stuck,i,l=>rfl
 |.rng g ps a b,i,l=>by
  simp only[ann];have h1:=nJ a i l;have h2:=nJ b (ann a i l).i (ann a i l).l;simp only[dh.erase];rw[h1,h2]
def ahY:SFn:=⟨0,[],.stuck⟩
def TS(P:Program)(fn:Func)(l:List (Nat×An)):SFn:=
 match cFn P fn with
 |some af=>⟨af.nt,af.res,(ann af.body 0 l).c⟩
 |none=>ahY
def adE(P:Program)(fn:Func)(l:List (Nat×An)):Bool:=(cFn P fn).isSome&&((TS P fn l).body.rok&&((TS P fn l).body.its.isEmpty&&fn.name != "runtime.NumGoroutine"))
theorem bI{P:Program}{cl:CL}(hcl:bt P cl){f:Nat}(l:List (Nat×An)){fn:Func}(hf:P.funcs[f]?=some fn)(hok:adE P fn l=true){args:List AV}{h:AH}{R:AV->AH->Prop}{G:Prop}
  (he:ZF cl (TS P fn l) args h R=G) (hg:G):aJ P f args h R:=by
 simp only[adE,amZ]at hok;obtain⟨h1,h2,h3,h4⟩:=hok;have hn:fn.name ≠ "runtime.NumGoroutine":=by simpa using h4
 have hc:cFn P fn=some (TS P fn l).erase:=by
  unfold TS;cases hq:cFn P fn with
  |none=>rw[hq]at h1;cases h1
  |some af=>simp only[SFn.erase,nJ]
 rw[<-he]at hg;exact ZX hcl hf hc hn h2 (WT (List.isEmpty_iff.1 h3)) hg
end Go.Eng
end
noncomputable section
namespace Go.Proofs.YtndpneieplopaaaGreatDoor
open Go.Eng Tryz
set_option maxRecDepth 100000
def Ik(cl:CL)(v2 v18:AV)(h:AH)(Q:QT):=wP h (aB h v18) λv2 c16 h=>Q v2 h
def Hg(cl:CL)(v0 v2 v7 v10:AV)(h:AH)(Q:QT):=wC v7 (eK h v10) v10 h λv11 c8 h=>wA v7 (aB h v0) h λv12 c9 h=>wA v7 (aq h v12) h λv13 c10 h=>wA v7 (ah h 0 v13) h λv14 c11 h=>wC v7 (eK h v14) v14 h λv15 c12 h=>wA v7 (cL h v15) h λv16 c13 h=>wA v7 (ae h .lss v11 v16) h λv17 c14 h=>wP h (aG h v7 v17 (.bool false)) λv18 c15 h=>Ik cl v2 v18 h Q
def g94(cl:CL)(v0:AV)(h:AH)(Q:QT):=wdr h 17 λr h=>wP h (aB h v0) λv3 c0 h=>wP h (aq h v3) λv4 c1 h=>wP h (ah h 3 v4) λv5 c2 h=>wR h (eK h v5) v5 λv6 c3 h=>wP h (aB h v6) λv7 c4 h=>wsp v7 λv7=>wA v7 (aB h v0) h λv8 c5 h=>wA v7 (aq h v8) h λv9 c6 h=>wA v7 (ah h 1 v9) h λv10 c7 h=>Hg cl v0 ((.bool false)) v7 v10 h Q
theorem C94{cl}(hcl:bt prog cl){v0 h Q}(hg:g94 cl v0 h Q):aJ prog 94 [v0] h Q:=bI hcl [] func94 (by kernel_rfl) (by kernel_rfl) hg
def Cf(cl:CL)(v0 v1 v7 v11:AV)(h:AH)(k:NT):=wB v7 (aB h v0) h λv12 c8 h=>wB v7 (aq h v12) h λv13 c9 h=>wB v7 (ah h 1 v13) h λv14 c10 h=>wD v7 (eK h v14) v14 h λv15 c11 h=>wB v7 (dH h v11 v15) h λv16 c12 h=>wB v7 (aB h v1) h λv17 c13 h=>wB v7 (ae h .neq v16 v17) h λv18 c14 h=>wP h (aG h v7 (.bool true) v18) λv19 c15 h=>k [v0,v19] h
def JN(cl:CL)(v0 v1:AV)(h:AH)(k:NT):=wdr h 16 λr h=>wP h (aB h v0) λv4 c0 h=>wdc cl (F 94) [v4] h λv5 c1 h=>wP h (kUn h .not v5) λv6 c2 h=>wP h (aB h v6) λv7 c3 h=>wsp v7 λv7=>wB v7 (aB h v0) h λv8 c4 h=>wB v7 (aq h v8) h λv9 c5 h=>wB v7 (ah h 0 v9) h λv10 c6 h=>wD v7 (eK h v10) v10 h λv11 c7 h=>Cf cl v0 v1 v7 v11 h k
def Ch(cl:CL)(v0 v19:AV)(h:AH)(Q:QT):=wif v19 (wk (aq h v0) λv21 h=>wk (ah h 3 v21) λv22 h=>wk (kSt h 1 v22 (.bool false)) λ_ h=>Q (.tup []) h) (wk (aq h v0) λv24 h=>wk (ah h 1 v24) λv25 h=>wk (eK h v25) λv26 h=>wk (ae h .add v26 (I 1)) λv27 h=>wk (aq h v0) λv28 h=>wk (ah h 1 v28) λv29 h=>wk (kSt h 1 v29 v27) λ_ h=>Q (.tup []) h)
def adR(cl:CL)(v0 v1:AV)(h:AH)(Q:QT):=aI (JN cl v0 v1 h) λvs h=>Ch cl (ai vs 0) (ai vs 1) h Q
theorem ahK{cl}(hcl:bt prog cl){v0 v1 h Q}(hg:adR cl v0 v1 h Q):aJ prog 126 [v0,v1] h Q:=bI hcl [(0,.jn [0,19])] func126 (by kernel_rfl) (by kernel_rfl) hg
def g95(cl:CL)(v0:AV)(h:AH)(Q:QT):=wk (aq h v0) λv3 h=>wk (ah h 2 v3) λv4 h=>wk (eK h v4) λv5 h=>wif v5 (wk (aq h v0) λv7 h=>wk (ah h 2 v7) λv8 h=>wk (kSt h 1 v8 (.bool false)) λ_ h=>Q (.tup []) h) (ax cl (F 126) [v0,.int .u8 32] h λv10 h=>Q (.tup []) h)
theorem C95{cl}(hcl:bt prog cl){v0 h Q}(hg:g95 cl v0 h Q):aJ prog 95 [v0] h Q:=bI hcl [] func95 (by kernel_rfl) (by kernel_rfl) hg
def ra(cl:CL)(v0 v1 v5 v32 v35 v39 v41:AV)(h:AH)(k:NT):=wB v35 (ah h 1 v41) h λv42 c32 h=>wD v35 (eK h v42) v42 h λv43 c33 h=>wB v35 (dH h v39 v43) h λv44 c34 h=>wB v35 (ae h .neq v44 (.int .u8 93)) h λv45 c35 h=>wA v32 (aG h v35 (.bool true) v45) h λv46 c36 h=>wP h (aG h v32 v46 (.bool false)) λv47 c37 h=>k [v0,v1,v5,v47] h
def rk(cl:CL)(v0 v1 v5 v32 v33:AV)(h:AH)(k:NT):=wA v32 (kUn h .not v33) h λv34 c24 h=>wA v32 (aB h v34) h λv35 c25 h=>wsp v35 λv35=>wB v35 (aB h v0) h λv36 c26 h=>wB v35 (aq h v36) h λv37 c27 h=>wB v35 (ah h 0 v37) h λv38 c28 h=>wD v35 (eK h v38) v38 h λv39 c29 h=>wB v35 (aB h v0) h λv40 c30 h=>wB v35 (aq h v40) h λv41 c31 h=>ra cl v0 v1 v5 v32 v35 v39 v41 h k
def rh(cl:CL)(v0 v1 v5 v20 v24 v25:AV)(h:AH)(k:NT):=wA v20 (aq h v25) h λv26 c16 h=>wA v20 (ah h 1 v26) h λv27 c17 h=>wC v20 (eK h v27) v27 h λv28 c18 h=>wA v20 (dH h v24 v28) h λv29 c19 h=>wA v20 (ae h .neq v29 (.int .u8 32)) h λv30 c20 h=>wP h (aG h v20 v30 (.bool false)) λv31 c21 h=>wP h (aB h v31) λv32 c22 h=>wsp v32 λv32=>wA v32 (aB h v1) h λv33 c23 h=>rk cl v0 v1 v5 v32 v33 h k
def AE(cl:CL)(v0 v1 v5 v13 v17:AV)(h:AH)(k:NT):=wP h (cL h v17) λv18 c8 h=>wP h (ae h .lss v13 v18) λv19 c9 h=>wP h (aB h v19) λv20 c10 h=>wsp v20 λv20=>wA v20 (aB h v0) h λv21 c11 h=>wA v20 (aq h v21) h λv22 c12 h=>wA v20 (ah h 0 v22) h λv23 c13 h=>wC v20 (eK h v23) v23 h λv24 c14 h=>wA v20 (aB h v0) h λv25 c15 h=>rh cl v0 v1 v5 v20 v24 v25 h k
def BN(cl:CL)(v0 v1 v5:AV)(h:AH)(k:NT):=wdr h 38 λr h=>wP h (aB h v0) λv10 c0 h=>wP h (aq h v10) λv11 c1 h=>wP h (ah h 1 v11) λv12 c2 h=>wR h (eK h v12) v12 λv13 c3 h=>wP h (aB h v0) λv14 c4 h=>wP h (aq h v14) λv15 c5 h=>wP h (ah h 0 v15) λv16 c6 h=>wR h (eK h v16) v16 λv17 c7 h=>AE cl v0 v1 v5 v13 v17 h k
def AL(cl:CL)(v0 v1 v5 v47:AV)(h:AH)(k:KT):=wif v47 (wk (aq h v0) λv49 h=>wk (ah h 1 v49) λv50 h=>wk (eK h v50) λv51 h=>wk (ae h .add v51 (I 1)) λv52 h=>wk (aq h v0) λv53 h=>wk (ah h 1 v53) λv54 h=>wk (kSt h 1 v54 v52) λ_ h=>k .nrm [v0,v1,v5] [v0,v5] h) (k (.exit 0) [v0,v1,v5] [v0,v5] h)
def K8(cl:CL)(v0 v1 v5:AV)(h:AH)(k:KT):=aI (BN cl v0 v1 v5 h) λvs h=>AL cl (ai vs 0) (ai vs 1) (ai vs 2) (ai vs 3) h k
def A0(cl:CL)(v0 v5 v60:AV)(h:AH)(k:NT):=wif v60 (wk (aq h v0) λv62 h=>wk (ah h 3 v62) λv63 h=>wk (kSt h 1 v63 (.bool false)) λ_ h=>k [v0,v5] h) (k [v0,v5] h)
def LJ(cl:CL)(v67 v68 v71:AV)(h:AH)(Q:QT):=wR h (eK h v71) v71 λv72 c8 h=>wP h (gI h v67 (some v68) (some v72)) λv73 c9 h=>wP h (aB h v73) λv4 c10 h=>Q v4 h
def Kv(cl:CL)(v0 v5:AV)(h:AH)(Q:QT):=wdr h 11 λr h=>wP h (aB h v0) λv64 c0 h=>wP h (aq h v64) λv65 c1 h=>wP h (ah h 0 v65) λv66 c2 h=>wR h (eK h v66) v66 λv67 c3 h=>wP h (aB h v5) λv68 c4 h=>wP h (aB h v0) λv69 c5 h=>wP h (aq h v69) λv70 c6 h=>wP h (ah h 1 v70) λv71 c7 h=>LJ cl v67 v68 v71 h Q
def Bp(cl:CL)(v0 v5:AV)(h:AH)(Q:QT):=wk (aq h v0) λv57 h=>wk (ah h 1 v57) λv58 h=>wk (eK h v58) λv59 h=>wk (ae h .eql v5 v59) λv60 h=>aI (A0 cl v0 v5 v60 h) λvs h=>Kv cl (ai vs 0) (ai vs 1) h Q
def K9(cl:CL)(x:AX)(v0 v5:AV)(h:AH)(Q:QT):=xs x (Bp cl v0 v5 h Q) (λj=>cond (Nat.beq j 0) (Bp cl v0 v5 h Q) (False)) (Q (.undef) h)
def adN(cl:CL)(v0 v1:AV)(h:AH)(Q:QT):=wk (aq h v0) λv7 h=>wk (ah h 1 v7) λv8 h=>wk (eK h v8) λv9 h=>b9 (λvs h k=>K8 cl (ai vs 0) (ai vs 1) (ai vs 2) h k) [v0,v1,v9] h λx vs h=>K9 cl x (ai vs 0) (ai vs 1) h Q
theorem ait{cl}(hcl:bt prog cl){v0 v1 h Q}(hg:adN cl v0 v1 h Q):aJ prog 122 [v0,v1] h Q:=bI hcl [(3,.l [0,1,5] [0,5]),(4,.jn [0,1,5,47]),(9,.jn [0,5])] func122 (by kernel_rfl) (by kernel_rfl) hg
def g91(cl:CL)(v0:AV)(h:AH)(Q:QT):=ax cl (F 95) [v0] h λv4 h=>ax cl (F 122) [v0,.bool false] h λv6 h=>Q v6 h
theorem C91{cl}(hcl:bt prog cl){v0 h Q}(hg:g91 cl v0 h Q):aJ prog 91 [v0] h Q:=bI hcl [] func91 (by kernel_rfl) (by kernel_rfl) hg
def zQ(cl:CL)(v0 v1 v7 v8:AV)(h:AH)(k:KT):=wk (ae h .lss v8 v7) λv9 h=>wif v9 (wk (aF h 1 v0 v8) λv14 h=>wk (eK h v14) λv15 h=>wk (ae h .eql v1 v15) λv16 h=>wif v16 (k .ret [v0,v1,v7,v8] [v8] h) (wk (ae h .add v8 (I 1)) λv18 h=>k .nrm [v0,v1,v7,v18] [.undef] h)) (k (.exit 0) [v0,v1,v7,v8] [.undef] h)
def EX(cl:CL)(h:AH)(Q:QT):=Q ((I (-1))) h
def GN(cl:CL)(x:AX)(v4:AV)(h:AH)(Q:QT):=xs x (EX cl h Q) (λj=>cond (Nat.beq j 0) (EX cl h Q) (False)) (Q v4 h)
def g90(cl:CL)(v0 v1:AV)(h:AH)(Q:QT):=wk (bh h v0) λv7 h=>b9 (λvs h k=>zQ cl (ai vs 0) (ai vs 1) (ai vs 2) (ai vs 3) h k) [v0,v1,v7,I 0] h λx vs h=>GN cl x (ai vs 0) h Q
theorem C90{cl}(hcl:bt prog cl){v0 v1 h Q}(hg:g90 cl v0 v1 h Q):aJ prog 90 [v0,v1] h Q:=bI hcl [(3,.l [0,1,7,8] [4])] func90 (by kernel_rfl) (by kernel_rfl) hg
def IY(cl:CL)(v5 v18 v20:AV)(h:AH)(k:NT):=wk (kSt h 1 v20 v18) λ_ h=>k [v5] h
def FU(cl:CL)(v0 v5:AV)(h:AH)(k:NT):=wk (aq h v0) λv12 h=>wk (ah h 3 v12) λv13 h=>wk (eK h v13) λv14 h=>wsp v14 λv15=>wg (gdv true v15) (λk=>k v5 h) h λv16 h=>gA v15 (ae h .geq v16 (I 0)) h λv17 h=>wk (aG h v15 v17 (.bool false)) λv18 h=>wk (aq h v0) λv19 h=>wk (ah h 3 v19) λv20 h=>IY cl v5 v18 v20 h k
def Ru(cl:CL)(v5:AV)(h:AH)(Q:QT):=Q v5 h
def g56(cl:CL)(v0 v1:AV)(h:AH)(Q:QT):=ax cl (F 91) [v0] h λv8 h=>ax cl (F 90) [v1,v8] h λv9 h=>aI (FU cl v0 v9 h) λvs h=>Ru cl (ai vs 0) h Q
theorem C56{cl}(hcl:bt prog cl){v0 v1 h Q}(hg:g56 cl v0 v1 h Q):aJ prog 56 [v0,v1] h Q:=bI hcl [(2,.jn [5])] func56 (by kernel_rfl) (by kernel_rfl) hg
def aqE(cl:CL)(v4 v11 v19:AV)(h:AH)(Q:QT):=wsp v19 λv20=>wg (gdv true v20) (λk=>k v4 h) h λv21 h=>gA v20 (ae h .geq v21 (I (-1099511627776))) h λv22 h=>wk (aG h v20 v22 (.bool false)) λv23 h=>wsp v23 λv24=>wg (gdv true v24) (λk=>k v4 h) h λv25 h=>gA v24 (ae h .leq v25 (I 1099511627776)) h λv26 h=>wk (aG h v24 v26 (.bool false)) λv27 h=>Q (.tup [v11,v27]) h
def BS(cl:CL)(v0 v8:AV)(h:AH)(Q:QT):=wk (cm h v8 0) λv9 h=>wk (cm h v8 1) λv10 h=>wk (kX h (.ym false) [v10]) λv13 h=>wsp v13 λv14=>wg (gdv true v14) (λk=>k v9 h) h λv15 h=>wg (gdv true v14) (λk=>ax cl (F 99) [v15] h k) h λv16 h=>wg (gdv true v14) (λk=>k v0 h) h λv17 h=>gA v14 (ae h .eql v16 v17) h λv18 h=>wk (aG h v14 v18 (.bool false)) λv19 h=>aqE cl v9 v9 v19 h Q
def g92(cl:CL)(v0:AV)(h:AH)(Q:QT):=ax cl (F 123) [v0] h λv8 h=>BS cl v0 v8 h Q
theorem C92{cl}(hcl:bt prog cl){v0 h Q}(hg:g92 cl v0 h Q):aJ prog 92 [v0] h Q:=bI hcl [] func92 (by kernel_rfl) (by kernel_rfl) hg
def E1(cl:CL)(v0 v3 v4:AV)(h:AH)(k:NT):=wk (aq h v0) λv13 h=>wk (ah h 3 v13) λv14 h=>wk (eK h v14) λv15 h=>wsp v15 λv16=>wg (gdv true v16) (λk=>k v4 h) h λv17 h=>wk (aG h v16 v17 (.bool false)) λv18 h=>wk (aq h v0) λv19 h=>wk (ah h 3 v19) λv20 h=>wk (kSt h 1 v20 v18) λ_ h=>k [v3] h
def Pn(cl:CL)(v3:AV)(h:AH)(Q:QT):=Q v3 h
def Q3(cl:CL)(v0 v8:AV)(h:AH)(Q:QT):=wk (cm h v8 0) λv9 h=>wk (cm h v8 1) λv10 h=>aI (E1 cl v0 v9 v10 h) λvs h=>Pn cl (ai vs 0) h Q
def Sn(cl:CL)(v0 v7:AV)(h:AH)(Q:QT):=ax cl (F 92) [v7] h λv8 h=>Q3 cl v0 v8 h Q
def g58(cl:CL)(v0:AV)(h:AH)(Q:QT):=ax cl (F 91) [v0] h λv7 h=>Sn cl v0 v7 h Q
theorem C58{cl}(hcl:bt prog cl){v0 h Q}(hg:g58 cl v0 h Q):aJ prog 58 [v0] h Q:=bI hcl [(2,.jn [3])] func58 (by kernel_rfl) (by kernel_rfl) hg
def rm(cl:CL)(v0 v2 v15 v20:AV)(h:AH)(k:JT):=wP h (dH h v15 v20) λv21 c9 h=>wk (ae h .eql v21 (.int .u8 92)) λv23 h=>wif v23 (k .ret [v0,.int .u8 92] h) (wk (ae h .eql v21 (.int .u8 34)) λv25 h=>wif v25 (k .ret [v0,.int .u8 34] h) (wk (ae h .eql v21 (.int .u8 110)) λv27 h=>wif v27 (k .ret [v0,.int .u8 10] h) (k .nrm [v0,v2] h)))
def L4(cl:CL)(v0 v2 v12:AV)(h:AH)(k:JT):=wP h (aq h v12) λv13 c1 h=>wP h (ah h 0 v13) λv14 c2 h=>wR h (eK h v14) v14 λv15 c3 h=>wP h (aB h v0) λv16 c4 h=>wP h (aq h v16) λv17 c5 h=>wP h (ah h 1 v17) λv18 c6 h=>wR h (eK h v18) v18 λv19 c7 h=>wP h (ae h .sub v19 (I 1)) λv20 c8 h=>rm cl v0 v2 v15 v20 h k
def A6(cl:CL)(v0 v2 v4:AV)(h:AH)(k:JT):=wif v4 (wk (aq h v0) λv6 h=>wk (ah h 1 v6) λv7 h=>wk (eK h v7) λv8 h=>wk (ae h .add v8 (I 1)) λv9 h=>wk (aq h v0) λv10 h=>wk (ah h 1 v10) λv11 h=>wk (kSt h 1 v11 v9) λ_ h=>wdr h 10 λr h=>wP h (aB h v0) λv12 c0 h=>L4 cl v0 v2 v12 h k) (k .nrm [v0,v2] h)
def uF(cl:CL)(x:AX)(v0 v2:AV)(h:AH)(Q:QT):=xs x (wk (aq h v0) λv29 h=>wk (ah h 3 v29) λv30 h=>wk (kSt h 1 v30 (.bool false)) λ_ h=>Q ((.int .u8 0)) h) (λj=>False) (Q v2 h)
def afB(cl:CL)(v0:AV)(h:AH)(Q:QT):=ax cl (F 94) [v0] h λv4 h=>vJ (A6 cl v0 ((.int .u8 0)) v4 h) λx vs h=>uF cl x (ai vs 0) (ai vs 1) h Q
theorem ahq{cl}(hcl:bt prog cl){v0 h Q}(hg:afB cl v0 h Q):aJ prog 129 [v0] h Q:=bI hcl [(2,.j [0,2])] func129 (by kernel_rfl) (by kernel_rfl) hg
def Wj(cl:CL)(v0 v2 v18:AV)(h:AH)(Q:QT):=wP h (aB h v0) λv19 c16 h=>wP h (aF h 1 v19 (I 3)) λv20 c17 h=>wR h (eK h v20) v20 λv21 c18 h=>wP h (cB h .u64 v21) λv22 c19 h=>wP h (ae h .shl v22 (.int .u64 24)) λv23 c20 h=>wP h (ae h .or v18 v23) λv24 c21 h=>wP h (aB h v24) λv2 c22 h=>Q v2 h
def VB(cl:CL)(v0 v2 v6 v10:AV)(h:AH)(Q:QT):=wP h (ae h .shl v10 (.int .u64 8)) λv11 c8 h=>wP h (ae h .or v6 v11) λv12 c9 h=>wP h (aB h v0) λv13 c10 h=>wP h (aF h 1 v13 (I 2)) λv14 c11 h=>wR h (eK h v14) v14 λv15 c12 h=>wP h (cB h .u64 v15) λv16 c13 h=>wP h (ae h .shl v16 (.int .u64 16)) λv17 c14 h=>wP h (ae h .or v12 v17) λv18 c15 h=>Wj cl v0 v2 v18 h Q
def KM(cl:CL)(v0 v2 v64:AV)(h:AH)(Q:QT):=wP h (aB h v0) λv65 c40 h=>wP h (aF h 1 v65 (I 7)) λv66 c41 h=>wR h (eK h v66) v66 λv67 c42 h=>wP h (cB h .u64 v67) λv68 c43 h=>wP h (ae h .shl v68 (.int .u64 56)) λv69 c44 h=>wP h (ae h .or v64 v69) λv70 c45 h=>wP h (aB h v70) λv2 c46 h=>Q v2 h
def JZ(cl:CL)(v0 v2 v52 v56:AV)(h:AH)(Q:QT):=wP h (ae h .shl v56 (.int .u64 40)) λv57 c32 h=>wP h (ae h .or v52 v57) λv58 c33 h=>wP h (aB h v0) λv59 c34 h=>wP h (aF h 1 v59 (I 6)) λv60 c35 h=>wR h (eK h v60) v60 λv61 c36 h=>wP h (cB h .u64 v61) λv62 c37 h=>wP h (ae h .shl v62 (.int .u64 48)) λv63 c38 h=>wP h (ae h .or v58 v63) λv64 c39 h=>KM cl v0 v2 v64 h Q
def K_(cl:CL)(v0 v2 v46 v48:AV)(h:AH)(Q:QT):=wR h (eK h v48) v48 λv49 c24 h=>wP h (cB h .u64 v49) λv50 c25 h=>wP h (ae h .shl v50 (.int .u64 32)) λv51 c26 h=>wP h (ae h .or v46 v51) λv52 c27 h=>wP h (aB h v0) λv53 c28 h=>wP h (aF h 1 v53 (I 5)) λv54 c29 h=>wR h (eK h v54) v54 λv55 c30 h=>wP h (cB h .u64 v55) λv56 c31 h=>JZ cl v0 v2 v52 v56 h Q
def Jt(cl:CL)(v0 v2 v40:AV)(h:AH)(Q:QT):=wP h (aB h v0) λv41 c16 h=>wP h (aF h 1 v41 (I 3)) λv42 c17 h=>wR h (eK h v42) v42 λv43 c18 h=>wP h (cB h .u64 v43) λv44 c19 h=>wP h (ae h .shl v44 (.int .u64 24)) λv45 c20 h=>wP h (ae h .or v40 v45) λv46 c21 h=>wP h (aB h v0) λv47 c22 h=>wP h (aF h 1 v47 (I 4)) λv48 c23 h=>K_ cl v0 v2 v46 v48 h Q
def Lb(cl:CL)(v0 v2 v28 v32:AV)(h:AH)(Q:QT):=wP h (ae h .shl v32 (.int .u64 8)) λv33 c8 h=>wP h (ae h .or v28 v33) λv34 c9 h=>wP h (aB h v0) λv35 c10 h=>wP h (aF h 1 v35 (I 2)) λv36 c11 h=>wR h (eK h v36) v36 λv37 c12 h=>wP h (cB h .u64 v37) λv38 c13 h=>wP h (ae h .shl v38 (.int .u64 16)) λv39 c14 h=>wP h (ae h .or v34 v39) λv40 c15 h=>Jt cl v0 v2 v40 h Q
def afH(cl:CL)(v0:AV)(h:AH)(Q:QT):=wif (.bool false) (wdr h 23 λr h=>wP h (aB h v0) λv3 c0 h=>wP h (aF h 1 v3 (I 0)) λv4 c1 h=>wR h (eK h v4) v4 λv5 c2 h=>wP h (cB h .u64 v5) λv6 c3 h=>wP h (aB h v0) λv7 c4 h=>wP h (aF h 1 v7 (I 1)) λv8 c5 h=>wR h (eK h v8) v8 λv9 c6 h=>wP h (cB h .u64 v9) λv10 c7 h=>VB cl v0 ((.int .u64 0)) v6 v10 h Q) (wdr h 47 λr h=>wP h (aB h v0) λv25 c0 h=>wP h (aF h 1 v25 (I 0)) λv26 c1 h=>wR h (eK h v26) v26 λv27 c2 h=>wP h (cB h .u64 v27) λv28 c3 h=>wP h (aB h v0) λv29 c4 h=>wP h (aF h 1 v29 (I 1)) λv30 c5 h=>wR h (eK h v30) v30 λv31 c6 h=>wP h (cB h .u64 v31) λv32 c7 h=>Lb cl v0 ((.int .u64 0)) v28 v32 h Q)
theorem ahv{cl}(hcl:bt prog cl){v0 h Q}(hg:afH cl v0 h Q):aJ prog 151 [v0] h Q:=bI hcl [] func151 (by kernel_rfl) (by kernel_rfl) hg
def uE(cl:CL)(v0:AV)(h:AH)(k:NT):=wk (bh h v0) λv24 h=>wk (ae h .gtr v24 (I 8)) λv25 h=>wsp v25 λv26=>wg (gdv true v26) (λk=>k v0 h) h λv27 h=>wg (gdv true v26) (λk=>ax cl (F 151) [v27] h k) h λv28 h=>gA v26 (ae h .and v28 (.int .u64 9259542123273814144)) h λv29 h=>gA v26 (ae h .eql v29 (.int .u64 0)) h λv30 h=>wk (aG h v26 v30 (.bool false)) λv31 h=>k [v0,v31] h
def BZ(cl:CL)(v0 v37 v39 v41:AV)(h:AH)(k:NT):=wgd (gdv true v37) (λk=>wdc cl (F 151) [v41] h k) h λv42 c8 h=>wA v37 (ae h .or v39 v42) h λv43 c9 h=>wA v37 (ae h .and v43 (.int .u64 9259542123273814144)) h λv44 c10 h=>wA v37 (ae h .eql v44 (.int .u64 0)) h λv45 c11 h=>wP h (aG h v37 v45 (.bool false)) λv46 c12 h=>k [v0,v46] h
def ux(cl:CL)(v0:AV)(h:AH)(k:NT):=wdr h 13 λr h=>wP h (aB h v0) λv34 c0 h=>wP h (bh h v34) λv35 c1 h=>wP h (ae h .gtr v35 (I 16)) λv36 c2 h=>wP h (aB h v36) λv37 c3 h=>wsp v37 λv37=>wA v37 (aB h v0) h λv38 c4 h=>wgd (gdv true v37) (λk=>wdc cl (F 151) [v38] h k) h λv39 c5 h=>wA v37 (aB h v0) h λv40 c6 h=>wA v37 (kSl h 1 v40 (some (I 8)) none none) h λv41 c7 h=>BZ cl v0 v37 v39 v41 h k
def z_(cl:CL)(v0 v52 v58 v61 v64:AV)(h:AH)(k:NT):=wA v52 (ae h .or v61 v64) h λv65 c16 h=>wA v52 (ae h .or v58 v65) h λv66 c17 h=>wA v52 (ae h .and v66 (.int .u64 9259542123273814144)) h λv67 c18 h=>wA v52 (ae h .eql v67 (.int .u64 0)) h λv68 c19 h=>wP h (aG h v52 v68 (.bool false)) λv69 c20 h=>k [v0,v69] h
def Ck(cl:CL)(v0 v52 v54 v56:AV)(h:AH)(k:NT):=wgd (gdv true v52) (λk=>wdc cl (F 151) [v56] h k) h λv57 c8 h=>wA v52 (ae h .or v54 v57) h λv58 c9 h=>wA v52 (aB h v0) h λv59 c10 h=>wA v52 (kSl h 1 v59 (some (I 16)) none none) h λv60 c11 h=>wgd (gdv true v52) (λk=>wdc cl (F 151) [v60] h k) h λv61 c12 h=>wA v52 (aB h v0) h λv62 c13 h=>wA v52 (kSl h 1 v62 (some (I 24)) none none) h λv63 c14 h=>wgd (gdv true v52) (λk=>wdc cl (F 151) [v63] h k) h λv64 c15 h=>z_ cl v0 v52 v58 v61 v64 h k
def uP(cl:CL)(v0:AV)(h:AH)(k:NT):=wdr h 21 λr h=>wP h (aB h v0) λv49 c0 h=>wP h (bh h v49) λv50 c1 h=>wP h (ae h .gtr v50 (I 32)) λv51 c2 h=>wP h (aB h v51) λv52 c3 h=>wsp v52 λv52=>wA v52 (aB h v0) h λv53 c4 h=>wgd (gdv true v52) (λk=>wdc cl (F 151) [v53] h k) h λv54 c5 h=>wA v52 (aB h v0) h λv55 c6 h=>wA v52 (kSl h 1 v55 (some (I 8)) none none) h λv56 c7 h=>Ck cl v0 v52 v54 v56 h k
def Ac(cl:CL)(v0 v69:AV)(h:AH)(k:KT):=wif v69 (wk (kSl h 1 v0 (some (I 32)) none none) λv71 h=>k .nrm [v71] [v71] h) (k (.exit 2) [v0] [v0] h)
def KE(cl:CL)(v0:AV)(h:AH)(k:KT):=aI (uP cl v0 h) λvs h=>Ac cl (ai vs 0) (ai vs 1) h k
def AD(cl:CL)(v0:AV)(h:AH)(k:NT):=k [v0] h
def LK(cl:CL)(x:AX)(v0:AV)(h:AH)(k:NT):=xs x (AD cl v0 h k) (λj=>cond (Nat.beq j 2) (AD cl v0 h k) (False)) (False)
def A7(cl:CL)(v0 v46:AV)(h:AH)(k:NT):=wif v46 (wk (kSl h 1 v0 (some (I 16)) none none) λv48 h=>b9 (λvs h k=>KE cl (ai vs 0) h k) [v48] h λx vs h=>LK cl x (ai vs 0) h k) (k [v0] h)
def uA(cl:CL)(v0 v31:AV)(h:AH)(k:NT):=wif v31 (wk (kSl h 1 v0 (some (I 8)) none none) λv33 h=>aI (ux cl v33 h) λvs h=>A7 cl (ai vs 0) (ai vs 1) h k) (k [v0] h)
def Eb(cl:CL)(v0:AV)(h:AH)(k:KT):=k .nrm [v0] [.undef] h
def DV(cl:CL)(v0 v31:AV)(h:AH)(k:KT):=aI (uA cl v0 v31 h) λvs h=>Eb cl (ai vs 0) h k
def qZ(cl:CL)(v0 v96 v98 gF:AV)(h:AH)(k:NT):=wD v96 (eK h gF) gF h λlu c16 h=>wB v96 (ae h .lss v98 lu) h λiW c17 h=>wP h (aG h v96 (.bool true) iW) λmO c18 h=>k [v0,mO] h
def uo(cl:CL)(v0 v6 v88 v91 v92:AV)(h:AH)(k:NT):=wD v88 (eK h v92) v92 h λv93 c8 h=>wB v88 (ae h .lss v91 v93) h λv94 c9 h=>wP h (aG h v88 (.bool true) v94) λv95 c10 h=>wP h (aB h v95) λv96 c11 h=>wsp v96 λv96=>wB v96 (ah h 1 v6) h λv97 c12 h=>wD v96 (eK h v97) v97 h λv98 c13 h=>wB v96 (aB h v0) h λv99 c14 h=>wB v96 (aF h 1 v99 (I 1)) h λgF c15 h=>qZ cl v0 v96 v98 gF h k
def qR(cl:CL)(v0 v6:AV)(h:AH)(k:NT):=wdr h 19 λr h=>wP h (aB h v0) λv85 c0 h=>wP h (bh h v85) λv86 c1 h=>wP h (ae h .lss v86 (I 2)) λv87 c2 h=>wP h (aB h v87) λv88 c3 h=>wsp v88 λv88=>wB v88 (aB h v0) h λv89 c4 h=>wB v88 (aF h 1 v89 (I 1)) h λv90 c5 h=>wD v88 (eK h v90) v90 h λv91 c6 h=>wB v88 (ah h 0 v6) h λv92 c7 h=>uo cl v0 v6 v88 v91 v92 h k
def wG(cl:CL)(v0 mO:AV)(h:AH)(k:KT):=wif mO (k .ret [v0] [.bool false] h) (wk (kSl h 1 v0 (some (I 2)) none none) λv105 h=>k .nrm [v105] [.undef] h)
def nz(cl:CL)(v0 v127 v131:AV)(h:AH)(k:NT):=wP h (aG h v127 (.bool true) v131) λgG c24 h=>wP h (aB h gG) λpo c25 h=>wsp po λpo=>wB po (aB h v0) h λpr c26 h=>wB po (aF h 1 pr (I 2)) h λaui c27 h=>wD po (eK h aui) aui h λxP c28 h=>wB po (ae h .lss (.int .u8 191) xP) h λmh c29 h=>wP h (aG h po (.bool true) mh) λv138 c30 h=>k [v0,v138] h
def nI(cl:CL)(v0 kJ kK nf:AV)(h:AH)(k:NT):=wD kJ (eK h nf) nf h λv124 c16 h=>wB kJ (ae h .lss kK v124) h λni c17 h=>wP h (aG h kJ (.bool true) ni) λoq c18 h=>wP h (aB h oq) λv127 c19 h=>wsp v127 λv127=>wB v127 (aB h v0) h λnh c20 h=>wB v127 (aF h 1 nh (I 2)) h λou c21 h=>wD v127 (eK h ou) ou h λv130 c22 h=>wB v127 (ae h .lss v130 (.int .u8 128)) h λv131 c23 h=>nz cl v0 v127 v131 h k
def uR(cl:CL)(v0 v6 gp iV pX:AV)(h:AH)(k:NT):=wD gp (eK h pX) pX h λjC c8 h=>wB gp (ae h .lss iV jC) h λv117 c9 h=>wP h (aG h gp (.bool true) v117) λkG c10 h=>wP h (aB h kG) λkJ c11 h=>wsp kJ λkJ=>wB kJ (ah h 1 v6) h λfB c12 h=>wD kJ (eK h fB) fB h λkK c13 h=>wB kJ (aB h v0) h λow c14 h=>wB kJ (aF h 1 ow (I 1)) h λnf c15 h=>nI cl v0 kJ kK nf h k
def rr(cl:CL)(v0 v6:AV)(h:AH)(k:NT):=wdr h 31 λr h=>wP h (aB h v0) λiL c0 h=>wP h (bh h iL) λv109 c1 h=>wP h (ae h .lss v109 (I 3)) λkq c2 h=>wP h (aB h kq) λgp c3 h=>wsp gp λgp=>wB gp (aB h v0) h λjD c4 h=>wB gp (aF h 1 jD (I 1)) h λlx c5 h=>wD gp (eK h lx) lx h λiV c6 h=>wB gp (ah h 0 v6) h λpX c7 h=>uR cl v0 v6 gp iV pX h k
def vR(cl:CL)(v0 v138:AV)(h:AH)(k:KT):=wif v138 (k .ret [v0] [.bool false] h) (wk (kSl h 1 v0 (some (I 3)) none none) λpW h=>k .nrm [pW] [.undef] h)
def lj(cl:CL)(v0 asF v182:AV)(h:AH)(k:NT):=wD asF (eK h v182) v182 h λv183 c40 h=>wB asF (ae h .lss (.int .u8 191) v183) h λNZ c41 h=>wP h (aG h asF (.bool true) NZ) λI_ c42 h=>k [v0,I_] h
def jw(cl:CL)(v0 qO:AV)(h:AH)(k:NT):=wsp qO λqO=>wB qO (aB h v0) h λv175 c32 h=>wB qO (aF h 1 v175 (I 3)) h λUz c33 h=>wD qO (eK h Uz) Uz h λU0 c34 h=>wB qO (ae h .lss U0 (.int .u8 128)) h λUS c35 h=>wP h (aG h qO (.bool true) US) λU2 c36 h=>wP h (aB h U2) λasF c37 h=>wsp asF λasF=>wB asF (aB h v0) h λJi c38 h=>wB asF (aF h 1 Ji (I 3)) h λv182 c39 h=>lj cl v0 asF v182 h k
def lR(cl:CL)(v0 v162 td:AV)(h:AH)(k:NT):=wP h (aG h v162 (.bool true) td) λv167 c24 h=>wP h (aB h v167) λv168 c25 h=>wsp v168 λv168=>wB v168 (aB h v0) h λxN c26 h=>wB v168 (aF h 1 xN (I 2)) h λtf c27 h=>wD v168 (eK h tf) tf h λv171 c28 h=>wB v168 (ae h .lss (.int .u8 191) v171) h λEO c29 h=>wP h (aG h v168 (.bool true) EO) λv173 c30 h=>wP h (aB h v173) λqO c31 h=>jw cl v0 qO h k
def mR(cl:CL)(v0 v154 EJ uh:AV)(h:AH)(k:NT):=wD v154 (eK h uh) uh h λv159 c16 h=>wB v154 (ae h .lss EJ v159) h λv160 c17 h=>wP h (aG h v154 (.bool true) v160) λx8 c18 h=>wP h (aB h x8) λv162 c19 h=>wsp v162 λv162=>wB v162 (aB h v0) h λxX c20 h=>wB v162 (aF h 1 xX (I 2)) h λv164 c21 h=>wD v162 (eK h v164) v164 h λyn c22 h=>wB v162 (ae h .lss yn (.int .u8 128)) h λtd c23 h=>lR cl v0 v162 td h k
def rn(cl:CL)(v0 v6 v146 ug uj:AV)(h:AH)(k:NT):=wD v146 (eK h uj) uj h λCU c8 h=>wB v146 (ae h .lss ug CU) h λv152 c9 h=>wP h (aG h v146 (.bool true) v152) λI8 c10 h=>wP h (aB h I8) λv154 c11 h=>wsp v154 λv154=>wB v154 (ah h 1 v6) h λEP c12 h=>wD v154 (eK h EP) EP h λEJ c13 h=>wB v154 (aB h v0) h λv157 c14 h=>wB v154 (aF h 1 v157 (I 1)) h λuh c15 h=>mR cl v0 v154 EJ uh h k
def rN(cl:CL)(v0 v6:AV)(h:AH)(k:NT):=wdr h 43 λr h=>wP h (aB h v0) λv143 c0 h=>wP h (bh h v143) λxQ c1 h=>wP h (ae h .lss xQ (I 4)) λv145 c2 h=>wP h (aB h v145) λv146 c3 h=>wsp v146 λv146=>wB v146 (aB h v0) h λCP c4 h=>wB v146 (aF h 1 CP (I 1)) h λv148 c5 h=>wD v146 (eK h v148) v148 h λug c6 h=>wB v146 (ah h 0 v6) h λuj c7 h=>rn cl v0 v6 v146 ug uj h k
def xg(cl:CL)(v0 I_:AV)(h:AH)(k:KT):=wif I_ (k .ret [v0] [.bool false] h) (wk (kSl h 1 v0 (some (I 4)) none none) λUQ h=>k .nrm [UQ] [.undef] h)
def rR(cl:CL)(v0 v6 v82 v107:AV)(h:AH)(k:KT):=wif v107 (aI (rr cl v0 v6 h) λvs h=>vR cl (ai vs 0) (ai vs 1) h k) (wk (ae h .eql v82 (I 4)) λxT h=>wif xT (aI (rN cl v0 v6 h) λvs h=>xg cl (ai vs 0) (ai vs 1) h k) (k .ret [v0] [.bool false] h))
def vY(cl:CL)(v0 v4 v76:AV)(h:AH)(k:KT):=wk (cB h .i64 v76) λv77 h=>wk (ae h .shr v4 (.int .u64 4)) λv79 h=>wk (fv h 16 2 (.fY 2 0) v79) λv80 h=>wk (bj h 2 v80) λv81 h=>wk (cU h [.int .u8 0,.int .u8 0]) λv6 h=>wk (kSt h 2 v6 v81) λ_ h=>wk (ae h .eql v77 (I 2)) λv84 h=>wif v84 (aI (qR cl v0 v6 h) λvs h=>wG cl (ai vs 0) (ai vs 1) h k) (wk (ae h .eql v77 (I 3)) λv107 h=>rR cl v0 v6 v77 v107 h k)
def oI(cl:CL)(v0:AV)(h:AH)(k:KT):=wk (bh h v0) λv14 h=>wk (ae h .gtr v14 (I 0)) λv15 h=>wif v15 (wk (aF h 1 v0 (I 0)) λv17 h=>wk (eK h v17) λv18 h=>wk (ae h .lss v18 (.int .u8 128)) λv20 h=>wif v20 (wk (kSl h 1 v0 (some (I 1)) none none) λv22 h=>aI (uE cl v22 h) λvs h=>DV cl (ai vs 0) (ai vs 1) h k) (wk (fv h 256 1 (.fY 1 0) v18) λv73 h=>wk (eK h v73) λv74 h=>wk (ae h .and v74 (.int .u8 7)) λv76 h=>vY cl v0 v74 v76 h k)) (k (.exit 0) [v0] [.undef] h)
def rG(cl:CL)(h:AH)(Q:QT):=Q ((.bool true)) h
def rC(cl:CL)(x:AX)(v2:AV)(h:AH)(Q:QT):=xs x (rG cl h Q) (λj=>cond (Nat.beq j 0) (rG cl h Q) (False)) (Q v2 h)
def aan(cl:CL)(v0:AV)(h:AH)(Q:QT):=wk (bh h v0) λv9 h=>wk (bh h v0) λv11 h=>wk (kSl h 1 v0 none (some v9) (some v11)) λv12 h=>b9 (λvs h k=>oI cl (ai vs 0) h k) [v12] h λx vs h=>rC cl x (ai vs 0) h Q
theorem ahy{cl}(hcl:bt prog cl){v0 h Q}(hg:aan cl v0 h Q):aJ prog 130 [v0] h Q:=bI hcl [(3,.l [0] [2]),(11,.jn [0,31]),(12,.jn [0]),(14,.jn [0,46]),(18,.l [0] [0]),(19,.jn [0,69]),(30,.jn [0,103]),(36,.jn [0,138]),(42,.jn [0,185])] func130 (by kernel_rfl) (by kernel_rfl) hg
def FR(cl:CL)(v0 v3 v9 v13 v14:AV)(h:AH)(k:NT):=wA v9 (aq h v14) h λv15 c8 h=>wA v9 (ah h 1 v15) h λv16 c9 h=>wC v9 (eK h v16) v16 h λv17 c10 h=>wA v9 (dH h v13 v17) h λv18 c11 h=>wA v9 (ae h .neq v18 (.int .u8 34)) h λv19 c12 h=>wP h (aG h v9 v19 (.bool false)) λv20 c13 h=>k [v0,v3,v20] h
def SB(cl:CL)(v0 v3:AV)(h:AH)(k:NT):=wdr h 14 λr h=>wP h (aB h v0) λv7 c0 h=>wdc cl (F 94) [v7] h λv8 c1 h=>wP h (aB h v8) λv9 c2 h=>wsp v9 λv9=>wA v9 (aB h v0) h λv10 c3 h=>wA v9 (aq h v10) h λv11 c4 h=>wA v9 (ah h 0 v11) h λv12 c5 h=>wC v9 (eK h v12) v12 h λv13 c6 h=>wA v9 (aB h v0) h λv14 c7 h=>FR cl v0 v3 v9 v13 v14 h k
def I0(cl:CL)(v0 v3 v4 v38:AV)(h:AH)(k:NT):=wif v38 (ax cl (F 129) [v0] h λv40 h=>k [v0,v3,v40] h) (k [v0,v3,v4] h)
def Qw(cl:CL)(v0 v3 v4:AV)(h:AH)(k:KT):=wk (aQ h 1 1 [.int .u8 0] [(0,1,v4)]) λv43 h=>wk (dK h 1 1 v3 v43) λv44 h=>k .nrm [v0,v44] [v0,v44] h
def Te(cl:CL)(v0 v3 v4 v34 v36:AV)(h:AH)(k:KT):=wk (kSt h 1 v36 v34) λ_ h=>wk (ae h .eql v4 (.int .u8 92)) λv38 h=>aI (I0 cl v0 v3 v4 v38 h) λvs h=>Qw cl (ai vs 0) (ai vs 1) (ai vs 2) h k
def Qt(cl:CL)(v0 v3 v24 v28:AV)(h:AH)(k:KT):=wP h (dH h v24 v28) λv29 c8 h=>wP h (aB h v29) λv4 c9 h=>wk (aq h v0) λv31 h=>wk (ah h 1 v31) λv32 h=>wk (eK h v32) λv33 h=>wk (ae h .add v33 (I 1)) λv34 h=>wk (aq h v0) λv35 h=>wk (ah h 1 v35) λv36 h=>Te cl v0 v3 v4 v34 v36 h k
def G2(cl:CL)(v0 v3 v20:AV)(h:AH)(k:KT):=wif v20 (wdr h 10 λr h=>wP h (aB h v0) λv21 c0 h=>wP h (aq h v21) λv22 c1 h=>wP h (ah h 0 v22) λv23 c2 h=>wR h (eK h v23) v23 λv24 c3 h=>wP h (aB h v0) λv25 c4 h=>wP h (aq h v25) λv26 c5 h=>wP h (ah h 1 v26) λv27 c6 h=>wR h (eK h v27) v27 λv28 c7 h=>Qt cl v0 v3 v24 v28 h k) (k (.exit 0) [v0,v3] [v0,v3] h)
def PF(cl:CL)(v0 v3:AV)(h:AH)(k:KT):=aI (SB cl v0 v3 h) λvs h=>G2 cl (ai vs 0) (ai vs 1) (ai vs 2) h k
def GS(cl:CL)(v3 v55 v57:AV)(h:AH)(k:NT):=wk (kSt h 1 v57 v55) λ_ h=>k [v3] h
def HE(cl:CL)(v0 v3:AV)(h:AH)(k:NT):=wk (aq h v0) λv49 h=>wk (ah h 3 v49) λv50 h=>wk (eK h v50) λv51 h=>wsp v51 λv52=>wg (gdv true v52) (λk=>k v3 h) h λv53 h=>wg (gdv true v52) (λk=>ax cl (F 130) [v53] h k) h λv54 h=>wk (aG h v52 v54 (.bool false)) λv55 h=>wk (aq h v0) λv56 h=>wk (ah h 3 v56) λv57 h=>GS cl v3 v55 v57 h k
def S5(cl:CL)(v3:AV)(h:AH)(Q:QT):=wk (kX h .b2s [v3]) λv59 h=>Q v59 h
def Ih(cl:CL)(v0 v3:AV)(h:AH)(Q:QT):=ax cl (F 126) [v0,.int .u8 34] h λv46 h=>aI (HE cl v0 v3 h) λvs h=>S5 cl (ai vs 0) h Q
def TX(cl:CL)(x:AX)(v0 v3:AV)(h:AH)(Q:QT):=xs x (Ih cl v0 v3 h Q) (λj=>cond (Nat.beq j 0) (Ih cl v0 v3 h Q) (False)) (Q (.undef) h)
def g98(cl:CL)(v0:AV)(h:AH)(Q:QT):=ax cl (F 126) [v0,.int .u8 34] h λv6 h=>b9 (λvs h k=>PF cl (ai vs 0) (ai vs 1) h k) [v0,(.aa)] h λx vs h=>TX cl x (ai vs 0) (ai vs 1) h Q
theorem C98{cl}(hcl:bt prog cl){v0 h Q}(hg:g98 cl v0 h Q):aJ prog 98 [v0] h Q:=bI hcl [(4,.l [0,3] [0,3]),(5,.jn [0,3,20]),(11,.jn [0,3,4]),(15,.jn [3])] func98 (by kernel_rfl) (by kernel_rfl) hg
def g62(cl:CL)(v0:AV)(h:AH)(Q:QT):=ax cl (F 95) [v0] h λv4 h=>ax cl (F 98) [v0] h λv6 h=>Q v6 h
theorem C62{cl}(hcl:bt prog cl){v0 h Q}(hg:g62 cl v0 h Q):aJ prog 62 [v0] h Q:=bI hcl [] func62 (by kernel_rfl) (by kernel_rfl) hg
def Im(cl:CL)(v0 v1 v4 v9:AV)(h:AH)(k:NT):=wk (kUn h .not v9) λv10 h=>wsp v10 λv11=>wg (gdv false v11) (λk=>k v1 h) h λv12 h=>gB v11 (ae h .gtr v12 (I 16)) h λv13 h=>wk (aG h v11 (.bool true) v13) λv14 h=>k [v0,v1,v4,v14] h
def Tx(cl:CL)(v0 v1 v4:AV)(h:AH)(k:NT):=ax cl (F 94) [v0] h λv9 h=>Im cl v0 v1 v4 v9 h k
def Hc(cl:CL)(v0 v4 v6 v7:AV)(h:AH)(k:NT):=wk (aq h v0) λv54 h=>wk (ah h 3 v54) λv55 h=>wk (eK h v55) λv56 h=>wsp v56 λv57=>wg (gdv true v57) (λk=>k v7 h) h λv58 h=>wk (aG h v57 v58 (.bool false)) λv59 h=>wk (aq h v0) λv60 h=>wk (ah h 3 v60) λv61 h=>wk (kSt h 1 v61 v59) λ_ h=>k [v4,v6] h
def SZ(cl:CL)(v4 v6:AV)(h:AH)(Q:QT):=wk (aO h [I 0,I 0,.str [],.aa] [(0,1,(I 1)),(1,1,v6)]) λv63 h=>wk (kSt h 4 v4 v63) λ_ h=>bP (na h [.cell v4 (some 4)]) h Q
def Rk(cl:CL)(v0 v4 v49:AV)(h:AH)(Q:QT):=wk (cm h v49 0) λv50 h=>wk (cm h v49 1) λv51 h=>aI (Hc cl v0 v4 v50 v51 h) λvs h=>SZ cl (ai vs 0) (ai vs 1) h Q
def AJ(cl:CL)(v0 v1 v4 v22 v26:AV)(h:AH)(Q:QT):=wP h (dH h v22 v26) λv27 c8 h=>wk (ae h .eql v27 (.int .u8 34)) λv29 h=>wif v29 (ax cl (F 98) [v0] h λv31 h=>wk (aO h [I 0,I 0,.str [],.aa] [(0,1,(I 3)),(2,1,v31)]) λv32 h=>wk (kSt h 4 v4 v32) λ_ h=>bP (na h [.cell v4 (some 4)]) h Q) (wk (ae h .eql v27 (.int .u8 91)) λv34 h=>wif v34 (ax cl (F 127) [v0,v1] h λv37 h=>wk (kSt h 4 v4 v37) λ_ h=>bP (na h [.cell v4 (some 4)]) h Q) (ax cl (F 122) [v0,.bool true] h λv39 h=>wk (ae h .eql v39 (.str [116,114,117,101])) λv42 h=>wif v42 (wk (aO h [I 0,I 0,.str [],.aa] [(0,1,(I 2)),(1,1,(I 1))]) λv43 h=>wk (kSt h 4 v4 v43) λ_ h=>bP (na h [.cell v4 (some 4)]) h Q) (wk (ae h .eql v39 (.str [102,97,108,115,101])) λv45 h=>wif v45 (wk (aO h [I 0,I 0,.str [],.aa] [(0,1,(I 2))]) λv46 h=>wk (kSt h 4 v4 v46) λ_ h=>bP (na h [.cell v4 (some 4)]) h Q) (ax cl (F 92) [v39] h λv49 h=>Rk cl v0 v4 v49 h Q))))
def vr(cl:CL)(v0 v1 v4 v14:AV)(h:AH)(Q:QT):=wif v14 (wk (aq h v0) λv16 h=>wk (ah h 3 v16) λv17 h=>wk (kSt h 1 v17 (.bool false)) λ_ h=>wk (aO h [I 0,I 0,.str [],.aa] []) λv18 h=>wk (kSt h 4 v4 v18) λ_ h=>bP (na h [.cell v4 (some 4)]) h Q) (wdr h 9 λr h=>wP h (aB h v0) λv19 c0 h=>wP h (aq h v19) λv20 c1 h=>wP h (ah h 0 v20) λv21 c2 h=>wR h (eK h v21) v21 λv22 c3 h=>wP h (aB h v0) λv23 c4 h=>wP h (aq h v23) λv24 c5 h=>wP h (ah h 1 v24) λv25 c6 h=>wR h (eK h v25) v25 λv26 c7 h=>AJ cl v0 v1 v4 v22 v26 h Q)
def g96(cl:CL)(v0 v1:AV)(h:AH)(Q:QT):=wk (cU h [I 0,I 0,.str [],.aa]) λv4 h=>aI (Tx cl v0 v1 v4 h) λvs h=>vr cl (ai vs 0) (ai vs 1) (ai vs 2) (ai vs 3) h Q
theorem C96{cl}(hcl:bt prog cl){v0 v1 h Q}(hg:g96 cl v0 v1 h Q):aJ prog 96 [v0,v1] h Q:=bI hcl [(1,.jn [0,1,4,14]),(23,.jn [4,6])] func96 (by kernel_rfl) (by kernel_rfl) hg
def BP(cl:CL)(v0 v1 v4 v5 v11 v15 v16:AV)(h:AH)(k:NT):=wA v11 (aq h v16) h λv17 c8 h=>wA v11 (ah h 1 v17) h λv18 c9 h=>wC v11 (eK h v18) v18 h λv19 c10 h=>wA v11 (dH h v15 v19) h λv20 c11 h=>wA v11 (ae h .neq v20 (.int .u8 93)) h λv21 c12 h=>wP h (aG h v11 v21 (.bool false)) λv22 c13 h=>k [v0,v1,v4,v5,v22] h
def JK(cl:CL)(v0 v1 v4 v5:AV)(h:AH)(k:NT):=wdr h 14 λr h=>wP h (aB h v0) λv9 c0 h=>wdc cl (F 94) [v9] h λv10 c1 h=>wP h (aB h v10) λv11 c2 h=>wsp v11 λv11=>wA v11 (aB h v0) h λv12 c3 h=>wA v11 (aq h v12) h λv13 c4 h=>wA v11 (ah h 0 v13) h λv14 c5 h=>wC v11 (eK h v14) v14 h λv15 c6 h=>wA v11 (aB h v0) h λv16 c7 h=>BP cl v0 v1 v4 v5 v11 v15 v16 h k
def zU(cl:CL)(v0 v1 v4 v5 v26:AV)(h:AH)(k:NT):=wif v26 (ax cl (F 126) [v0,.int .u8 32] h λv28 h=>k [v0,v1,v4,v5] h) (k [v0,v1,v4,v5] h)
def Kf(cl:CL)(c1 c5 c6:Rec)(v0 v1 v4 v5 v36:AV)(h:AH)(k:KT):=wP h (ah h 3 v5) λv37 c8 h=>wde h (kSt h 1 v37 v36) λ_ c9 h=>aU c1 c5=true/\aU c1 c6=true/\k .nrm [v0,v1,v4,v5] [v0,v4,v5] h
def Jk(cl:CL)(v0 v1 v4 v5:AV)(h:AH)(k:KT):=wdr h 10 λr h=>wP h (ah h 3 v5) λv29 c0 h=>wR h (eK h v29) v29 λv30 c1 h=>wP h (aB h v0) λv31 c2 h=>wP h (aB h v1) λv32 c3 h=>wP h (ae h .add v32 (I 1)) λv33 c4 h=>wdc cl (F 96) [v31,v33] h λv34 c5 h=>wda (r+6) h (dC 4 1 [I 0,I 0,.str [],.aa] [(0,4,v34)]) λv35 c6 h=>wde h (dK h 4 56 v30 v35) λv36 c7 h=>Kf cl c1 c5 c6 v0 v1 v4 v5 v36 h k
def Ad(cl:CL)(v0 v1 v4 v5 v22:AV)(h:AH)(k:KT):=wif v22 (wk (ah h 3 v5) λv23 h=>wk (eK h v23) λv24 h=>wk (bh h v24) λv25 h=>wk (ae h .gtr v25 (I 0)) λv26 h=>aI (zU cl v0 v1 v4 v5 v26 h) λvs h=>Jk cl (ai vs 0) (ai vs 1) (ai vs 2) (ai vs 3) h k) (k (.exit 0) [v0,v1,v4,v5] [v0,v4,v5] h)
def Lh(cl:CL)(v0 v1 v4 v5:AV)(h:AH)(k:KT):=aI (JK cl v0 v1 v4 v5 h) λvs h=>Ad cl (ai vs 0) (ai vs 1) (ai vs 2) (ai vs 3) (ai vs 4) h k
def CF(cl:CL)(v0 v4 v5:AV)(h:AH)(Q:QT):=ax cl (F 126) [v0,.int .u8 93] h λv39 h=>wk (bj h 4 v5) λv40 h=>wk (kSt h 4 v4 v40) λ_ h=>bP (na h [.cell v4 (some 4)]) h Q
def Lq(cl:CL)(x:AX)(v0 v4 v5:AV)(h:AH)(Q:QT):=xs x (CF cl v0 v4 v5 h Q) (λj=>cond (Nat.beq j 0) (CF cl v0 v4 v5 h Q) (False)) (bP (na h [.cell v4 (some 4)]) h Q)
def afF(cl:CL)(v0 v1:AV)(h:AH)(Q:QT):=wk (cU h [I 0,I 0,.str [],.aa]) λv4 h=>wk (aO h [I 0,I 0,.str [],.aa] [(0,1,(I 4))]) λv6 h=>wk (cU h [I 0,I 0,.str [],.aa]) λv5 h=>wk (kSt h 4 v5 v6) λ_ h=>ax cl (F 126) [v0,.int .u8 91] h λv8 h=>b9 (λvs h k=>Lh cl (ai vs 0) (ai vs 1) (ai vs 2) (ai vs 3) h k) [v0,v1,v4,v5] h λx vs h=>Lq cl x (ai vs 0) (ai vs 1) (ai vs 2) h Q
theorem ahu{cl}(hcl:bt prog cl){v0 v1 h Q}(hg:afF cl v0 v1 h Q):aJ prog 127 [v0,v1] h Q:=bI hcl [(4,.l [0,1,4,5] [0,4,5]),(5,.jn [0,1,4,5,22]),(9,.jn [0,1,4,5])] func127 (by kernel_rfl) (by kernel_rfl) hg
def Iw(cl:CL)(v0 v3 v4 v20 v21:AV)(h:AH)(k:NT):=wk (ah h 3 v21) λv22 h=>wk (kSt h 1 v22 v20) λ_ h=>k [v0,v3,v4] h
def FG(cl:CL)(v0 v3 v4:AV)(h:AH)(k:NT):=wk (aq h v0) λv13 h=>wk (ah h 3 v13) λv14 h=>wk (eK h v14) λv15 h=>wsp v15 λv16=>gA v16 (bj h 4 v4) h λv17 h=>wg (gdv true v16) (λk=>ax cl (F 97) [v17] h k) h λv18 h=>gA v16 (ae h .eql v18 (I 0)) h λv19 h=>wk (aG h v16 v19 (.bool false)) λv20 h=>wk (aq h v0) λv21 h=>Iw cl v0 v3 v4 v20 v21 h k
def So(cl:CL)(v0 v3 v4:AV)(h:AH)(k:KT):=wk (bj h 4 v4) λv24 h=>wk (aQ h 4 1 [I 0,I 0,.str [],.aa] [(0,4,v24)]) λv25 h=>wk (dK h 4 56 v3 v25) λv26 h=>k .nrm [v0,v26] [v26] h
def Ul(cl:CL)(v0 v3:AV)(h:AH)(k:KT):=ax cl (F 94) [v0] h λv6 h=>wif v6 (ax cl (F 95) [v0] h λv8 h=>ax cl (F 96) [v0,I 0] h λv10 h=>wk (cU h [I 0,I 0,.str [],.aa]) λv4 h=>wk (kSt h 4 v4 v10) λ_ h=>aI (FG cl v0 v3 v4 h) λvs h=>So cl (ai vs 0) (ai vs 1) (ai vs 2) h k) (k (.exit 0) [v0,v3] [v3] h)
def IX(cl:CL)(v3:AV)(h:AH)(Q:QT):=Q v3 h
def S3(cl:CL)(x:AX)(v3:AV)(h:AH)(Q:QT):=xs x (IX cl v3 h Q) (λj=>cond (Nat.beq j 0) (IX cl v3 h Q) (False)) (Q (.undef) h)
def g60(cl:CL)(v0:AV)(h:AH)(Q:QT):=b9 (λvs h k=>Ul cl (ai vs 0) (ai vs 1) h k) [v0,(.aa)] h λx vs h=>S3 cl x (ai vs 0) h Q
theorem C60{cl}(hcl:bt prog cl){v0 h Q}(hg:g60 cl v0 h Q):aJ prog 60 [v0] h Q:=bI hcl [(3,.l [0,3] [3]),(9,.jn [0,3,4])] func60 (by kernel_rfl) (by kernel_rfl) hg
def Qf(cl:CL)(v2 v3 v15:AV)(h:AH)(k:NT):=wk (kX h .s2r [v15]) λv16 h=>wk (ah h 1 v3) λv17 h=>wk (kSt h 1 v17 v16) λ_ h=>k [v2,v3] h
def Ox(cl:CL)(v0 v2 v3 v32 v39:AV)(h:AH)(k:KT):=wk (aQ h 2 1 [I 0,.bool false] [(0,2,v39)]) λv40 h=>wk (dK h 2 16 v32 v40) λv41 h=>wk (ah h 13 v3) λv42 h=>wk (kSt h 1 v42 v41) λ_ h=>k .nrm [v0,v2,v3] [v2,v3] h
def Sx(cl:CL)(v0 v2 v3:AV)(h:AH)(k:KT):=ax cl (F 94) [v0] h λv28 h=>wif v28 (ax cl (F 58) [v0] h λv30 h=>wk (ah h 13 v3) λv31 h=>wk (eK h v31) λv32 h=>wk (kUn h .neg v30) λv35 h=>wk (iy h true v30 v35) λv36 h=>wk (ae h .lss v30 (I 0)) λv38 h=>wk (aO h [I 0,.bool false] [(0,1,v36),(1,1,v38)]) λv39 h=>Ox cl v0 v2 v3 v32 v39 h k) (k (.exit 1) [v0,v2,v3] [v2,v3] h)
def FL(cl:CL)(v2 v3:AV)(h:AH)(k:NT):=k [v2,v3] h
def Pr(cl:CL)(x:AX)(v2 v3:AV)(h:AH)(k:NT):=xs x (FL cl v2 v3 h k) (λj=>cond (Nat.beq j 1) (FL cl v2 v3 h k) (cond (Nat.beq j 0) (k [v2,v3] h) (False))) (False)
def Uq(cl:CL)(v0 v2 v3 v21:AV)(h:AH)(k:NT):=wk (kX h .s2r [v21]) λv22 h=>wk (ah h 1 v3) λv23 h=>wk (kSt h 1 v23 v22) λ_ h=>ax cl (F 58) [v0] h λv25 h=>wk (ah h 12 v3) λv26 h=>wk (kSt h 1 v26 v25) λ_ h=>b9 (λvs h k=>Sx cl (ai vs 0) (ai vs 1) (ai vs 2) h k) [v0,v2,v3] h λx vs h=>Pr cl x (ai vs 0) (ai vs 1) h k
def BV(cl:CL)(v0 v2 v3 v11:AV)(h:AH)(k:NT):=wk (ae h .eql v11 (I 16)) λv13 h=>wif v13 (ax cl (F 62) [v0] h λv15 h=>Qf cl v2 v3 v15 h k) (wk (ae h .eql v11 (I 15)) λv19 h=>wif v19 (ax cl (F 62) [v0] h λv21 h=>Uq cl v0 v2 v3 v21 h k) (k [v2,v3] h))
def R3(cl:CL)(v2 v3:AV)(h:AH)(Q:QT):=wk (bj h 15 v3) λv43 h=>wk (kSt h 15 v2 v43) λ_ h=>bP (na h [.cell v2 (some 15)]) h Q
def OA(cl:CL)(v0 v2 v7:AV)(h:AH)(Q:QT):=wk (ae h .add (I 14) v7) λv8 h=>wk (aO h [I 0,.aa,.aa,.aa,I 0,I 0,.bool false,I 0,I 0,I 0,I 0,I 0,I 0,.aa,I 0] [(0,1,v8)]) λv9 h=>wk (cU h [I 0,.aa,.aa,.aa,I 0,I 0,.bool false,I 0,I 0,I 0,I 0,I 0,I 0,.aa,I 0]) λv3 h=>wk (kSt h 15 v3 v9) λ_ h=>wk (ah h 0 v3) λv10 h=>wk (eK h v10) λv11 h=>aI (BV cl v0 v2 v3 v11 h) λvs h=>R3 cl (ai vs 0) (ai vs 1) h Q
def g63(cl:CL)(v0:AV)(h:AH)(Q:QT):=wk (cU h [I 0,.aa,.aa,.aa,I 0,I 0,.bool false,I 0,I 0,I 0,I 0,I 0,I 0,.aa,I 0]) λv2 h=>wk (aQ h 1 4 [.str [],.str [],.str [],.str []] [(0,1,(.str [98,101,103,105,110])),(1,1,(.str [117,112,100,97,116,101])),(2,1,(.str [99,111,109,109,105,116])),(3,1,(.str [99,97,110,99,101,108]))]) λv6 h=>ax cl (F 56) [v0,v6] h λv7 h=>OA cl v0 v2 v7 h Q
theorem C63{cl}(hcl:bt prog cl){v0 h Q}(hg:g63 cl v0 h Q):aJ prog 63 [v0] h Q:=bI hcl [(3,.jn [2,3]),(12,.l [0,2,3] [2,3])] func63 (by kernel_rfl) (by kernel_rfl) hg
def nH(cl:CL)(v17 v20 v22:AV)(h:AH)(Q:QT):=gA v17 (aG h v20 (.bool true) v22) h λv23 h=>wk (aG h v17 v23 (.bool false)) λv24 h=>Q v24 h
def nB(cl:CL)(v0 v9 v12 v13:AV)(h:AH)(Q:QT):=gB v12 (ae h .gtr v13 (I 57343)) h λv14 h=>gA v9 (aG h v12 (.bool true) v14) h λv15 h=>wk (aG h v9 v15 (.bool false)) λv16 h=>wsp v16 λv17=>wg (gdv true v17) (λk=>k v0 h) h λv18 h=>gA v17 (ae h .lss v18 (I 65)) h λv19 h=>wg (gdv true v17) (λk=>k v19 h) h λv20 h=>wsp v20 λv20=>wg (gdv false v20) (λk=>k v0 h) h λv21 h=>gB v20 (ae h .gtr v21 (I 90)) h λv22 h=>nH cl v17 v20 v22 h Q
def GW(cl:CL)(v0:AV)(h:AH)(Q:QT):=wk (ae h .geq v0 (I 32)) λv4 h=>wsp v4 λv5=>wg (gdv true v5) (λk=>k v0 h) h λv6 h=>gA v5 (ae h .leq v6 (I 1114111)) h λv7 h=>wk (aG h v5 v7 (.bool false)) λv8 h=>wsp v8 λv9=>wg (gdv true v9) (λk=>k v0 h) h λv10 h=>gA v9 (ae h .lss v10 (I 55296)) h λv11 h=>wg (gdv true v9) (λk=>k v11 h) h λv12 h=>wsp v12 λv12=>wg (gdv false v12) (λk=>k v0 h) h λv13 h=>nB cl v0 v9 v12 v13 h Q
theorem ahF{cl}(hcl:bt prog cl){v0 h Q}(hg:GW cl v0 h Q):aJ prog 132 [v0] h Q:=bI hcl [] func132 (by kernel_rfl) (by kernel_rfl) hg
def ae9(cl:CL)(h:AH)(Q:QT):=wk (aQ h 1 4 [.str [],.str [],.str [],.str []] [(0,1,(.str [99,116,114,108])),(1,1,(.str [97,108,116])),(2,1,(.str [115,104,105,102,116])),(3,1,(.str [109,101,116,97]))]) λv1 h=>Q v1 h
theorem aiu{cl}(hcl:bt prog cl){h Q}(hg:ae9 cl h Q):aJ prog 133 [] h Q:=bI hcl [] func133 (by kernel_rfl) (by kernel_rfl) hg
def ad2(cl:CL)(h:AH)(Q:QT):=wk (aQ h 1 23 [.str [],.str [],.str [],.str [],.str [],.str [],.str [],.str [],.str [],.str [],.str [],.str [],.str [],.str [],.str [],.str [],.str [],.str [],.str [],.str [],.str [],.str [],.str []] [(0,1,(.str [116,97,98])),(1,1,(.str [101,110,116,101,114])),(2,1,(.str [101,115,99,97,112,101])),(3,1,(.str [98,97,99,107,115,112,97,99,101])),(4,1,(.str [100,101,108,101,116,101])),(5,1,(.str [108,101,102,116])),(6,1,(.str [114,105,103,104,116])),(7,1,(.str [117,112])),(8,1,(.str [100,111,119,110])),(9,1,(.str [104,111,109,101])),(10,1,(.str [101,110,100])),(11,1,(.str [102,49])),(12,1,(.str [102,50])),(13,1,(.str [102,51])),(14,1,(.str [102,52])),(15,1,(.str [102,53])),(16,1,(.str [102,54])),(17,1,(.str [102,55])),(18,1,(.str [102,56])),(19,1,(.str [102,57])),(20,1,(.str [102,49,48])),(21,1,(.str [102,49,49])),(22,1,(.str [102,49,50]))]) λv1 h=>Q v1 h
theorem ahM{cl}(hcl:bt prog cl){h Q}(hg:ad2 cl h Q):aJ prog 134 [] h Q:=bI hcl [] func134 (by kernel_rfl) (by kernel_rfl) hg
def Kz(cl:CL)(v0 v2 v4 v12 v13 v14 v32 v33:AV)(h:AH)(k:NT):=wde h (kSt h 1 v33 v32) λ_ c6 h=>k [v0,v2,v4,v12,v13,v14] h
def CA(cl:CL)(v0 v2 v4 v5 v12 v13 v14 v23:AV)(h:AH)(k:NT):=wk (cm h v23 0) λv24 h=>wk (cm h v23 1) λv25 h=>wif v25 (wdr h 7 λr h=>wP h (ah h 1 v4) λv28 c0 h=>wR h (eK h v28) v28 λv29 c1 h=>wP h (aB h v5) λv30 c2 h=>wP h (ae h .shl (I 1) v30) λv31 c3 h=>wP h (ae h .or v29 v31) λv32 c4 h=>wP h (ah h 1 v4) λv33 c5 h=>Kz cl v24 v2 v4 v12 v13 v14 v32 v33 h k) (k [v0,v2,v4,v12,v13,v14] h)
def auA(cl:CL)(v0 v2 v4 v12 v13 v14:AV)(h:AH)(k:NT):=wk (aF h 1 v12 v14) λv17 h=>wk (eK h v17) λv18 h=>wk (ae h .add v18 (.str [43])) λv22 h=>ax cl (F 147) [v0,v22] h λv23 h=>CA cl v0 v2 v4 v14 v12 v13 v14 v23 h k
def JE(cl:CL)(v0 v2 v4 v12 v13 v14:AV)(h:AH)(k:KT):=wk (ae h .add v14 (I 1)) λv34 h=>k .nrm [v0,v2,v4,v12,v13,v34] [v0,v2,v4] h
def A8(cl:CL)(v0 v2 v4 v12 v13 v14:AV)(h:AH)(k:KT):=wk (ae h .lss v14 v13) λv15 h=>wif v15 (aI (auA cl v0 v2 v4 v12 v13 v14 h) λvs h=>JE cl (ai vs 0) (ai vs 1) (ai vs 2) (ai vs 3) (ai vs 4) (ai vs 5) h k) (k (.exit 0) [v0,v2,v4,v12,v13,v14] [v0,v2,v4] h)
def nN(cl:CL)(v2 v4 v10 v73 v74:AV)(h:AH)(k:NT):=gB v73 (cB h .i64 v74) h λv75 h=>wg (gdv false v73) (λk=>ax cl (F 132) [v75] h k) h λv76 h=>gB v73 (kUn h .not v76) h λv77 h=>wk (aG h v73 (.bool true) v77) λv78 h=>k [v2,v4,v10,v78] h
def nw(cl:CL)(v2 v4 v10 v11 v61 v64:AV)(h:AH)(k:NT):=wsp v64 λv64=>wg (gdv true v64) (λk=>k v11 h) h λv65 h=>gA v64 (ae h .eql v65 (I 1)) h λv66 h=>gB v61 (aG h v64 v66 (.bool false)) h λv67 h=>wk (aG h v61 (.bool true) v67) λv68 h=>wsp v68 λv69=>wg (gdv false v69) (λk=>k v10 h) h λv70 h=>gB v69 (ae h .eql v70 (.int .i32 32)) h λv71 h=>wk (aG h v69 (.bool true) v71) λv72 h=>wsp v72 λv73=>wg (gdv false v73) (λk=>k v10 h) h λv74 h=>nN cl v2 v4 v10 v73 v74 h k
def ny(cl:CL)(v0 v2 v4 v10 v11:AV)(h:AH)(k:NT):=wk (cL h v0) λv55 h=>wk (ae h .neq v11 v55) λv56 h=>wsp v56 λv57=>wg (gdv false v57) (λk=>k v11 h) h λv58 h=>gB v57 (ae h .eql v58 (I 0)) h λv59 h=>wk (aG h v57 (.bool true) v59) λv60 h=>wsp v60 λv61=>wg (gdv false v61) (λk=>k v10 h) h λv62 h=>gB v61 (ae h .eql v62 (.int .i32 65533)) h λv63 h=>wg (gdv false v61) (λk=>k v63 h) h λv64 h=>nw cl v2 v4 v10 v11 v61 v64 h k
def Cz(cl:CL)(v2 v4 v10 v78:AV)(h:AH)(Q:QT):=wif v78 (wk (aO h [I 0,I 0] []) λv79 h=>wk (kSt h 2 v2 v79) λ_ h=>bP (na h [.cell v2 (some 2),.val ((.bool false))]) h Q) (wk (cB h .i64 v10) λv81 h=>wk (ah h 0 v4) λv82 h=>wk (kSt h 1 v82 v81) λ_ h=>wk (bj h 2 v4) λv83 h=>wk (kSt h 2 v2 v83) λ_ h=>bP (na h [.cell v2 (some 2),.val ((.bool true))]) h Q)
def Ks(cl:CL)(v0 v2 v4 v50:AV)(h:AH)(Q:QT):=wk (cm h v50 0) λv51 h=>wk (cm h v50 1) λv52 h=>aI (ny cl v0 v2 v4 v51 v52 h) λvs h=>Cz cl (ai vs 0) (ai vs 1) (ai vs 2) (ai vs 3) h Q
def Ku(cl:CL)(v0 v2 v4 v35:AV)(h:AH)(Q:QT):=ax cl (F 90) [v35,v0] h λv37 h=>wk (ae h .geq v37 (I 0)) λv39 h=>wif v39 (wk (ae h .add (I 1) v37) λv41 h=>wk (ah h 0 v4) λv42 h=>wk (kSt h 1 v42 v41) λ_ h=>wk (bj h 2 v4) λv43 h=>wk (kSt h 2 v2 v43) λ_ h=>bP (na h [.cell v2 (some 2),.val ((.bool true))]) h Q) (wk (ae h .eql v0 (.str [115,112,97,99,101])) λv45 h=>wif v45 (wk (ah h 0 v4) λv46 h=>wk (kSt h 1 v46 (I 32)) λ_ h=>wk (bj h 2 v4) λv47 h=>wk (kSt h 2 v2 v47) λ_ h=>bP (na h [.cell v2 (some 2),.val ((.bool true))]) h Q) (ax cl (F 148) [v0] h λv50 h=>Ks cl v0 v2 v4 v50 h Q))
def AM(cl:CL)(v0 v2 v4:AV)(h:AH)(Q:QT):=ax cl (F 134) [] h λv35 h=>Ku cl v0 v2 v4 v35 h Q
def Mb(cl:CL)(x:AX)(v0 v2 v4:AV)(h:AH)(Q:QT):=xs x (AM cl v0 v2 v4 h Q) (λj=>cond (Nat.beq j 0) (AM cl v0 v2 v4 h Q) (False)) (bP (na h [.cell v2 (some 2),.val (.undef)]) h Q)
def afJ(cl:CL)(v0:AV)(h:AH)(Q:QT):=wk (cU h [I 0,I 0]) λv2 h=>wk (cU h [I 0,I 0]) λv4 h=>ax cl (F 133) [] h λv12 h=>wk (bh h v12) λv13 h=>b9 (λvs h k=>A8 cl (ai vs 0) (ai vs 1) (ai vs 2) (ai vs 3) (ai vs 4) (ai vs 5) h k) [v0,v2,v4,v12,v13,I 0] h λx vs h=>Mb cl x (ai vs 0) (ai vs 1) (ai vs 2) h Q
theorem ah4{cl}(hcl:bt prog cl){v0 h Q}(hg:afJ cl v0 h Q):aJ prog 125 [v0] h Q:=bI hcl [(4,.l [0,2,4,12,13,14] [0,2,4]),(7,.jn [0,2,4,12,13,14]),(25,.jn [2,4,10,78])] func125 (by kernel_rfl) (by kernel_rfl) hg
def Pl(cl:CL)(v13 v14 v15 v29:AV)(h:AH)(k:KT):=wk (ae h .add v15 (I 1)) λv30 h=>k .nrm [v29,v13,v14,v30] [.undef,.undef,v29] h
def FF(cl:CL)(v4 v13 v14 v15 v21:AV)(h:AH)(k:KT):=wk (cm h v21 0) λv22 h=>wk (cm h v21 1) λv23 h=>wk (cU h [I 0,I 0]) λv7 h=>wk (kSt h 2 v7 v22) λ_ h=>wk (kUn h .not v23) λv25 h=>wif v25 (k .ret [v4,v13,v14,v15] [(.aa),I 3,v4] h) (wk (bj h 2 v7) λv27 h=>wk (aQ h 2 1 [I 0,I 0] [(0,2,v27)]) λv28 h=>wk (dK h 2 16 v4 v28) λv29 h=>Pl cl v13 v14 v15 v29 h k)
def HP(cl:CL)(v4 v13 v14 v15:AV)(h:AH)(k:KT):=wk (ae h .lss v15 v14) λv16 h=>wif v16 (wk (aF h 1 v13 v15) λv17 h=>wk (eK h v17) λv18 h=>ax cl (F 125) [v18] h λv21 h=>FF cl v4 v13 v14 v15 v21 h k) (k (.exit 0) [v4,v13,v14,v15] [.undef,.undef,v4] h)
def Fu(cl:CL)(v4:AV)(h:AH)(Q:QT):=wk (bh h v4) λv32 h=>wk (ae h .gtr v32 (I 3)) λv33 h=>wif v33 (Q (.tup [(.aa),I 2]) h) (Q (.tup [v4,I 0]) h)
def Fo(cl:CL)(x:AX)(v2 v3 v4:AV)(h:AH)(Q:QT):=xs x (Fu cl v4 h Q) (λj=>cond (Nat.beq j 0) (Fu cl v4 h Q) (False)) (Q (.tup [v2,v3]) h)
def g93(cl:CL)(v0:AV)(h:AH)(Q:QT):=wk (cL h v0) λv10 h=>wk (ae h .gtr v10 (I 100)) λv11 h=>wif v11 (Q (.tup [(.aa),I 2]) h) (ax cl (F 124) [v0,.str [32]] h λv13 h=>wk (bh h v13) λv14 h=>b9 (λvs h k=>HP cl (ai vs 0) (ai vs 1) (ai vs 2) (ai vs 3) h k) [(.aa),v13,v14,I 0] h λx vs h=>Fo cl x (ai vs 0) (ai vs 1) (ai vs 2) h Q)
theorem C93{cl}(hcl:bt prog cl){v0 h Q}(hg:g93 cl v0 h Q):aJ prog 93 [v0] h Q:=bI hcl [(7,.l [4,13,14,15] [2,3,4])] func93 (by kernel_rfl) (by kernel_rfl) hg
def Be(cl:CL)(v0 v2 v3 v4:AV)(h:AH)(k:NT):=wk (ae h .neq v4 (I 0)) λv12 h=>wsp v12 λv13=>wg (gdv false v13) (λk=>k v3 h) h λv14 h=>gB v13 (bh h v14) h λv15 h=>gB v13 (ae h .neq v15 (I 1)) h λv16 h=>wk (aG h v13 (.bool true) v16) λv17 h=>k [v0,v2,v3,v17] h
def Fw(cl:CL)(v0 v2 v3 v17:AV)(h:AH)(Q:QT):=wif v17 (wk (aq h v0) λv19 h=>wk (ah h 3 v19) λv20 h=>wk (kSt h 1 v20 (.bool false)) λ_ h=>wk (aO h [I 0,I 0] []) λv21 h=>wk (kSt h 2 v2 v21) λ_ h=>bP (na h [.cell v2 (some 2)]) h Q) (wk (aF h 2 v3 (I 0)) λv23 h=>wk (bj h 2 v23) λv24 h=>wk (kSt h 2 v2 v24) λ_ h=>bP (na h [.cell v2 (some 2)]) h Q)
def Ql(cl:CL)(v0 v2 v8:AV)(h:AH)(Q:QT):=wk (cm h v8 0) λv9 h=>wk (cm h v8 1) λv10 h=>aI (Be cl v0 v2 v9 v10 h) λvs h=>Fw cl (ai vs 0) (ai vs 1) (ai vs 2) (ai vs 3) h Q
def OY(cl:CL)(v0 v2 v7:AV)(h:AH)(Q:QT):=ax cl (F 93) [v7] h λv8 h=>Ql cl v0 v2 v8 h Q
def g59(cl:CL)(v0:AV)(h:AH)(Q:QT):=wk (cU h [I 0,I 0]) λv2 h=>ax cl (F 91) [v0] h λv7 h=>OY cl v0 v2 v7 h Q
theorem C59{cl}(hcl:bt prog cl){v0 h Q}(hg:g59 cl v0 h Q):aJ prog 59 [v0] h Q:=bI hcl [(2,.jn [0,2,3,17])] func59 (by kernel_rfl) (by kernel_rfl) hg
def g57(cl:CL)(h:AH)(Q:QT):=wk (aQ h 1 6 [.str [],.str [],.str [],.str [],.str [],.str []] [(0,1,(.str [100,111,119,110])),(1,1,(.str [109,111,118,101])),(2,1,(.str [117,112])),(3,1,(.str [99,97,110,99,101,108])),(4,1,(.str [116,105,99,107])),(5,1,(.str [119,104,101,101,108]))]) λv1 h=>Q v1 h
theorem C57{cl}(hcl:bt prog cl){h Q}(hg:g57 cl h Q):aJ prog 57 [] h Q:=bI hcl [] func57 (by kernel_rfl) (by kernel_rfl) hg
def g61(cl:CL)(h:AH)(Q:QT):=wk (aQ h 1 9 [.str [],.str [],.str [],.str [],.str [],.str [],.str [],.str [],.str []] [(0,1,(.str [112,114,101,115,115])),(1,1,(.str [102,111,99,117,115])),(2,1,(.str [105,110,99,114,101,97,115,101])),(3,1,(.str [100,101,99,114,101,97,115,101])),(4,1,(.str [115,101,116,116,101,120,116])),(5,1,(.str [115,101,108,101,99,116])),(6,1,(.str [115,99,114,111,108,108,117,112])),(7,1,(.str [115,99,114,111,108,108,100,111,119,110])),(8,1,(.str [100,105,115,109,105,115,115]))]) λv1 h=>Q v1 h
theorem C61{cl}(hcl:bt prog cl){h Q}(hg:g61 cl h Q):aJ prog 61 [] h Q:=bI hcl [] func61 (by kernel_rfl) (by kernel_rfl) hg
def Tk(cl:CL)(v0 v2 v4 v5 v30 v32 v34 v40:AV)(h:AH)(k:NT):=wk (kSt h 1 v40 v30) λ_ h=>wk (ah h 1 v5) λv41 h=>wk (ah h 4 v41) λv42 h=>wk (kSt h 1 v42 v32) λ_ h=>wk (ah h 1 v5) λv43 h=>wk (ah h 5 v43) λv44 h=>wk (kSt h 1 v44 v34) λ_ h=>k [v0,v2,v4,v5] h
def T5(cl:CL)(v0 v2 v4 v5 v26 v28 v30 v32 v34:AV)(h:AH)(k:NT):=wk (ah h 1 v5) λv35 h=>wk (ah h 1 v35) λv36 h=>wk (kSt h 1 v36 v26) λ_ h=>wk (ah h 1 v5) λv37 h=>wk (ah h 2 v37) λv38 h=>wk (kSt h 1 v38 v28) λ_ h=>wk (ah h 1 v5) λv39 h=>wk (ah h 3 v39) λv40 h=>Tk cl v0 v2 v4 v5 v30 v32 v34 v40 h k
def SF(cl:CL)(v0 v2 v4 v5 v26 v28 v30 v32:AV)(h:AH)(k:NT):=ax cl (F 58) [v4] h λv34 h=>T5 cl v0 v2 v4 v5 v26 v28 v30 v32 v34 h k
def QM(cl:CL)(v0 v2 v4 v5 v26 v28 v30:AV)(h:AH)(k:NT):=ax cl (F 58) [v4] h λv32 h=>SF cl v0 v2 v4 v5 v26 v28 v30 v32 h k
def PT(cl:CL)(v0 v2 v4 v5 v26 v28:AV)(h:AH)(k:NT):=ax cl (F 58) [v4] h λv30 h=>QM cl v0 v2 v4 v5 v26 v28 v30 h k
def T7(cl:CL)(v0 v2 v4 v5 v26:AV)(h:AH)(k:NT):=ax cl (F 58) [v4] h λv28 h=>PT cl v0 v2 v4 v5 v26 v28 h k
def Ui(cl:CL)(v0 v2 v4 v5 v21:AV)(h:AH)(k:NT):=wk (ae h .add (I 1) v21) λv22 h=>wk (ah h 1 v5) λv23 h=>wk (ah h 0 v23) λv24 h=>wk (kSt h 1 v24 v22) λ_ h=>ax cl (F 58) [v4] h λv26 h=>T7 cl v0 v2 v4 v5 v26 h k
def Pk(cl:CL)(v0 v2 v4 v5 v19 v20:AV)(h:AH)(k:NT):=ax cl (F 56) [v19,v20] h λv21 h=>Ui cl v0 v2 v4 v5 v21 h k
def Rg(cl:CL)(v0 v2 v4 v5 v61 v63:AV)(h:AH)(k:NT):=wk (ah h 10 v5) λv64 h=>wk (ah h 0 v64) λv65 h=>wk (kSt h 1 v65 v61) λ_ h=>wk (ah h 10 v5) λv66 h=>wk (ah h 1 v66) λv67 h=>wk (kSt h 1 v67 v63) λ_ h=>k [v0,v2,v4,v5] h
def Le(cl:CL)(v0 v2 v4 v5 v61:AV)(h:AH)(k:NT):=ax cl (F 58) [v4] h λv63 h=>Rg cl v0 v2 v4 v5 v61 v63 h k
def JM(cl:CL)(v0 v2 v4 v5 v83:AV)(h:AH)(k:NT):=wk (ah h 12 v5) λv84 h=>wk (ah h 2 v84) λv85 h=>wk (kSt h 1 v85 v83) λ_ h=>k [v0,v2,v4,v5] h
def L6(cl:CL)(v0 v2 v4 v5 v78:AV)(h:AH)(k:NT):=wk (ae h .eql v78 (I 1)) λv79 h=>wk (ah h 12 v5) λv80 h=>wk (ah h 1 v80) λv81 h=>wk (kSt h 1 v81 v79) λ_ h=>ax cl (F 58) [v4] h λv83 h=>JM cl v0 v2 v4 v5 v83 h k
def J8(cl:CL)(v0 v2 v4 v5 v72:AV)(h:AH)(k:NT):=wk (ae h .eql v72 (I 1)) λv73 h=>wk (ah h 12 v5) λv74 h=>wk (ah h 0 v74) λv75 h=>wk (kSt h 1 v75 v73) λ_ h=>wk (aQ h 1 2 [.str [],.str []] [(0,1,(.str [110,111,114,109,97,108])),(1,1,(.str [104,105,103,104]))]) λv77 h=>ax cl (F 56) [v4,v77] h λv78 h=>L6 cl v0 v2 v4 v5 v78 h k
def Jn(cl:CL)(v0 v2 v4 v5 v89 v90:AV)(h:AH)(k:NT):=wk (kSt h 1 v90 v89) λ_ h=>k [v0,v2,v4,v5] h
def Lt(cl:CL)(v0 v2 v4 v5 fB oq:AV)(h:AH)(k:NT):=wk (kSt h 1 oq fB) λ_ h=>k [v0,v2,v4,v5] h
def J6(cl:CL)(v0 v2 v4 v5 jD lx iV jC kG fB:AV)(h:AH)(k:NT):=wk (aq h jD) λkK h=>wk (ah h 3 kK) λow h=>wk (kSt h 1 ow jC) λ_ h=>wk (aq h lx) λnf h=>wk (ah h 4 nf) λv124 h=>wk (kSt h 1 v124 kG) λ_ h=>wk (aq h iV) λni h=>wk (ah h 5 ni) λoq h=>Lt cl v0 v2 v4 v5 fB oq h k
def KA(cl:CL)(v0 v2 v4 v5 jD lx iV jC kG:AV)(h:AH)(k:NT):=ax cl (F 62) [v4] h λfB h=>J6 cl v0 v2 v4 v5 jD lx iV jC kG fB h k
def KX(cl:CL)(v0 v2 v4 v5 jD lx iV jC:AV)(h:AH)(k:NT):=ax cl (F 58) [v4] h λkG h=>KA cl v0 v2 v4 v5 jD lx iV jC kG h k
def K4(cl:CL)(v0 v2 v4 v5 v6 pV v107:AV)(h:AH)(k:NT):=wk (iy h true (I 0) v107) λiL h=>wk (ae h .shl (I 1) iL) λv109 h=>wk (aq h pV) λkq h=>wk (ah h 2 kq) λgp h=>wk (kSt h 1 gp v109) λ_ h=>ax cl (F 58) [v4] h λjC h=>KX cl v0 v2 v4 v5 v6 v6 v6 jC h k
def L8(cl:CL)(v0 v2 v4 v5 v6 pV v105 mg:AV)(h:AH)(k:NT):=ax cl (F 56) [v105,mg] h λv107 h=>K4 cl v0 v2 v4 v5 v6 pV v107 h k
def Kq(cl:CL)(v0 v2 v4 v5 v6 v94 v95 v97 v99:AV)(h:AH)(k:NT):=wk (aq h v94) λgF h=>wk (ah h 0 gF) λlu h=>wk (kSt h 1 lu v97) λ_ h=>wk (aq h v95) λiW h=>wk (ah h 1 iW) λmO h=>wk (kSt h 1 mO v99) λ_ h=>ax cl (F 61) [] h λmg h=>L8 cl v0 v2 v4 v5 v6 v6 v4 mg h k
def Km(cl:CL)(v0 v2 v4 v5 v6 v94 v95 v97:AV)(h:AH)(k:NT):=ax cl (F 58) [v4] h λv99 h=>Kq cl v0 v2 v4 v5 v6 v94 v95 v97 v99 h k
def KJ(cl:CL)(v0 v2 v4 v5 v93:AV)(h:AH)(k:NT):=ax cl (F 58) [v4] h λv97 h=>Km cl v0 v2 v4 v5 v93 v93 v93 v97 h k
def zJ(cl:CL)(v0 v2 v4 v5 nh:AV)(h:AH)(k:NT):=wif nh (ax cl (F 63) [v4] h λv130 h=>wk (ah h 22 v5) λv131 h=>wk (kSt h 15 v131 v130) λ_ h=>k [v0,v2,v4,v5] h) (k [v0,v2,v4,v5] h)
def fy(cl:CL)(v0 v2 v4 v5 v16:AV)(h:AH)(k:NT):=wk (ae h .eql v16 (I 1)) λv18 h=>wif v18 (ax cl (F 57) [] h λv20 h=>Pk cl v0 v2 v4 v5 v4 v20 h k) (wk (ae h .eql v16 (I 2)) λv46 h=>wif v46 (ax cl (F 59) [v4] h λv48 h=>wk (ah h 7 v5) λv49 h=>wk (kSt h 2 v49 v48) λ_ h=>ax cl (F 58) [v4] h λv51 h=>wk (ah h 9 v5) λv52 h=>wk (kSt h 1 v52 v51) λ_ h=>k [v0,v2,v4,v5] h) (wk (ae h .eql v16 (I 3)) λv54 h=>wif v54 (ax cl (F 58) [v4] h λv56 h=>wk (ah h 9 v5) λv57 h=>wk (kSt h 1 v57 v56) λ_ h=>k [v0,v2,v4,v5] h) (wk (ae h .eql v16 (I 4)) λv59 h=>wif v59 (ax cl (F 58) [v4] h λv61 h=>Le cl v0 v2 v4 v5 v61 h k) (wk (ae h .eql v16 (I 5)) λv69 h=>wif v69 (wk (aQ h 1 2 [.str [],.str []] [(0,1,(.str [108,105,103,104,116])),(1,1,(.str [100,97,114,107]))]) λv71 h=>ax cl (F 56) [v4,v71] h λv72 h=>J8 cl v0 v2 v4 v5 v72 h k) (wk (ae h .eql v16 (I 6)) λv87 h=>wif v87 (ax cl (F 60) [v4] h λv89 h=>wk (ah h 15 v5) λv90 h=>Jn cl v0 v2 v4 v5 v89 v90 h k) (wk (ae h .eql v16 (I 7)) λv92 h=>wif v92 (wk (ah h 16 v5) λv93 h=>KJ cl v0 v2 v4 v5 v93 h k) (wk (ae h .eql v16 (I 8)) λnh h=>zJ cl v0 v2 v4 v5 nh h k)))))))
def Ae(cl:CL)(v0 v2 gG mh v139:AV)(h:AH)(Q:QT):=wA mh (ah h 1 v139) h λpW c8 h=>wC mh (eK h pW) pW h λv141 c9 h=>wA mh (aB h v0) h λxT c10 h=>wA mh (cL h xT) h λv143 c11 h=>wA mh (ae h .eql v141 v143) h λxQ c12 h=>wP h (aG h mh xQ (.bool false)) λv145 c13 h=>wde h (kSt h 37 v2 gG) λ_ c14 h=>wP h (aB h v145) λv3 c15 h=>aU c9 c14=true/\bP (na h [.cell v2 (some 37),.val (v3)]) h Q
def HY(cl:CL)(v0 v2 v4 v5:AV)(h:AH)(Q:QT):=wdr h 16 λr h=>wR h (bj h 37 v5) v5 λgG c0 h=>wP h (aB h v4) λpo c1 h=>wP h (aq h po) λpr c2 h=>wP h (ah h 3 pr) λaui c3 h=>wR h (eK h aui) aui λxP c4 h=>wP h (aB h xP) λmh c5 h=>wsp mh λmh=>wA mh (aB h v4) h λv138 c6 h=>wA mh (aq h v138) h λv139 c7 h=>Ae cl v0 v2 gG mh v139 h Q
def Bu(cl:CL)(v0 v2 v4 v5 v12:AV)(h:AH)(Q:QT):=wk (ae h .add (I 1) v12) λv13 h=>wk (ah h 0 v5) λv14 h=>wk (kSt h 1 v14 v13) λ_ h=>wk (ah h 0 v5) λv15 h=>wk (eK h v15) λv16 h=>aI (fy cl v0 v2 v4 v5 v16 h) λvs h=>HY cl (ai vs 0) (ai vs 1) (ai vs 2) (ai vs 3) h Q
def g27(cl:CL)(v0:AV)(h:AH)(Q:QT):=wk (cU h [I 0,I 0,I 0,I 0,I 0,I 0,I 0,I 0,I 0,I 0,I 0,I 0,.bool false,.bool false,I 0,.aa,I 0,I 0,I 0,I 0,I 0,.str [],I 0,.aa,.aa,.aa,I 0,I 0,.bool false,I 0,I 0,I 0,I 0,I 0,I 0,.aa,I 0]) λv2 h=>wk (aO h [.str [],I 0,.bool false,.bool false] [(0,1,v0),(2,1,(.bool true)),(3,1,(.bool true))]) λv8 h=>wk (fh h v8) λv9 h=>wk (cU h [I 0,I 0,I 0,I 0,I 0,I 0,I 0,I 0,I 0,I 0,I 0,I 0,.bool false,.bool false,I 0,.aa,I 0,I 0,I 0,I 0,I 0,.str [],I 0,.aa,.aa,.aa,I 0,I 0,.bool false,I 0,I 0,I 0,I 0,I 0,I 0,.aa,I 0]) λv5 h=>wk (aQ h 1 8 [.str [],.str [],.str [],.str [],.str [],.str [],.str [],.str []] [(0,1,(.str [112,111,105,110,116,101,114])),(1,1,(.str [107,101,121])),(2,1,(.str [116,105,109,101])),(3,1,(.str [115,105,122,101])),(4,1,(.str [109,111,100,101])),(5,1,(.str [97,114,103,115])),(6,1,(.str [97,99,99,101,115,115])),(7,1,(.str [99,111,109,112,111,115,101]))]) λv11 h=>ax cl (F 56) [v9,v11] h λv12 h=>Bu cl v0 v2 v9 v5 v12 h Q
theorem C27{cl}(hcl:bt prog cl){v0 h Q}(hg:g27 cl v0 h Q):aJ prog 27 [v0] h Q:=bI hcl [(5,.jn [0,2,4,5])] func27 (by kernel_rfl) (by kernel_rfl) hg
def CB(cl:CL)(v1 v4 v5:AV)(h:AH)(k:NT):=wif v5 (k [v1,v4,v5] h) (wk (ae h .eql v4 (I 2)) λv7 h=>k [v1,v4,v7] h)
def A5(cl:CL)(v16:AV)(h:AH)(k:NT):=k [v16] h
def Cs(cl:CL)(v1:AV)(h:AH)(k:NT):=wk (ah h 2 v1) λv8 h=>wk (eK h v8) λv9 h=>wk (ae h .eql v9 (.str [])) λv10 h=>wsp v10 λv11=>gA v11 (ah h 3 v1) h λv12 h=>gA v11 (eK h v12) h λv13 h=>gA v11 (bh h v13) h λv14 h=>gA v11 (ae h .eql v14 (I 0)) h λv15 h=>wk (aG h v11 v15 (.bool false)) λv16 h=>A5 cl v16 h k
def LZ(cl:CL)(v2:AV)(h:AH)(Q:QT):=Q v2 h
def BC(cl:CL)(v27:AV)(h:AH)(k:NT):=k [v27] h
def AO(cl:CL)(v1:AV)(h:AH)(k:NT):=wk (ah h 1 v1) λv19 h=>wk (eK h v19) λv20 h=>wk (ae h .eql v20 (I 0)) λv21 h=>wsp v21 λv22=>gA v22 (ah h 3 v1) h λv23 h=>gA v22 (eK h v23) h λv24 h=>gA v22 (bh h v24) h λv25 h=>gA v22 (ae h .eql v25 (I 0)) h λv26 h=>wk (aG h v22 v26 (.bool false)) λv27 h=>BC cl v27 h k
def Ky(cl:CL)(v2:AV)(h:AH)(Q:QT):=Q v2 h
def Bk(cl:CL)(v1:AV)(h:AH)(k:NT):=wk (ah h 1 v1) λv30 h=>wk (eK h v30) λv31 h=>wk (ae h .eql v31 (I 0)) λv32 h=>wsp v32 λv33=>gA v33 (ah h 2 v1) h λv34 h=>gA v33 (eK h v34) h λv35 h=>gA v33 (ae h .eql v35 (.str [])) h λv36 h=>wk (aG h v33 v36 (.bool false)) λv37 h=>k [v37] h
def KO(cl:CL)(v2:AV)(h:AH)(Q:QT):=Q v2 h
def rK(cl:CL)(v1 v4 v5:AV)(h:AH)(Q:QT):=wif v5 (aI (Cs cl v1 h) λvs h=>LZ cl (ai vs 0) h Q) (wk (ae h .eql v4 (I 3)) λv18 h=>wif v18 (aI (AO cl v1 h) λvs h=>Ky cl (ai vs 0) h Q) (wk (ae h .eql v4 (I 4)) λv29 h=>wif v29 (aI (Bk cl v1 h) λvs h=>KO cl (ai vs 0) h Q) (Q ((.bool false)) h)))
def aeH(cl:CL)(v0:AV)(h:AH)(Q:QT):=wk (fh h v0) λv1 h=>wk (ah h 0 v1) λv3 h=>wk (eK h v3) λv4 h=>wk (ae h .eql v4 (I 1)) λv6 h=>aI (CB cl v1 v4 v6 h) λvs h=>rK cl (ai vs 0) (ai vs 1) (ai vs 2) h Q
theorem air{cl}(hcl:bt prog cl){v0 h Q}(hg:aeH cl v0 h Q):aJ prog 167 [v0] h Q:=bI hcl [(4,.jn [1,4,5]),(7,.jn [2]),(10,.jn [2]),(13,.jn [2])] func167 (by kernel_rfl) (by kernel_rfl) hg
def Zq(cl:CL)(v0:AV)(h:AH)(Q:QT):=wk (ae h .geq v0 (I (-1099511627776))) λv4 h=>wsp v4 λv5=>wg (gdv true v5) (λk=>k v0 h) h λv6 h=>gA v5 (ae h .leq v6 (I 1099511627776)) h λv7 h=>wk (aG h v5 v7 (.bool false)) λv8 h=>Q v8 h
theorem ahI{cl}(hcl:bt prog cl){v0 h Q}(hg:Zq cl v0 h Q):aJ prog 168 [v0] h Q:=bI hcl [] func168 (by kernel_rfl) (by kernel_rfl) hg
def B9(cl:CL)(v4:AV)(h:AH)(Q:QT):=wk (aO h [I 0,.aa] []) λv41 h=>wk (kSt h 2 v4 v41) λ_ h=>bP (na h [.cell v4 (some 2),.val ((.bool false))]) h Q
def Lj(cl:CL)(v4 v6:AV)(h:AH)(Q:QT):=wk (bj h 2 v6) λv42 h=>ax cl (F 171) [v42] h λv43 h=>wk (kSt h 2 v4 v43) λ_ h=>bP (na h [.cell v4 (some 2),.val ((.bool true))]) h Q
def Mg(cl:CL)(r:Nat)(c1 c3 c5 c7:Rec)(v4 v31 v35:AV)(h:AH)(Q:QT):=wdc cl (F 190) [v31,v35] h λv36 c8 h=>wP h (aB h v36) λv27 c9 h=>wP h (cm h v27 0) λv37 c10 h=>wP h (cm h v27 1) λv38 c11 h=>wda (r+12) h (K0 [I 0,.aa]) λv6 c12 h=>wde h (kSt h 2 v6 v37) λ_ c13 h=>wP h (aB h v38) λv7 c14 h=>aU c1 c12=true/\aU c3 c12=true/\aU c5 c12=true/\aU c7 c12=true/\wk (kUn h .not v7) λv40 h=>wif v40 (B9 cl v4 h Q) (Lj cl v4 v6 h Q)
def zS(cl:CL)(v2 v3 v4 v25:AV)(h:AH)(Q:QT):=wif v25 (wk (bj h 2 v2) λv26 h=>wk (kSt h 2 v4 v26) λ_ h=>bP (na h [.cell v4 (some 2),.val ((.bool true))]) h Q) (wdr h 15 λr h=>wP h (ah h 1 v2) λv28 c0 h=>wR h (eK h v28) v28 λv29 c1 h=>wP h (aF h 2 v29 (I 0)) λv30 c2 h=>wR h (bj h 2 v30) v30 λv31 c3 h=>wP h (ah h 1 v3) λv32 c4 h=>wR h (eK h v32) v32 λv33 c5 h=>wP h (aF h 2 v33 (I 0)) λv34 c6 h=>wR h (bj h 2 v34) v34 λv35 c7 h=>Mg cl r c1 c3 c5 c7 v4 v31 v35 h Q)
def qV(cl:CL)(v2 v3 v4 v13:AV)(h:AH)(Q:QT):=wif v13 (wk (aO h [I 0,.aa] []) λv14 h=>wk (kSt h 2 v4 v14) λ_ h=>bP (na h [.cell v4 (some 2),.val ((.bool false))]) h Q) (wk (ah h 1 v2) λv16 h=>wk (eK h v16) λv17 h=>wk (bh h v17) λv18 h=>wk (ae h .eql v18 (I 0)) λv19 h=>wif v19 (wk (bj h 2 v3) λv20 h=>wk (kSt h 2 v4 v20) λ_ h=>bP (na h [.cell v4 (some 2),.val ((.bool true))]) h Q) (wk (ah h 1 v3) λv22 h=>wk (eK h v22) λv23 h=>wk (bh h v23) λv24 h=>wk (ae h .eql v24 (I 0)) λv25 h=>zS cl v2 v3 v4 v25 h Q))
def Y_(cl:CL)(v0 v1:AV)(h:AH)(Q:QT):=wk (fh h v0) λv2 h=>wk (fh h v1) λv3 h=>wk (cU h [I 0,.aa]) λv4 h=>wk (ah h 0 v2) λv9 h=>wk (eK h v9) λv10 h=>wk (ah h 0 v3) λv11 h=>wk (eK h v11) λv12 h=>wk (ae h .neq v10 v12) λv13 h=>qV cl v2 v3 v4 v13 h Q
theorem ahP{cl}(hcl:bt prog cl){v0 v1 h Q}(hg:Y_ cl v0 v1 h Q):aJ prog 190 [v0,v1] h Q:=bI hcl [] func190 (by kernel_rfl) (by kernel_rfl) hg
def aeb(cl:CL)(v0:AV)(h:AH)(Q:QT):=wk (fh h v0) λv1 h=>wk (cU h [I 0,.aa]) λv2 h=>wk (bj h 2 v1) λv3 h=>wk (aQ h 2 1 [I 0,.aa] [(0,2,v3)]) λv4 h=>wk (aO h [I 0,.aa] [(0,1,(I 4)),(1,1,v4)]) λv5 h=>wk (kSt h 2 v2 v5) λ_ h=>bP (na h [.cell v2 (some 2)]) h Q
theorem ah8{cl}(hcl:bt prog cl){v0 h Q}(hg:aeb cl v0 h Q):aJ prog 171 [v0] h Q:=bI hcl [] func171 (by kernel_rfl) (by kernel_rfl) hg
def Cd(cl:CL)(v2 v4 v16 v17 v18 v25:AV)(h:AH)(k:KT):=wk (cm h v25 0) λv26 h=>wk (cm h v25 1) λv27 h=>wk (kSt h 2 v4 v26) λ_ h=>wk (kUn h .not v27) λv29 h=>wif v29 (wk (aO h [I 0,.aa] []) λv30 h=>wk (kSt h 2 v2 v30) λ_ h=>k .ret [v2,v4,v16,v17,v18] [v2,.bool false,v4] h) (wk (ae h .add v18 (I 1)) λv31 h=>k .nrm [v2,v4,v16,v17,v31] [v2,.undef,v4] h)
def zZ(cl:CL)(v2 v4 v16 v17 v18:AV)(h:AH)(k:KT):=wk (ae h .lss v18 v17) λv19 h=>wif v19 (wk (aF h 2 v16 v18) λv20 h=>wk (bj h 2 v20) λv21 h=>wk (cU h [I 0,.aa]) λv6 h=>wk (kSt h 2 v6 v21) λ_ h=>wk (bj h 2 v4) λv23 h=>wk (bj h 2 v6) λv24 h=>ax cl (F 190) [v23,v24] h λv25 h=>Cd cl v2 v4 v16 v17 v18 v25 h k) (k (.exit 0) [v2,v4,v16,v17,v18] [v2,.undef,v4] h)
def BO(cl:CL)(v2 v4:AV)(h:AH)(Q:QT):=wk (bj h 2 v4) λv32 h=>ax cl (F 171) [v32] h λv33 h=>wk (kSt h 2 v2 v33) λ_ h=>bP (na h [.cell v2 (some 2),.val ((.bool true))]) h Q
def Cb(cl:CL)(x:AX)(v2 v3 v4:AV)(h:AH)(Q:QT):=xs x (BO cl v2 v4 h Q) (λj=>cond (Nat.beq j 0) (BO cl v2 v4 h Q) (False)) (bP (na h [.cell v2 (some 2),.val (v3)]) h Q)
def Kh(cl:CL)(v2 v4 v16:AV)(h:AH)(Q:QT):=wk (bh h v16) λv17 h=>b9 (λvs h k=>zZ cl (ai vs 0) (ai vs 1) (ai vs 2) (ai vs 3) (ai vs 4) h k) [v2,v4,v16,v17,I 0] h λx vs h=>Cb cl x (ai vs 0) (ai vs 1) (ai vs 2) h Q
def aba(cl:CL)(v0:AV)(h:AH)(Q:QT):=wk (cU h [I 0,.aa]) λv2 h=>wk (bh h v0) λv9 h=>wk (ae h .eql v9 (I 0)) λv10 h=>wif v10 (wk (aO h [I 0,.aa] [(0,1,(I 4))]) λv11 h=>wk (kSt h 2 v2 v11) λ_ h=>bP (na h [.cell v2 (some 2),.val ((.bool true))]) h Q) (wk (aF h 2 v0 (I 0)) λv13 h=>wk (bj h 2 v13) λv14 h=>wk (cU h [I 0,.aa]) λv4 h=>wk (kSt h 2 v4 v14) λ_ h=>wk (kSl h 2 v0 (some (I 1)) none none) λv16 h=>Kh cl v2 v4 v16 h Q)
theorem ahB{cl}(hcl:bt prog cl){v0 h Q}(hg:aba cl v0 h Q):aJ prog 170 [v0] h Q:=bI hcl [(7,.l [2,4,16,17,18] [2,3,4])] func170 (by kernel_rfl) (by kernel_rfl) hg
def Ct(cl:CL)(v1 v2 v3 v6:AV)(h:AH)(k:NT):=wk (ah h 0 v3) λv15 h=>wk (eK h v15) λv16 h=>wk (ae h .eql v16 (I 4)) λv17 h=>wsp v17 λv18=>wg (gdv true v18) (λk=>k v1 h) h λv19 h=>gA v18 (ae h .geq v19 (I 16)) h λv20 h=>wk (aG h v18 v20 (.bool false)) λv21 h=>k [v1,v2,v3,v6,v21] h
def Aw(cl:CL)(v1 v2 v3 v6 v42:AV)(h:AH)(k:NT):=k [v1,v2,v3,v6,v42] h
def Ab(cl:CL)(v1 v2 v3 v6:AV)(h:AH)(k:NT):=wk (ah h 0 v3) λv34 h=>wk (eK h v34) λv35 h=>wk (ae h .eql v35 (I 1)) λv36 h=>wsp v36 λv37=>gA v37 (ah h 1 v3) h λv38 h=>gA v37 (eK h v38) h λv39 h=>wg (gdv true v37) (λk=>ax cl (F 168) [v39] h k) h λv40 h=>gA v37 (kUn h .not v40) h λv41 h=>wk (aG h v37 v41 (.bool false)) λv42 h=>Aw cl v1 v2 v3 v6 v42 h k
def uQ(cl:CL)(v1 v2 v3 v6 v51 v52:AV)(h:AH)(k:NT):=gA v51 (eK h v52) h λv53 h=>gA v51 (ae h .neq v53 (I 1)) h λv54 h=>wk (aG h v51 v54 (.bool false)) λv55 h=>k [v1,v2,v3,v6,v55] h
def Aa(cl:CL)(v1 v2 v3 v6 v33:AV)(h:AH)(k:NT):=wif v33 (k [v1,v2,v3,v6,v33] h) (wk (ah h 0 v3) λv43 h=>wk (eK h v43) λv44 h=>wk (ae h .eql v44 (I 2)) λv45 h=>wsp v45 λv46=>gA v46 (ah h 1 v3) h λv47 h=>gA v46 (eK h v47) h λv48 h=>gA v46 (ae h .neq v48 (I 0)) h λv49 h=>wk (aG h v46 v49 (.bool false)) λv50 h=>wsp v50 λv51=>gA v51 (ah h 1 v3) h λv52 h=>uQ cl v1 v2 v3 v6 v51 v52 h k)
def uy(cl:CL)(v1 v2 v3 v6 v62 v66:AV)(h:AH)(k:NT):=wk (aG h v62 (.bool true) v66) λv67 h=>wsp v67 λv68=>wg (gdv false v68) (λk=>k v2 h) h λv69 h=>gB v68 (aq h v69) h λv70 h=>gB v68 (eK h v70) h λv71 h=>gB v68 (ae h .gtr v71 (I 1000)) h λv72 h=>wk (aG h v68 (.bool true) v72) λv73 h=>k [v1,v2,v3,v6,v73] h
def uw(cl:CL)(v1 v2 v3 v6:AV)(h:AH)(k:NT):=wk (ah h 2 v3) λv58 h=>wk (eK h v58) λv59 h=>wk (cL h v59) λv60 h=>wk (ae h .gtr v60 (I 2000)) λv61 h=>wsp v61 λv62=>gB v62 (ah h 3 v3) h λv63 h=>gB v62 (eK h v63) h λv64 h=>gB v62 (bh h v64) h λv65 h=>gB v62 (ae h .gtr v65 (I 100)) h λv66 h=>uy cl v1 v2 v3 v6 v62 v66 h k
def LP(cl:CL)(v6 v85:AV)(h:AH)(Q:QT):=wk (eK h v85) λv86 h=>wk (aO h [I 0,.aa] [(0,1,v86)]) λv87 h=>wk (kSt h 2 v6 v87) λ_ h=>bP (na h [.cell v6 (some 2),.val ((I 0))]) h Q
def J1(cl:CL)(v1 v2 v6 v89 v90 v91 kq:AV)(h:AH)(k:KT):=wk (ae h .add v91 (I 1)) λgp h=>k .nrm [v1,v2,v6,kq,v89,v90,gp] [v6,.undef,kq] h
def Ba(cl:CL)(v1 v2 v6 v8 v89 v90 v91 gF:AV)(h:AH)(k:KT):=wk (cm h gF 0) λlu h=>wk (cm h gF 1) λiW h=>wk (cU h [I 0,.aa]) λv11 h=>wk (kSt h 2 v11 lu) λ_ h=>wk (ae h .neq iW (I 0)) λpV h=>wif pV (wk (aO h [I 0,.aa] []) λv105 h=>wk (kSt h 2 v6 v105) λ_ h=>k .ret [v1,v2,v6,v8,v89,v90,v91] [v6,iW,v8] h) (wk (bj h 2 v11) λiL h=>wk (aQ h 2 1 [I 0,.aa] [(0,2,iL)]) λv109 h=>wk (dK h 2 32 v8 v109) λkq h=>J1 cl v1 v2 v6 v89 v90 v91 kq h k)
def Cu(cl:CL)(v1 v2 v6 v8 v89 v90 v91:AV)(h:AH)(k:KT):=wk (ae h .lss v91 v90) λv92 h=>wif v92 (wk (aF h 4 v89 v91) λv93 h=>wk (bj h 4 v93) λv94 h=>wk (cU h [I 0,I 0,.str [],.aa]) λv10 h=>wk (kSt h 4 v10 v94) λ_ h=>wk (bj h 4 v10) λv96 h=>wk (ae h .add v1 (I 1)) λv98 h=>ax cl (F 149) [v96,v98,v2] h λgF h=>Ba cl v1 v2 v6 v8 v89 v90 v91 gF h k) (k (.exit 1) [v1,v2,v6,v8,v89,v90,v91] [v6,.undef,v8] h)
def Af(cl:CL)(v6 iV:AV)(h:AH)(Q:QT):=wk (cm h iV 0) λpX h=>wk (cm h iV 1) λjC h=>wk (cU h [I 0,.aa]) λv13 h=>wk (kSt h 2 v13 pX) λ_ h=>wk (kUn h .not jC) λkG h=>wif kG (wk (aO h [I 0,.aa] []) λkJ h=>wk (kSt h 2 v6 kJ) λ_ h=>bP (na h [.cell v6 (some 2),.val ((I 5))]) h Q) (wk (bj h 2 v13) λfB h=>wk (kSt h 2 v6 fB) λ_ h=>bP (na h [.cell v6 (some 2),.val ((I 0))]) h Q)
def zN(cl:CL)(v6 v8:AV)(h:AH)(Q:QT):=ax cl (F 170) [v8] h λiV h=>Af cl v6 iV h Q
def zP(cl:CL)(x:AX)(v6 v7 v8:AV)(h:AH)(Q:QT):=xs x (zN cl v6 v8 h Q) (λj=>cond (Nat.beq j 1) (zN cl v6 v8 h Q) (False)) (bP (na h [.cell v6 (some 2),.val (v7)]) h Q)
def Bz(cl:CL)(v1 v2 v6 v8 v88:AV)(h:AH)(Q:QT):=wk (eK h v88) λv89 h=>wk (bh h v89) λv90 h=>b9 (λvs h k=>Cu cl (ai vs 0) (ai vs 1) (ai vs 2) (ai vs 3) (ai vs 4) (ai vs 5) (ai vs 6) h k) [v1,v2,v6,v8,v89,v90,I 0] h λx vs h=>zP cl x (ai vs 0) (ai vs 1) (ai vs 2) h Q
def AK(cl:CL)(v1 v2 v3 v6 v57:AV)(h:AH)(Q:QT):=wif v57 (wk (aO h [I 0,.aa] []) λv74 h=>wk (kSt h 2 v6 v74) λ_ h=>bP (na h [.cell v6 (some 2),.val ((I 2))]) h Q) (wk (ah h 2 v3) λv76 h=>wk (eK h v76) λv77 h=>ax cl (F 169) [v77] h λv78 h=>wk (kUn h .not v78) λv79 h=>wif v79 (wk (aO h [I 0,.aa] []) λv80 h=>wk (kSt h 2 v6 v80) λ_ h=>bP (na h [.cell v6 (some 2),.val ((I 3))]) h Q) (wk (ah h 0 v3) λv82 h=>wk (eK h v82) λv83 h=>wk (ae h .neq v83 (I 4)) λv84 h=>wif v84 (wk (ah h 0 v3) λv85 h=>LP cl v6 v85 h Q) (wk (ah h 3 v3) λv88 h=>Bz cl v1 v2 v6 ((.aa)) v88 h Q)))
def B7(cl:CL)(v1 v2 v3 v6 v33:AV)(h:AH)(Q:QT):=wif v33 (wk (aO h [I 0,.aa] []) λv56 h=>wk (kSt h 2 v6 v56) λ_ h=>bP (na h [.cell v6 (some 2),.val ((I 1))]) h Q) (aI (uw cl v1 v2 v3 v6 h) λvs h=>AK cl (ai vs 0) (ai vs 1) (ai vs 2) (ai vs 3) (ai vs 4) h Q)
def D7(cl:CL)(v1 v2 v3 v6 v33:AV)(h:AH)(Q:QT):=aI (Aa cl v1 v2 v3 v6 v33 h) λvs h=>B7 cl (ai vs 0) (ai vs 1) (ai vs 2) (ai vs 3) (ai vs 4) h Q
def Ca(cl:CL)(v1 v2 v3 v6 v31:AV)(h:AH)(Q:QT):=wif v31 (wk (aO h [I 0,.aa] []) λv32 h=>wk (kSt h 2 v6 v32) λ_ h=>bP (na h [.cell v6 (some 2),.val ((I 9))]) h Q) (aI (Ab cl v1 v2 v3 v6 h) λvs h=>D7 cl (ai vs 0) (ai vs 1) (ai vs 2) (ai vs 3) (ai vs 4) h Q)
def u6(cl:CL)(v1 v2 v3 v6 v21:AV)(h:AH)(Q:QT):=wif v21 (wk (aO h [I 0,.aa] []) λv22 h=>wk (kSt h 2 v6 v22) λ_ h=>bP (na h [.cell v6 (some 2),.val ((I 8))]) h Q) (wk (aq h v2) λv24 h=>wk (eK h v24) λv25 h=>wk (ae h .add v25 (I 1)) λv26 h=>wk (aq h v2) λv27 h=>wk (kSt h 1 v27 v26) λ_ h=>wk (bj h 4 v3) λv29 h=>ax cl (F 167) [v29] h λv30 h=>wk (kUn h .not v30) λv31 h=>Ca cl v1 v2 v3 v6 v31 h Q)
def aeT(cl:CL)(v0 v1 v2:AV)(h:AH)(Q:QT):=wk (fh h v0) λv3 h=>wk (cU h [I 0,.aa]) λv6 h=>aI (Ct cl v1 v2 v3 v6 h) λvs h=>u6 cl (ai vs 0) (ai vs 1) (ai vs 2) (ai vs 3) (ai vs 4) h Q
theorem ahQ{cl}(hcl:bt prog cl){v0 v1 v2 h Q}(hg:aeT cl v0 v1 v2 h Q):aJ prog 149 [v0,v1,v2] h Q:=bI hcl [(1,.jn [1,2,3,6,21]),(9,.jn [1,2,3,6,33]),(10,.jn [1,2,3,6,33]),(14,.jn [1,2,3,6,57]),(26,.l [1,2,6,8,89,90,91] [6,7,8])] func149 (by kernel_rfl) (by kernel_rfl) hg
def KV(cl:CL)(v2:AV)(h:AH)(Q:QT):=bP (na h [.cell v2 (some 2),.val ((I 0))]) h Q
def Aq(cl:CL)(v2 v9:AV)(h:AH)(Q:QT):=wk (cm h v9 0) λv10 h=>wk (cm h v9 1) λv11 h=>wk (cU h [I 0,.aa]) λv5 h=>wk (kSt h 2 v5 v10) λ_ h=>wk (ae h .neq v11 (I 0)) λv13 h=>wif v13 (wk (aO h [I 0,.aa] []) λv14 h=>wk (kSt h 2 v2 v14) λ_ h=>bP (na h [.cell v2 (some 2),.val (v11)]) h Q) (wk (bj h 2 v5) λv16 h=>ax cl (F 150) [v16] h λv17 h=>wk (kSt h 2 v2 v17) λ_ h=>KV cl v2 h Q)
def aes(cl:CL)(v0:AV)(h:AH)(Q:QT):=wk (fh h v0) λv1 h=>wk (cU h [I 0,.aa]) λv2 h=>wk (cU h [I 0]) λv4 h=>wk (kSt h 1 v4 (I 0)) λ_ h=>wk (bj h 4 v1) λv8 h=>ax cl (F 149) [v8,I 0,v4] h λv9 h=>Aq cl v2 v9 h Q
theorem ahO{cl}(hcl:bt prog cl){v0 h Q}(hg:aes cl v0 h Q):aJ prog 128 [v0] h Q:=bI hcl [] func128 (by kernel_rfl) (by kernel_rfl) hg
def R5(cl:CL)(v7:AV)(h:AH)(Q:QT):=wk (cm h v7 0) λv8 h=>wk (cm h v7 1) λv9 h=>wk (cU h [I 0,.aa]) λv3 h=>wk (kSt h 2 v3 v8) λ_ h=>Q v9 h
def g97(cl:CL)(v0:AV)(h:AH)(Q:QT):=wk (fh h v0) λv1 h=>wk (bj h 4 v1) λv6 h=>ax cl (F 128) [v6] h λv7 h=>R5 cl v7 h Q
theorem C97{cl}(hcl:bt prog cl){v0 h Q}(hg:g97 cl v0 h Q):aJ prog 97 [v0] h Q:=bI hcl [] func97 (by kernel_rfl) (by kernel_rfl) hg
def Md(cl:CL)(v2 v8:AV)(h:AH)(Q:QT):=wk (aO h [I 0,.aa] [(0,1,v8)]) λv9 h=>wk (kSt h 2 v2 v9) λ_ h=>bP (na h [.cell v2 (some 2)]) h Q
def Lz(cl:CL)(v2 v11:AV)(h:AH)(Q:QT):=wk (aF h 2 v11 (I 0)) λv12 h=>wk (bj h 2 v12) λv13 h=>ax cl (F 150) [v13] h λv14 h=>ax cl (F 171) [v14] h λv15 h=>wk (kSt h 2 v2 v15) λ_ h=>bP (na h [.cell v2 (some 2)]) h Q
def ZV(cl:CL)(v0:AV)(h:AH)(Q:QT):=wk (fh h v0) λv1 h=>wk (cU h [I 0,.aa]) λv2 h=>wk (ah h 1 v1) λv3 h=>wk (eK h v3) λv4 h=>wk (bh h v4) λv5 h=>wk (ae h .eql v5 (I 0)) λv6 h=>wif v6 (wk (ah h 0 v1) λv7 h=>wk (eK h v7) λv8 h=>Md cl v2 v8 h Q) (wk (ah h 1 v1) λv10 h=>wk (eK h v10) λv11 h=>Lz cl v2 v11 h Q)
theorem adF{cl}(hcl:bt prog cl){v0 h Q}(hg:ZV cl v0 h Q):aJ prog 150 [v0] h Q:=bI hcl [] func150 (by kernel_rfl) (by kernel_rfl) hg
def O3(cl:CL)(v9:AV)(h:AH)(Q:QT):=wk (cm h v9 0) λv10 h=>wk (cm h v9 1) λv11 h=>wk (cm h v9 2) λv12 h=>Q (.tup [v10,v11,v12]) h
def g26(cl:CL)(v0 v1:AV)(h:AH)(Q:QT):=ax cl (F 55) [v0,v1] h λv9 h=>O3 cl v9 h Q
theorem C26{cl}(hcl:bt prog cl){v0 v1 h Q}(hg:g26 cl v0 v1 h Q):aJ prog 26 [v0,v1] h Q:=bI hcl [] func26 (by kernel_rfl) (by kernel_rfl) hg
def Q6(cl:CL)(v4 v5 v6 v15 v16 v17 v18:AV)(h:AH)(Q:QT):=wP h (cL h v18) λv19 c6 h=>wP h (ae h .add v17 v19) λv20 c7 h=>wP h (gI h v16 (some v20) none) λv21 c8 h=>wP h (aB h v15) λv4 c9 h=>wP h (aB h v21) λv5 c10 h=>wP h (aB h (.bool true)) λv6 c11 h=>Q (.tup [v4,v5,v6]) h
def g55(cl:CL)(v0 v1:AV)(h:AH)(Q:QT):=ax cl (F 89) [v0,v1] h λv10 h=>wk (ae h .geq v10 (I 0)) λv12 h=>wif v12 (wdr h 12 λr h=>wP h (aB h v0) λv13 c0 h=>wP h (aB h v10) λv14 c1 h=>wP h (gI h v13 none (some v14)) λv15 c2 h=>wP h (aB h v0) λv16 c3 h=>wP h (aB h v10) λv17 c4 h=>wP h (aB h v1) λv18 c5 h=>Q6 cl ((.str [])) ((.str [])) ((.bool false)) v15 v16 v17 v18 h Q) (Q (.tup [v0,.str [],.bool false]) h)
theorem C55{cl}(hcl:bt prog cl){v0 v1 h Q}(hg:g55 cl v0 v1 h Q):aJ prog 55 [v0,v1] h Q:=bI hcl [] func55 (by kernel_rfl) (by kernel_rfl) hg
def BW(cl:CL)(v5 v7 v8 v9 v10:AV)(h:AH)(k:NT):=wk (kUn h .not v10) λv30 h=>wsp v30 λv31=>wg (gdv false v31) (λk=>k v8 h) h λv32 h=>gB v31 (kUn h .not v32) h λv33 h=>wk (aG h v31 (.bool true) v33) λv34 h=>k [v5,v7,v9,v34] h
def Gk(cl:CL)(v5 v7 v9 v34:AV)(h:AH)(k:KT):=wif v34 (wk (bh h v5) λv36 h=>k .ret [.undef,v5] [(.aa),v36,I 3,v5] h) (wk (bj h 37 v9) λv38 h=>wk (aQ h 37 1 [I 0,I 0,I 0,I 0,I 0,I 0,I 0,I 0,I 0,I 0,I 0,I 0,.bool false,.bool false,I 0,.aa,I 0,I 0,I 0,I 0,I 0,.str [],I 0,.aa,.aa,.aa,I 0,I 0,.bool false,I 0,I 0,I 0,I 0,I 0,I 0,.aa,I 0] [(0,37,v38)]) λv39 h=>wk (dK h 37 376 v5 v39) λv40 h=>k .nrm [v7,v40] [.undef,.undef,.undef,v40] h)
def N_(cl:CL)(v5 v7 v8 v26:AV)(h:AH)(k:KT):=wk (cm h v26 0) λv27 h=>wk (cm h v26 1) λv28 h=>wk (cU h [I 0,I 0,I 0,I 0,I 0,I 0,I 0,I 0,I 0,I 0,I 0,I 0,.bool false,.bool false,I 0,.aa,I 0,I 0,I 0,I 0,I 0,.str [],I 0,.aa,.aa,.aa,I 0,I 0,.bool false,I 0,I 0,I 0,I 0,I 0,I 0,.aa,I 0]) λv9 h=>wk (kSt h 37 v9 v27) λ_ h=>aI (BW cl v5 v7 v8 v9 v28 h) λvs h=>Gk cl (ai vs 0) (ai vs 1) (ai vs 2) (ai vs 3) h k
def Ii(cl:CL)(v0 v5 v15:AV)(h:AH)(k:KT):=wk (cm h v15 0) λv16 h=>wk (cm h v15 1) λv17 h=>wk (cm h v15 2) λv18 h=>wk (bh h v5) λv20 h=>wk (ae h .geq v20 (I 200)) λv21 h=>wif v21 (wk (bh h v5) λv23 h=>k .ret [v0,v5] [(.aa),v23,I 2,v5] h) (ax cl (F 27) [v16] h λv26 h=>N_ cl v5 v17 v18 v26 h k)
def Iq(cl:CL)(v0 v5:AV)(h:AH)(k:KT):=wk (ae h .neq v0 (.str [])) λv12 h=>wif v12 (ax cl (F 26) [v0,.str [10]] h λv15 h=>Ii cl v0 v5 v15 h k) (k (.exit 0) [v0,v5] [.undef,.undef,.undef,v5] h)
def Ft(cl:CL)(v5:AV)(h:AH)(Q:QT):=wk (bh h v5) λv44 h=>Q (.tup [v5,v44,I 0]) h
def Cl(cl:CL)(x:AX)(v2 v3 v4 v5:AV)(h:AH)(Q:QT):=xs x (Ft cl v5 h Q) (λj=>cond (Nat.beq j 0) (Ft cl v5 h Q) (False)) (Q (.tup [v2,v3,v4]) h)
def g12(cl:CL)(v0:AV)(h:AH)(Q:QT):=b9 (λvs h k=>Iq cl (ai vs 0) (ai vs 1) h k) [v0,(.aa)] h λx vs h=>Cl cl x (ai vs 0) (ai vs 1) (ai vs 2) (ai vs 3) h Q
theorem C12{cl}(hcl:bt prog cl){v0 h Q}(hg:g12 cl v0 h Q):aJ prog 12 [v0] h Q:=bI hcl [(3,.l [0,5] [2,3,4,5]),(12,.jn [5,7,9,34])] func12 (by kernel_rfl) (by kernel_rfl) hg
def OK(cl:CL)(v1 v34:AV)(h:AH)(Q:QT):=wsp v34 λv35=>wg (gdv true v35) (λk=>k v1 h) h λv36 h=>gA v35 (aF h 37 v36 (I 0)) h λv37 h=>gA v35 (ah h 9 v37) h λv38 h=>gA v35 (eK h v38) h λv39 h=>gA v35 (ae h .eql v39 (I 5)) h λv40 h=>wk (aG h v35 v40 (.bool false)) λv41 h=>Q v41 h
def Tv(cl:CL)(v1 v20 v25:AV)(h:AH)(Q:QT):=wk (aG h v20 v25 (.bool false)) λv26 h=>wsp v26 λv27=>wg (gdv true v27) (λk=>k v1 h) h λv28 h=>gA v27 (aF h 37 v28 (I 0)) h λv29 h=>gA v27 (ah h 7 v29) h λv30 h=>gA v27 (bj h 2 v30) h λv31 h=>gA v27 (aO h [I 0,I 0] [(0,1,(I 115)),(1,1,(I 1))]) h λv32 h=>gA v27 (pb h false [.int .i64,.int .i64] v31 v32) h λv33 h=>wk (aG h v27 v33 (.bool false)) λv34 h=>OK cl v1 v34 h Q
def Tp(cl:CL)(v1 v15 v16:AV)(h:AH)(Q:QT):=gA v15 (bh h v16) h λv17 h=>gA v15 (ae h .eql v17 (I 1)) h λv18 h=>wk (aG h v15 v18 (.bool false)) λv19 h=>wsp v19 λv20=>wg (gdv true v20) (λk=>k v1 h) h λv21 h=>gA v20 (aF h 37 v21 (I 0)) h λv22 h=>gA v20 (ah h 0 v22) h λv23 h=>gA v20 (eK h v23) h λv24 h=>gA v20 (ae h .eql v24 (I 2)) h λv25 h=>Tv cl v1 v20 v25 h Q
def TN(cl:CL)(v5:AV)(h:AH)(Q:QT):=wk (cm h v5 0) λv6 h=>wk (cm h v5 1) λv7 h=>wk (cm h v5 2) λv8 h=>wk (ae h .eql v8 (I 0)) λv10 h=>wsp v10 λv11=>wg (gdv true v11) (λk=>k v7 h) h λv12 h=>gA v11 (ae h .eql v12 (I 1)) h λv13 h=>wk (aG h v11 v13 (.bool false)) λv14 h=>wsp v14 λv15=>wg (gdv true v15) (λk=>k v6 h) h λv16 h=>Tp cl v6 v15 v16 h Q
def g15(cl:CL)(h:AH)(Q:QT):=ax cl (F 12) [.str [107,101,121,32,99,116,114,108,43,115,32,53,10]] h λv5 h=>TN cl v5 h Q
theorem C15{cl}(hcl:bt prog cl){h Q}(hg:g15 cl h Q):aJ prog 15 [] h Q:=bI hcl [] func15 (by kernel_rfl) (by kernel_rfl) hg
