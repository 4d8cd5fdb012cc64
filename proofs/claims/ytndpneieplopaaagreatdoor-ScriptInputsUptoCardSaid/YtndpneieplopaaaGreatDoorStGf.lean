/- The program's lines, as cells, and that they are the reference's. -/
import Derived.Test.YtndpneieplopaaaGreatDoorStQc
set_option linter.unusedSimpArgs false
set_option linter.unusedVariables false
noncomputable section
namespace Go.Proofs.YtndpneieplopaaaGreatDoor
open Go.Eng Go.St
def fx:List Str:=[Xp,Xh,YN,kj,T0,Qx]
def gm:List Str:=[kl,iy]
def iW:List Str:=[jB,gU]
def cg:List Str:=[lN,mB,mz,kj]
def bC:List Str:=[ja,gX,gI,jj,jh,cK,jc,iI]
variable {α γ:Type}{s:Str}{fT fT2:PS->PS}{gT gT2:RS->RS}
theorem fH.seq{m o:Bool}{i:PS->α}{j:RS->α}{d:PS->γ}{e:RS->γ}(a:fH s m i fT j gT)(b:fH s o d fT2 e gT2):
  fH s false (λt=>(i t,d (fT t))) (λt=>fT2 (fT t)) (λu=>(j u,e (gT u))) (λu=>gT2 (gT u)):=by
 refine⟨λt u h=>?_,λt u h=>b.off _ _ (a.off _ _ h)⟩;rcases a.go t u h with⟨h1,h2⟩|h1
 ·rcases b.go _ _ h1 with⟨g,q⟩|g
  ·exact .inl ⟨g,by rw[h2,q]⟩
  exact .inr g.ri
 exact .inr (b.off _ _ h1.ri)
variable {c:Bool}
theorem fH.map{d:PS->α}{e:RS->α}(F:α->γ)(a:fH s c d fT e gT):fH s c (λt=>F (d t)) fT (λu=>F (e u)) gT:=
 ⟨λt u h=>(a.go t u h).imp (λx=>⟨x.1,by rw[x.2]⟩) id,a.off⟩
variable {fT':PS->PS}{gT':RS->RS}
theorem fH.same{g d:PS->α}{i e:RS->α}(a:fH s c g fT i gT)(h1:∀t,d t=g t)(h2:∀t,fT' t=fT t)(m:∀u,e u=i u)(j:∀u,gT' u=gT u):fH s c d fT' e gT':=by
 refine⟨λt u h=>?_,λt u h=>?_⟩
 ·rw[h1,h2,m,j];exact a.go t u h
 rw[h2,j];exact a.off t u h
theorem pq(s:Str)(t:RS)(d:t.pos<=s.length+1):cq s t (a_ s t):=by
 have h1:(aJ s t).length<=s.length-t.pos:=by
  have:=ln (aH false) (s.drop t.pos);rw[bW]at this;exact this
 unfold a_;exact⟨by simp,by simp only;omega,id⟩
variable {t:PS}{u:RS}
theorem Kh(h:At s t u):(b9 s t=aJ s (ae s u)/\(aJ s (ae s u)≠[]->At s (bm s t) (a_ s (ae s u)))/\(aJ s (ae s u)=[]->(bm s t).ok=false))\/((bm s t).ok=false/\(a_ s (ae s u)).bad=true):=by
 rcases wz h with h1|⟨h1,h2⟩
 ·left;have e:b9 s t=aJ s (ae s u):=by unfold b9 bX aJ;rw[h1.pos]
  have g:(aJ s (ae s u)).length<=s.length-(ae s u).pos:=by
   have:=ln (aH false) (s.drop (ae s u).pos);rw[bW]at this;exact this
  have hle:=h1.le;refine⟨e,λhw=>⟨?_,h1.bad,?_,?_,h1.first⟩,λhw=>?_⟩
  ·unfold bm dn;unfold b9 at e;simp only;rw[e,h1.ok];cases d:aJ s (ae s u)with
   |nil=>exact absurd d hw
   |cons c l=>rfl
  ·show(bq s t).pos+(b9 s t).length=(ae s u).pos+(aJ s (ae s u)).length
   rw[e,h1.pos]
  ·show(ae s u).pos+(aJ s (ae s u)).length<=s.length
   omega
  unfold bm dn;unfold b9 at e;simp only;rw[e,hw];simp
 right;refine⟨?_,h2⟩;unfold bm dn;simp[h1]
theorem K0(h:jK s false t u):(bm s t).ok=false/\(a_ s (ae s u)).bad=true/\(bm s t).pos<=s.length/\(a_ s (ae s u)).pos<=s.length+1:=by
 have d:=oS s t h.lt;have g:=gu s u h.ru;have e:=pq s _ g.lt;exact⟨d.nok h.ok,e.bb (pc h.off),d.lt,e.lt⟩
def lA(l:List Str)(s:Str)(u:RS):Int:=fA l (aJ s (ae s u))
def iV(l:List Str)(s:Str)(u:RS):RS:=bL (a_ s (ae s u)) (decide (lA l s u<0))
theorem i!(s:Str)(l l':List Str)(h:jK s false t u):jK s false (bc s l t) (iV l' s u):=by
 obtain⟨h1,h2,d,e⟩:=K0 h;refine .of ?_ d e ?_
 ·unfold bc;simp[h1]
 unfold iV bL;simp[h2]
variable {l':List Str}
theorem wq{l:List Str}(h:At s t u)(y:∀w:Str,w≠[]->(idx l w<0↔fA l' w<0)):
  (At s (bc s l t) (iV l' s u)/\bN s l t=idx l (aJ s (ae s u))/\aJ s (ae s u)≠[]/\¬lA l' s u<0)\/jK s false (bc s l t) (iV l' s u):=by
 have j:=oS s t (by rw[h.pos];exact h.le);have A:=gu s u (by have:=h.le;omega);have m:=pq s _ A.lt;rcases Kh h with⟨d,o,B⟩|⟨d,o⟩
 ·by_cases hw:aJ s (ae s u)=[]
  ·right;refine .of ?_ j.lt m.lt ?_
   ·unfold bc;simp[B hw]
   unfold iV bL lA fA;simp[hw]
  have g:=o hw;have e:bN s l t=idx l (aJ s (ae s u)):=by unfold bN;rw[d]
  by_cases i:lA l' s u<0
  ·right;refine .of ?_ j.lt m.lt ?_
   ·have:=(y _ hw).2 i;unfold bc;rw[d];have h2:¬0<=idx l (aJ s (ae s u)):=by omega
    simp[h2]
   unfold iV bL;simp[i]
  left;refine⟨⟨?_,?_,g.pos,g.le,g.first⟩,e,hw,i⟩
  ·have h0:¬idx l (aJ s (ae s u))<0:=λq=>i ((y _ hw).1 q)
   unfold bc;rw[d,g.ok];have h2:0<=idx l (aJ s (ae s u)):=by omega
   simp[h2]
  unfold iV bL;rw[g.bad];simp only[i,tO,Bool.or_self]
 right;refine .of ?_ j.lt m.lt ?_
 ·unfold bc;simp[d]
 unfold iV bL;simp[o]
theorem o?(s:Str)(l:List Str):fH s false (bN s l) (bc s l) (lA l s) (iV l s):=by
 refine⟨λt u h=>?_,λt u h=>i! s l l h⟩;rcases wq (l:=l) (l':=l) h (λw hw=>by unfold fA;rw[O hw])with⟨h1,h2,d,e⟩|h1
 ·refine .inl ⟨h1,?_⟩;rw[h2];unfold lA fA;rw[O d]
 exact .inr h1
theorem ON(l:List Str)(w:Str)(d:w≠[]):idx ([]::l) w=if idx l w<0 then -1 else 1+idx l w:=by
 unfold idx;rw[zK];have:(([]:Str)==w)=false:=by cases w with
  |nil=>exact absurd rfl d
  |cons a b=>rfl
 rw[this];simp only[dT,bH];cases l.findIdx? (· == w)with
 |none=>simp
 |some i=>
  simp only[zR];rw[ifn];omega
theorem K?(s:Str):fH s false (λt=>1+bN s fx t) (bc s fx) (lA gz s) (iV gz s):=by
 have hi:∀w:Str,w≠[]->(idx fx w<0↔fA gz w<0):=λw hw=>by
  unfold fA;rw[O hw];show _↔idx ([]::fx) w<0
  rw[ON _ _ hw];split<;>omega
 refine⟨λt u h=>?_,λt u h=>i! s _ _ h⟩;rcases wq (l:=fx) (l':=gz) h hi with⟨h1,h2,d,e⟩|h1
 ·refine .inl ⟨h1,?_⟩;show 1+bN s fx t=lA gz s u
  rw[h2];have:¬idx fx (aJ s (ae s u))<0:=λq=>e ((hi _ d).1 q)
  unfold lA fA;rw[O d];show _=idx ([]::fx) _
  rw[ON _ _ d,O this]
 exact .inr h1
def Jn(o:Int)(n:Int×Int×Int×Int×Int):LA:=stN zIn 0 [I 1,I o,I n.1,I n.2.1,I n.2.2.1,I n.2.2.2.1,I n.2.2.2.2]
def rh(s:Str)(t:PS):List AV×PS:=
 let o:=1+bN s fx t
 let t3:=bc s fx t
 let t4:=bK s t3
 let t5:=bK s t4
 let t6:=bK s t5
 let t7:=bK s t6
 (Jn o (dB s t3,dB s t4,dB s t5,dB s t6,dB s t7),bK s t7)
theorem aaC(s:Str):fH s false (λt=>(rh s t).1) (λt=>(rh s t).2) (λu=>(q_ s u).1) (λu=>(q_ s u).2):=
 ((K? s).seq ((jA s).seq ((jA s).seq ((jA s).seq ((jA s).seq (jA s)))))).map (λx=>Jn x.1 x.2)
  |>.same (λt=>rfl) (λt=>rfl) (λu=>rfl) (λu=>rfl)
def sx(s:Str)(t:PS):List AV×PS:=(stN (stN zIn 0 [I 3]) 9 [I (dB s t)],bK s t)
theorem aam(s:Str):fH s false (λt=>(sx s t).1) (λt=>(sx s t).2) (λu=>(tb s u).1) (λu=>(tb s u).2):=
 (jA s).map (λx=>stN (stN zIn 0 [I 3]) 9 [I x]) |>.same (λt=>rfl) (λt=>rfl) (λu=>rfl) (λu=>rfl)
def sJ(s:Str)(t:PS):List AV×PS:=(stN (stN (stN zIn 0 [I 4]) 10 [I (dB s t)]) 11 [I (dB s (bK s t))],bK s (bK s t))
theorem aab(s:Str):fH s false (λt=>(sJ s t).1) (λt=>(sJ s t).2) (λu=>(sZ s u).1) (λu=>(sZ s u).2):=
 ((jA s).seq (jA s)).map (λx=>stN (stN (stN zIn 0 [I 4]) 10 [I x.1]) 11 [I x.2]) |>.same (λt=>rfl) (λt=>rfl) (λu=>rfl) (λu=>rfl)
def sy(s:Str)(t:PS):List AV×PS:=
 let t3:=bc s gm t
 let t4:=bc s iW t3
 (stN (stN (stN zIn 0 [I 5]) 12 [.bool (bN s gm t==1),.bool (bN s iW t3==1),I 0]) 14 [I (dB s t4)],bK s t4)
def rMd(s:Str)(t:RS):Bool×Bool:=(aJ s (ae s t)==iy,aJ s (ae s (a_ s (ae s t)))==gU)
def oJ(s:Str)(t:RS):RS:=bL (a_ s (ae s (a_ s (ae s t)))) (qQ (aJ s (ae s t)) (aJ s (ae s (a_ s (ae s t)))))
theorem yx(a b w:Str)(d:a≠b):idx [a,b] w=if w=a then 0 else if w=b then 1 else -1:=by
 unfold idx;by_cases h1:w=a
 ·subst h1;simp[zK]
 by_cases h2:w=b
 ·subst h2;simp[zK,d,h1]
 simp[zK,h1,h2,lI h1,lI h2]
theorem t?(s:Str):fH s false (λt=>(bN s gm t==1,bN s iW (bc s gm t)==1)) (λt=>bc s iW (bc s gm t)) (rMd s) (oJ s):=by
 refine⟨λt u h=>?_,λt u h=>?_⟩
 ·have W:=oS s t (by rw[h.pos];exact h.le);have hg:=gu s u (by have:=h.le;omega);have hr:=pq s _ hg.lt;have g:=gu s _ hr.lt;have d:=pq s _ g.lt;have i:=oS s (bc s gm t) W.lt;have off:(bc s gm t).ok=false->(oJ s u).bad=true->jK s false (bc s iW (bc s gm t)) (oJ s u):=λa b=>by
   refine .of ?_ i.lt d.lt b;unfold bc at a ⊢;have:=i.nok a;unfold bc at this;rw[this];rfl
  have m:∀w w',qQ w w' = !((decide (0<=idx gm w))&&decide (0<=idx iW w')):=λw w'=>by
   unfold qQ gm iW;rw[yx _ _ _ (by decide),yx _ _ _ (by decide)];by_cases T:w=kl
   ·subst T;by_cases a2:w'=jB
    ·subst a2;decide
    by_cases a3:w'=gU
    ·subst a3;decide
    simp[a2,a3]
   by_cases B:w=iy
   ·subst B;by_cases a2:w'=jB
    ·subst a2;decide
    by_cases a3:w'=gU
    ·subst a3;decide
    simp[a2,a3]
   simp[T,B]
  rcases wq (l:=gm) (l':=gm) h (λw hw=>by unfold fA;rw[O hw])with⟨h1,h2,C,o⟩|h1
  ·have hT:iV gm s u=a_ s (ae s u):=by
    unfold iV bL;simp only[o,tO,Bool.or_false]
   rw[hT]at h1;have p1:0<=idx gm (aJ s (ae s u)):=by
    unfold lA fA at o;rw[O C]at o;omega
   rcases wq (l:=iW) (l':=iW) h1 (λw hw=>by unfold fA;rw[O hw])with⟨q1,q2,q3,G⟩|q1
   ·left;have p2:0<=idx iW (aJ s (ae s (a_ s (ae s u)))):=by
     unfold lA fA at G;rw[O q3]at G;omega
    have P:iV iW s (a_ s (ae s u))=oJ s u:=by
     unfold iV oJ bL;rw[m];simp[G,p1,p2]
    rw[P]at q1;refine⟨q1,?_⟩;rw[h2,q2];unfold rMd;unfold gm at p1 ⊢;unfold iW at p2 ⊢;rw[yx _ _ _ (by decide)]at p1 p2 ⊢;rw[yx _ _ _ (by decide)];generalize aJ s (ae s u)=a at*;generalize aJ s (ae s (a_ s (ae s u)))=b at*;have U:∀(w x y:Str),x≠y->(0<=if w=x then(0:Int)else if w=y then 1 else -1)->((if w=x then(0:Int)else if w=y then 1 else -1)==1)=(w==y):=by
     intro w x y R hp;by_cases J:w=x
     ·subst J;simp[R]
     by_cases V:w=y
     ·subst V;simp[J]
     simp[J,V]at hp
    rw[U _ _ _ (by decide) p1,U _ _ _ (by decide) p2]
   right;refine⟨q1.ok,q1.lt,d.lt,?_⟩;left;rcases q1.off with q|⟨c,d1,d2⟩
   ·unfold iV bL at q;simp only[iY,ck]at q;unfold oJ bL;rcases q with q|q
    ·simp only;rw[q];rfl
    have M:qQ (aJ s (ae s u)) (aJ s (ae s (a_ s (ae s u))))=true:=by
     rw[m];unfold lA at q;have:¬0<=idx iW (aJ s (ae s (a_ s (ae s u)))):=by
      unfold fA at q;split at q
      ·rename_i hw;rw[hw];decide
      omega
     simp[this]
    simp only;rw[M];simp
   have A:(a_ s (ae s (a_ s (ae s u)))).bad=true\/aH false c=false:=by
    by_cases hw:aH false c=true
    ·exfalso;have e:(iV iW s (a_ s (ae s u))).pos=(ae s (a_ s (ae s u))).pos+((s.drop (ae s (a_ s (ae s u))).pos).takeWhile (aH false)).length:=rfl;rw[e]at d1;obtain⟨r,r1,N⟩:=rM (aH false) (s.drop (ae s (a_ s (ae s u))).pos);have j:=congrArg (λl:Str=>l[((s.drop (ae s (a_ s (ae s u))).pos).takeWhile (aH false)).length]?) r1;rw[iZ (ay _),rm,ew,d1]at j;cases r with
     |nil=>simp at j
     |cons x y=>simp at j;subst j;have:=N c y rfl;rw[this]at hw;cases hw
    exact .inr (by simpa using hw)
   rcases A with A|A
   ·unfold oJ bL;simp only;rw[A];rfl
   rw[A]at d2;cases d2
  right;refine off h1.ok ?_;rcases h1.off with q|⟨c,d1,d2⟩
  ·unfold iV bL at q;simp only[iY,ck]at q;unfold oJ bL;rcases q with q|q
   ·have:(a_ s (ae s (a_ s (ae s u)))).bad=true:=d.bb (g.bb q);simp only;rw[this];rfl
   have M:qQ (aJ s (ae s u)) (aJ s (ae s (a_ s (ae s u))))=true:=by
    rw[m];unfold lA at q;have:¬0<=idx gm (aJ s (ae s u)):=by
     unfold fA at q;split at q
     ·rename_i hw;rw[hw];decide
     omega
    simp[this]
   simp only;rw[M];simp
  exfalso;have e:(iV gm s u).pos=(ae s u).pos+((s.drop (ae s u).pos).takeWhile (aH false)).length:=rfl;rw[e]at d1;obtain⟨r,r1,N⟩:=rM (aH false) (s.drop (ae s u).pos);have j:=congrArg (λl:Str=>l[((s.drop (ae s u).pos).takeWhile (aH false)).length]?) r1;rw[iZ (ay _),rm,ew,d1]at j;cases r with
  |nil=>simp at j
  |cons x y=>simp at j;subst j;have:=N c y rfl;rw[this]at d2;cases d2
 obtain⟨h1,h2,C,o⟩:=K0 h;have hP:(bc s gm t).ok=false:=by unfold bc;simp[h1]
 have i:=oS s (bc s gm t) C;have g:=gu s _ o;have d:=pq s _ g.lt;refine .of ?_ i.lt d.lt ?_
 ·have:=i.nok hP;unfold bc at this ⊢;rw[this];rfl
 unfold oJ bL;have:(a_ s (ae s (a_ s (ae s u)))).bad=true:=d.bb (g.bb h2);simp only;rw[this];rfl
theorem M?(s:Str):fH s false (λt=>(sy s t).1) (λt=>(sy s t).2) (λu=>(sH s u).1) (λu=>(sH s u).2):=
 ((t? s).seq (jA s)).map (λx=>stN (stN (stN zIn 0 [I 5]) 12 [.bool x.1.1,.bool x.1.2,I 0]) 14 [I x.2]) |>.same (λt=>rfl) (λt=>rfl) (λu=>rfl) (λu=>rfl)
def qK(s:Str)(t:PS):List AV×PS:=(stN (stN zIn 0 [I 6]) 15 [.psl (vCs (pB s t).1)],(pB s t).2)
def qS(s:Str)(t:RS):List AV×RS:=(stN (stN zIn 0 [I 6]) 15 [.psl (vCs (s8 s t).1)],(s8 s t).2)
theorem aap(s:Str):fH s false (λt=>(qK s t).1) (λt=>(qK s t).2) (λu=>(qS s u).1) (λu=>(qS s u).2):=by
 refine⟨λt u h=>?_,λt u h=>?_⟩
 ·have k1:=wa s (s.length+2) [] t (by rw[h.pos];exact h.le);have k2:=rA s (s.length+3) [] u (by have:=h.le;omega);rcases My s (s.length+2) (s.length+3) [] t u h (by omega) (by omega)with⟨h1,h2⟩|⟨h1,h2⟩
  ·refine .inl ⟨h1,?_⟩;unfold qK qS pB s8;simp only;rw[h2]
  exact .inr (.of h1 k1.lt k2.lt h2)
 have k1:=wa s (s.length+2) [] t h.lt;have k2:=rA s (s.length+3) [] u h.ru;refine⟨k1.nok h.ok,k1.lt,k2.lt,?_⟩;rcases h.off with h1|h1
 ·exact .inl (k2.bb h1)
 by_cases hb:u.bad=true
 ·exact .inl (k2.bb hb)
 left;have g:(ae s u).bad=true:=pc (.inr h1);have e:=gu s _ h.ru;have d:¬s.length<=u.pos:=by
  obtain⟨c,q1,_⟩:=h1;have:=(aL.1 q1).1;omega
 show(fM s (s.length+3) [] u).2.bad=true
 unfold fM;rw[O hb,O d];have i:=uc s u h.ru;refine(rA s _ _ _ i.1.lt).bb ?_;have:=(oV s 16 _ e.lt).1.bb g;unfold dX bL;simp only;rw[this];rfl
def ve(a b o c d:Int)(x:Str):LA:=stN (stN (stN (stN (stN (stN (stN zIn 0 [I 7]) 16 [I a]) 17 [I b]) 18 [I ((2:Int)^(max o 0).toNat)]) 19 [I c]) 20 [I d]) 21 [.str x]
def oq(s:Str)(t:PS):List AV×PS:=
 let t2:=bK s t
 let t3:=bK s t2
 let o:=bN s dY t3
 let t4:=bc s dY t3
 let t5:=bK s t4
 let t6:=bK s t5
 (ve (dB s t) (dB s t2) o (dB s t4) (dB s t5) (iv s t6),fY s t6)
theorem W'(s:Str):fH s false (λt=>(oq s t).1) (λt=>(oq s t).2) (λu=>(ow s u).1) (λu=>(ow s u).2):=
 ((jA s).seq ((jA s).seq ((o? s dY).seq ((jA s).seq ((jA s).seq (Kg s false)))))).map (λx=>ve x.1 x.2.1 x.2.2.1 x.2.2.2.1 x.2.2.2.2.1 x.2.2.2.2.2)
  |>.same (λt=>by unfold oq;rfl) (λt=>by unfold oq;rfl) (λu=>by unfold ow ve;rfl) (λu=>by unfold ow;rfl)
def zA(lv:AV):LA:=stN (stN zIn 0 [I 6]) 15 [lv]
theorem agX(lv:AV)(h:15<(zA lv).length):(zA lv)[15]'h=lv:=rfl
theorem agD(lv d:AV):stN (zA lv) 15 [d]=zA d:=rfl
structure RA(h hb h':AH)(s:Str)(t:RS)(lv:AV)(acc:List Val):Prop where
 l3:L3 h h' (rdC ⟨s,t⟩) (zA lv)
 nx:hb.nx<=h'.nx
 ol:OL 4 hb h' lv acc.length (cw acc)
variable {h hb h':AH}{lv:AV}{acc:List Val}
theorem RA.set{t:RS}(l:RA h hb h' s t lv acc)(d:h.nx+3<=hb.nx)(u:RS):RA h hb (h'.set (h.nx+1) (.cells (rdC ⟨s,u⟩))) s u lv acc:=
 ⟨l.l3.gM _,l.nx,l.ol.set (by omega) _⟩
variable {k:Nat}
theorem RA.bump{t:RS}(l:RA h hb h' s t lv acc)(d:h'.nx<=k):RA h hb ⟨h'.H,k⟩ s t lv acc:=
 ⟨l.l3.bump d,bf l.nx d,l.ol.bump d⟩
variable {h2:AH}
theorem RA.new{t:RS}(l:RA h hb h' s t lv acc)(d:h'.nx<=h2.nx)(e:∀i,i<h'.nx->h2.H.get i=h'.H.get i):RA h hb h2 s t lv acc:=
 ⟨l.l3.new d e,bf l.nx d,l.ol.aY d λi _ hi=>e i hi⟩
theorem ad0(o:OL 4 hb h' lv acc.length (cw acc))(j:h.nx+3<=hb.nx):tq h h' (zA lv) (zA (.psl (vCs acc))):=by
 intro h2 e g;unfold zA;refine B6 (B6 (DE _) ⟨.int _ _,trivial⟩) ⟨?_,trivial⟩;have o2:OL 4 hb h2 lv acc.length (cw acc):=o.aY e λi m d=>g i (by omega) d
 exact sn o2 (by omega)
theorem L3.low{e g:LA}(l:L3 h h' e g){b:Nat}(hb:h.nx+3<=b)(j:h'.nx<=h2.nx)(d:∀i,i<b->h2.H.get i=h'.H.get i):L3 h h2 e g:=
 have n1:=l.nx
 ⟨by rw[aV (d _ (by omega))];exact l.r,by rw[aV (d _ (by omega))];exact l.a,by rw[aV (d _ (by omega))];exact l.b,by omega,λi hi=>by rw[d i (by omega)];exact l.get i hi,l.len,l.one⟩
theorem z?(a b c:LA)(h:b.length=c.length):aP (a++b) a.length c=some (a++c):=by
 rw[nJ (by rw[au];omega)];unfold stN;rw[tV,gp (by rw[au];omega),bO];rfl
theorem afL{h h1:AH}{t:RS}(L:LR h h1 s t zIn):LG h h1 s cK (qS s t):=by
 obtain⟨hL,hs,hp,_⟩:=L;have hb:=hL.b;have hlen:=hL.len;have cd:=hL.nx;simp[LG,lR,cK,hb,wH];clear hb hlen cd;have l_1:=hL.st 0 [I 6] (by simp) rfl;generalize h1.set (h.nx+2) (.cells (stN (zIn) 0 [I 6]))=hb at*;have U:RA h hb hb s t .D []:=⟨l_1,ay _,OL.start _ _ _⟩;have w:h.nx+3<=hb.nx:=l_1.nx;clear l_1 hL;unfold qS;have bb:fM s (s.length+3) [] t=s8 s t:=rfl;generalize hR:s8 s t=R at*;refine⟨λm vs h'=>∃acc t lv,vs=[.ptr h.nx 0,.ptr (h.nx+1) 0,.ptr (h.nx+2) 0]/\RA h hb h' s t lv acc/\t.pos<=s.length+1/\ky s t<=m/\fM s m acc t=R/\(t.bad=false->acc.length<=t.pos),s.length+3,?_,?_⟩
 ·exact⟨[],t,.D,rfl,U,by omega,by unfold ky;split<;>omega,bb,λ_=>by simp⟩
 rintro m vs h' ⟨acc,t,lv,rfl,U,hp,hm,hq,hlen⟩;have hx:(Rd.mk s t).Ok:=⟨hs,hp⟩;have ec:=U.l3.nx;have W:h'.E (h.nx+1)=some [.str s,I t.pos,.bool t.bad]:=U.l3.a;simp[OE];refine⟨λvs h4=>vs=[.ptr h.nx 0,.ptr (h.nx+1) 0,.ptr (h.nx+2) 0,.bool (!t.bad && !(decide (s.length<=t.pos)))]/\h4=h',?_,?_⟩
 ·cases o:t.bad
  ·rw[o]at W;simp[G5,W];refine sD (IP (x:=⟨s,t⟩) U.l3.a (by omega) hx) ?_;simp[]
  rw[o]at W;simp[G5,W]
 rintro vs h4 ⟨rfl,rfl⟩;cases j:(!t.bad && !(decide (s.length<=t.pos)))
 ·have av:fM s m acc t=(acc,t):=by
   cases m with
   |zero=>rfl
   |succ m=>
    unfold fM;cases o:t.bad
    ·rw[o]at j;simp at j;simp[j]
    simp
  rw[hq]at av;subst av;simp[BM,Ro,BZ];exact⟨rfl,zA lv,U.l3,ad0 U.ol w⟩
 simp only[aI,j7,jx]at j;obtain⟨o,cf⟩:=j;obtain⟨m,rfl⟩:∃k,m=k+1:=⟨m-1,by unfold ky at hm;rw[o]at hm;simp at hm;omega⟩;have ad:=hq;unfold fM at ad;rw[o]at ad;simp only[dT,bH,cf]at ad;have af:=uc s t hp;have bs:=gu s t hp;have ee:=oV s 16 _ bs.lt;simp[BM];refine sD (s_ (x:=⟨s,t⟩) U.l3.a (by omega) hx) ?_;have aj:=U.set w (ae s t);simp only at aj ⊢;have eT:dX s t=bL (dF s 16 (ae s t)).2 (decide ((bM 1 (dF s 16 (ae s t)).1 0).1≠0)):=rfl;generalize h4.set (h.nx+1) (.cells (rdC ⟨s,ae s t⟩))=h5 at*;generalize ae s t=t1 at*;refine sD (aaB (x:=⟨s,t1⟩) aj.l3.a (by have:=aj.l3.nx;omega) ⟨hs,bs.lt⟩) ?_;have al:=aj.set w (dF s 16 t1).2;simp only at al ⊢;generalize h5.set (h.nx+1) (.cells (rdC ⟨s,(dF s 16 t1).2⟩))=A at*;generalize dF s 16 t1=VV at*;obtain⟨v,t2⟩:=VV;simp only at*;have ej:=al.l3.nx;have aw:=jd v;have C:(vC v).length=4:=ch v;have ek:=al.nx;have a1:=al.new (h2:=(A.add (.cells z4)).set A.nx (.cells (vC v))) (by simp) λi hi=>by rw[gsn,gan]
 have G:((A.add (.cells z4)).set A.nx (.cells (vC v))).E A.nx=some (vC v):=cse;have cl:((A.add (.cells z4)).set A.nx (.cells (vC v))).nx=A.nx+1:=by simp
 have cn:kSt (A.add (.cells [I 0,I 0,.str [],.D])) 4 (.ptr A.nx 0) (.agg (vC v))=some (.undef,(A.add (.cells z4)).set A.nx (.cells (vC v))):=by
  obtain⟨k',n',s',l'⟩:=v;simp only[vC];simp[];rfl
 have P:cut (vC v) 0 4=some (vC v):=by
  have:=cS (α:=vC v) (b:=[]) (n:=4) C;rwa [bO]at this
 simp only[y5,sC,iT,C1,qi];rw[cn];simp[];obtain⟨kv,b3⟩:∃kv,kv=A.nx:=⟨_,rfl⟩;rw[<-b3]at a1 G cl ⊢;generalize(A.add (.cells z4)).set kv (.cells (vC v))=h7 at*;have B:h7.E (h.nx+1)=some [.str s,I t2.pos,.bool t2.bad]:=a1.l3.a;refine⟨λvs d=>vs=[.ptr h.nx 0,.ptr (h.nx+1) 0,.ptr (h.nx+2) 0,.ptr kv 0]/\RA h hb d s (dX s t) lv acc/\d.E kv=some (vC v)/\d.nx=h7.nx,?_,?_⟩
 ·rw[eT];have hx:=a1.set w (bL t2 (decide ((bM 1 v 0).1≠0)));have an:(h7.set (h.nx+1) (.cells (rdC ⟨s,bL t2 (decide ((bM 1 v 0).1≠0))⟩))).E kv=some (vC v):=by rw[csn];exact G
  cases ao:t2.bad
  ·rw[ao]at B;simp[C0,B,G,P];refine sD (LZ v trivial) ?_;simp[];have eB:∀e:Int,(e != 0)=decide (e≠0):=λe=>by by_cases q:e=0<;>simp[q]
   have cr:∀e:Int,(!decide (e=0))=decide (e≠0):=λe=>by simp
   simp[DC,B];rw[eB,cr];simp only[bL,ao,Bool.false_or,rdC]at hx an ⊢;refine⟨hx,?_⟩;first|exact an|(rw[ifn];exact G)
  rw[ao]at B;simp[C0,B,DC,B];simp only[bL,ao,Bool.true_or,rdC]at hx an ⊢;refine⟨hx,?_⟩;first|exact an|(rw[ifn];exact G)
 rintro vs d ⟨rfl,y,ct,en⟩;have cu:=y.l3.b;have dk:=y.l3.len;have ds:=y.l3.nx;have cv:=y.bump (k:=d.nx+10) (by omega);simp(disch:=first|go_size|fail)[Rs,cu,agX,ct,P,D0 cv.ol];have eb:=y.nx;have b4:∀i,i<hb.nx->((AH.mk d.H (d.nx+10)).set (d.nx+4) (.cells z4)).H.get i=d.H.get i:=λi hi=>by rw[gsn]
 have b5:L3 h ((AH.mk d.H (d.nx+10)).set (d.nx+4) (.cells z4)) (rdC ⟨s,dX s t⟩) (zA lv):=y.l3.low w (by simp) b4;have bd:OL 4 hb ((AH.mk d.H (d.nx+10)).set (d.nx+4) (.cells z4)) lv acc.length (cw acc):=y.ol.aY (by simp) λi _ hi=>by rw[gsn]
 have b6:((AH.mk d.H (d.nx+10)).set (d.nx+4) (.cells z4)).E (d.nx+4)=some z4:=cse;have b7:((AH.mk d.H (d.nx+10)).set (d.nx+4) (.cells z4)).nx=d.nx+10:=rfl;obtain⟨cx,g,ca,bk,cb,cc⟩:=qf (bytes:=56) bd (by omega) b6 rfl rfl (by have:=hlen o;omega) (by omega);have J:L3 h g (rdC ⟨s,dX s t⟩) (zA lv):=b5.low w (by omega) cc;have bp:fy ((AH.mk d.H (d.nx+10)).set (d.nx+4) (.cells [I 0,I 0,.str [],.D])) 4 56 lv (.rsl (d.nx+4) 0 1 4)=some (cx,g):=ca;rw[b7]at cb;refine gS bp (show d.nx+10<=g.nx by omega) ?_;rcases bk with⟨_,h0,_⟩|⟨k,rfl,_,cy,hk,bx,ar⟩
 ·omega
 have T:(cw acc).length=acc.length*4:=by
  rw[au]at ar;have:z4.length=4:=rfl;omega
 have cN:aC g 4 (.rsl k 0 (acc.length+1) 4) (I acc.length)=some (.ptr k (acc.length*4),g):=by
  have:=gO (h:=g) (z:=4) (id:=k) (off:=0) (len:=acc.length+1) (i:=(acc.length:Int)) (by omega) (by omega);rw[this,j4,pU]
 have bY:∀V:AH,V.E k=some (cw acc++z4)->kSt V 4 (.ptr k (acc.length*4)) (.agg (vC v))=some (.undef,V.set k (.cells (cw acc++vC v))):=λV hc=>by
  have:=z? (cw acc) z4 (vC v) (by rw[C];rfl);rw[T]at this;simp(disch:=first|go_size|fail)[hc,this];first|exact⟨C,aw⟩|exact aw|exact C
 have b0:∀V:AH,V.E (h.nx+2)=some (zA lv)->kSt V 1 (.ptr (h.nx+2) 15) (.rsl k 0 (acc.length+1) 4)=some (.undef,V.set (h.nx+2) (.cells (zA (.rsl k 0 (acc.length+1) 4)))):=λV hc=>by
  have eo:(zA lv).length=37:=rfl;simp(disch:=first|go_size|fail)[hc,wH,agD]
 have b1:bT (.read (h.nx+2)) (.alloc (d.nx+4) (.cells [I 0,I 0,.str [],.D]))=true:=by
  rw[vR];simp;omega
 have b2:bT (.read kv) (.alloc (d.nx+4) (.cells [I 0,I 0,.str [],.D]))=true:=by
  rw[vR];simp;omega
 have cR:cw (acc++[v])=cw acc++vC v:=rD _ _;have aS:∀F:AH,F.nx=g.nx->F.E k=some (cw acc++vC v)->L3 h F (rdC ⟨s,dX s t⟩) (zA (.rsl k 0 (acc.length+1) 4))->∃m',m'<m+1/\([AV.ptr h.nx 0,.ptr (h.nx+1) 0,.ptr (h.nx+2) 0]=[AV.ptr h.nx 0,.ptr (h.nx+1) 0,.ptr (h.nx+2) 0]/\∃acc t lv,RA h hb F s t lv acc/\t.pos<=s.length+1/\ky s t<=m'/\fM s m' acc t=R/\(t.bad=false->acc.length<=t.pos)):=λF hF cT c1=>by
  refine⟨m,by omega,rfl,acc++[v],dX s t,.rsl k 0 (acc.length+1) 4,⟨c1,by omega,?_⟩,af.1.lt,?_,ad,?_⟩
  ·rw[au,dP,cR];refine .inr ⟨k,rfl,by omega,cy,by omega,cT,?_⟩;rw[au,T,C];omega
  ·unfold ky at hm ⊢;rw[o]at hm;simp only[dT,bH]at hm;cases a6:(dX s t).bad
   ·have:=af.2 a6;have:=af.1.lt;simp only[dT,bH];omega
   simp
  intro a6;have:=af.2 a6;have:=hlen o;rw[au];simp only[dP];omega
 rw[cN];have aT:=J.b;have e1:(g.set k (.cells (cw acc++vC v))).E (h.nx+2)=some (zA lv):=by rw[csn];exact aT
 have e2:(g.set (h.nx+2) (.cells (zA (.rsl k 0 (acc.length+1) 4)))).E k=some (cw acc++z4):=by rw[csn];exact bx
 have c6:L3 h ((g.set k (.cells (cw acc++vC v))).set (h.nx+2) (.cells (zA (.rsl k 0 (acc.length+1) 4)))) (rdC ⟨s,dX s t⟩) (zA (.rsl k 0 (acc.length+1) 4)):=
  (J.low w (h2:=g.set k (.cells (cw acc++vC v))) (by simp) (λi hi=>by rw[gsn])).lz _ rfl rfl
 have c7:L3 h ((g.set (h.nx+2) (.cells (zA (.rsl k 0 (acc.length+1) 4)))).set k (.cells (cw acc++vC v))) (rdC ⟨s,dX s t⟩) (zA (.rsl k 0 (acc.length+1) 4)):=
  (J.lz _ rfl rfl).low w (by simp) (λi hi=>by rw[gsn])
 have f1:=aS ((g.set k (.cells (cw acc++vC v))).set (h.nx+2) (.cells (zA (.rsl k 0 (acc.length+1) 4)))) rfl (by rw[csn];exact cse) c6;have f2:=aS ((g.set (h.nx+2) (.cells (zA (.rsl k 0 (acc.length+1) 4)))).set k (.cells (cw acc++vC v))) rfl cse c7;have c8:=bY _ bx;have dc:=b0 _ e1;have dd:=b0 _ aT;have df:=bY _ e2;simp(disch:=first|go_size|fail)[];unfold Ra;refine⟨gS c8 (by simp) (gS dc (by simp) ⟨b1,b2,?_⟩),gS dd (by simp) (gS df (by simp) ⟨b1,b2,?_⟩)⟩
 ·obtain⟨m',a7,a8,M,t',N,ba,iX⟩:=f1;exact Exists.intro m' ⟨a7,a8,M,t',⟨N,ba⟩,iX⟩
 obtain⟨m',a7,a8,M,t',N,ba,iX⟩:=f2;exact Exists.intro m' ⟨a7,a8,M,t',⟨N,ba⟩,iX⟩
def hY(s:Str):Nat->List Int->PS->List Int×PS
 |0,acc,t=>(acc,t)
 |n+1,acc,t=>if aO s t=true then hY s n (acc++[dB s t]) (bK s t)else(acc,t)
def pH(s:Str)(t:PS):List Int×PS:=hY s (s.length+2) [] t
theorem ud(s:Str):∀(n:Nat) (acc:List Int) (t:PS),t.pos<=s.length->bV s t (hY s n acc t).2
 |0,acc,t,d=>bV.refl d
 |n+1,acc,t,d=>by
  unfold hY;split
  ·exact(lK s t d).trans (ud s n _ _ (lK s t d).lt)
  exact bV.refl d
theorem oQ(s:Str):∀(n:Nat) (acc:List Int) (t:RS),t.pos<=s.length+1->cq s t (gn s n acc t).2
 |0,acc,t,d=>cq.refl d
 |n+1,acc,t,d=>by
  unfold gn;split
  ·exact cq.refl d
  split
  ·exact cq.refl d
  exact(jP s t d).1.trans (oQ s n _ _ (jP s t d).1.lt)
theorem Oz(d:t.pos<=s.length)(h:(bK s t).ok=true):t.pos<(bK s t).pos:=by
 have h1:=mw s t d;have h2:=JW s false _ h1.lt;unfold bK at h;simp only[aI]at h;exact vN h1.le (h2.2 h.1)
theorem MS(s:Str):∀(n m:Nat) (acc:List Int) (t:PS) (u:RS),At s t u->s.length-u.pos+1<=n->s.length-u.pos+2<=m->
  (At s (hY s n acc t).2 (gn s m acc u).2/\(hY s n acc t).1=(gn s m acc u).1)\/((hY s n acc t).2.ok=false/\(gn s m acc u).2.bad=true)
 |n,m,acc,t,u,h,A,hm=>by
  obtain⟨n,rfl⟩:∃x,n=x+1:=⟨n-1,by omega⟩;obtain⟨m,rfl⟩:∃x,m=x+1:=⟨m-1,by omega⟩;have j:aO s t=decide (u.pos<s.length):=by unfold aO;rw[h.ok,h.pos];simp
  have d:t.pos<=s.length:=by rw[h.pos];exact h.le
  have o:u.pos<=s.length+1:=by have:=h.le;omega
  unfold hY gn;rw[j,h.bad];simp only[dT,bH];by_cases e:u.pos<s.length
  ·rw[Z (by simp[e]),ifn];have y:=lK s t d;have q:=jP s u o;rcases(jA s).go t u h with⟨h1,h2⟩|h1
   ·have:=Oz d h1.ok;have B:=h.pos;have C:=h1.pos;have G:=h1.le;rw[h2];exact MS s n m _ _ _ h1 (by omega) (by omega)
   right;refine⟨(ud s n _ _ y.lt).nok h1.ok,?_⟩;by_cases hb:(bA s u).bad=true
   ·exact(oQ s m _ _ q.1.lt).bb hb
   have w:=h1.off.resolve_left hb;obtain⟨m,rfl⟩:∃x,m=x+1:=⟨m-1,by omega⟩;have g:¬s.length<=(bA s u).pos:=by
    obtain⟨c,q1,_⟩:=w;have:=(aL.1 q1).1;omega
   have i:(ae s (bA s u)).bad=true:=pc (.inr w);unfold gn;rw[O hb,O g];refine(oQ s m _ _ (jP s _ q.1.lt).1.lt).bb ?_;unfold bA ef at i ⊢;simp only at i ⊢;rw[i];rfl
  rw[O (by simp[e]),ifp];exact .inl ⟨h,rfl⟩
 termination_by n=>n
def ng(n:Int):Int:=if n = -9223372036854775808 then -9223372036854775808 else -n
def clP(n:Int):LA:=[I (max n (ng n)),.bool (decide (n<0))]
def hH(l:List Int):List (LA):=l.map clP
variable {l:List Int}
theorem acx(h:∀n∈l, -bh<=n/\n<=bh):hH l=iG l:=by
 unfold hH iG;refine List.map_congr_left λn d=>?_
 have:=h n d;unfold bh at this;unfold clP clC ng;rw[ifn]
theorem Pd(s:Str):∀(m:Nat) (acc:List Int) (u:RS),u.pos<=s.length+1->(∀n∈acc, -bh<=n/\n<=bh)->(gn s m acc u).2.bad=false->∀n∈(gn s m acc u).1, -bh<=n/\n<=bh
 |0,acc,u,_,h,_=>h
 |m+1,acc,u,hu,h,hb=>by
  unfold gn at hb ⊢;split
  ·exact h
  rename_i g;rw[O g]at hb;split
  ·exact h
  rename_i i;rw[O i]at hb;have j:=jP s u hu;refine Pd s m _ _ j.1.lt ?_ hb;intro n e;rcases nC.1 e with e|e
  ·exact h n e
  rw[j6.1 e];have d:=(oQ s m (acc++[dR s u]) _ j.1.lt).ok hb;unfold bA ef at d;simp only[kh,vO]at d;have:=QU d.2;exact⟨this.1,this.2.1⟩
theorem abt(s:Str):fH s false (λt=>hH (pH s t).1) (λt=>(pH s t).2) (λu=>iG (sM s u).1) (λu=>(sM s u).2):=by
 refine⟨λt u h=>?_,λt u h=>?_⟩
 ·have k1:=ud s (s.length+2) [] t (by rw[h.pos];exact h.le);have k2:=oQ s (s.length+3) [] u (by have:=h.le;omega);rcases MS s (s.length+2) (s.length+3) [] t u h (by omega) (by omega)with⟨h1,h2⟩|⟨h1,h2⟩
  ·refine .inl ⟨h1,?_⟩;have e:=Pd s (s.length+3) [] u (by have:=h.le;omega) (by simp) h1.bad;show hH (hY s (s.length+2) [] t).1=iG (gn s (s.length+3) [] u).1
   rw[h2];exact acx e
  exact .inr (.of h1 k1.lt k2.lt h2)
 have k1:=ud s (s.length+2) [] t h.lt;have k2:=oQ s (s.length+3) [] u h.ru;refine .of (k1.nok h.ok) k1.lt k2.lt ?_;by_cases hb:u.bad=true
 ·exact k2.bb hb
 have g:=h.off.resolve_left hb;have d:¬s.length<=u.pos:=by
  obtain⟨c,q1,_⟩:=g;have:=(aL.1 q1).1;omega
 have i:(ae s u).bad=true:=pc (.inr g);show(gn s (s.length+3) [] u).2.bad=true
 unfold gn;rw[O hb,O d];refine(oQ s _ _ _ (jP s _ h.ru).1.lt).bb ?_;unfold bA ef;simp only;rw[i];rfl
def d_(s:Str)(t:PS):(Int×AV×Int×AV)×PS:=
 let k:=bN s cg t
 let t1:=bc s cg t
 if k=2 then((16,.psl (iE (iv s t1)),0,.D),fY s t1)
 else if k=1 then
  ((15,.psl (iE (iv s t1)),dB s (fY s t1),.psl (hH (pH s (bK s (fY s t1))).1)),(pH s (bK s (fY s t1))).2)
 else((14+k,.D,0,.D),t1)
theorem rB(s:Str)(l:List Str)(t:PS)(d:t.pos<=s.length):bV s t (bc s l t):=by
 have h:=oS s t d;refine⟨h.le,h.lt,λe=>h.ok ?_⟩;unfold bc at e;simp only[aI]at e;exact e.1
theorem Z1(s:Str)(t:PS)(d:t.pos<=s.length):bV s t (d_ s t).2:=by
 have h1:=rB s cg t d;have h2:=h1.trans (tY s _ h1.lt);unfold d_;simp only;split
 ·exact h2
 split
 ·exact(h2.trans (lK s _ h2.lt)).trans (ud s _ _ _ (lK s _ h2.lt).lt)
 exact h1
theorem JP(s:Str)(t:RS)(d:(ae s t).pos<=s.length+1):cq s (ae s t) (eX s t).2:=by
 have h1:=pq s _ d;have h2:=h1.trans (tZ s _ h1.lt);unfold eX;simp only;split
 ·exact h1
 split
 ·exact h1
 split
 ·exact h2
 split
 ·exact(h2.trans (jP s _ h2.lt).1).trans (oQ s _ _ _ (jP s _ h2.lt).1.lt)
 exact⟨h1.le,h1.lt,λe=>by cases e⟩
theorem aav(s:Str):fH s false (λt=>gC (d_ s t).1) (λt=>(d_ s t).2) (λu=>gC (eX s u).1) (λu=>(eX s u).2):=by
 have c4:∀w:Str,w≠lN->w≠kj->w≠mz->w≠mB->idx cg w = -1:=λw h1 h2 N P=>wy λj W x R=>by
  have hm:=cQ R;simp only[cg,cE,jN,lG]at hm;rcases hm with rfl|rfl|rfl|rfl
  ·exact lI h1
  ·exact lI P
  ·exact lI N
  exact lI h2
 refine⟨λt u h=>?_,λt u h=>?_⟩
 ·have hp:=Z1 s t (by rw[h.pos];exact h.le);have A:=gu s u (by have:=h.le;omega);have m:=JP s u A.lt;have hw:=pq s _ A.lt;rcases Kh h with⟨o,q,T⟩|⟨o,q⟩
  ·by_cases g:aJ s (ae s u)=[]
   ·right;have e:bN s cg t = -1:=by unfold bN;rw[o,g];decide
    refine .of ?_ hp.lt m.lt ?_
    ·unfold d_;simp only[e];unfold bc;simp[T g]
    unfold eX;simp only[g];simp[lN,kj,mz,mB]
   have B:=q g;have hV:bN s cg t=idx cg (aJ s (ae s u)):=by unfold bN;rw[o]
   have i:0<=idx cg (aJ s (ae s u))->bc s cg t=bm s t:=λh0=>by
    unfold bc;rw[o];simp[h0]
   by_cases q1:aJ s (ae s u)=lN
   ·have e:idx cg lN=0:=by decide
    rw[q1]at hV i;left;unfold d_ eX;simp only[hV,e,i (by rw[e];decide),q1];simp;exact B
   by_cases q2:aJ s (ae s u)=kj
   ·have e:idx cg kj=3:=by decide
    have y:¬kj=lN:=by decide
    rw[q2]at hV i;left;unfold d_ eX;simp only[hV,e,i (by rw[e];decide),q2,y];simp;exact B
   by_cases q3:aJ s (ae s u)=mz
   ·have e:idx cg mz=2:=by decide
    have y:¬mz=lN:=by decide
    have G:¬mz=kj:=by decide
    rw[q3]at hV i;unfold d_ eX;simp only[hV,e,i (by rw[e];decide),q3,y,G,bt,bH];exact((Kg s false).map (λx=>gC (16,.psl (iE x),0,.D))).go _ _ B
   by_cases C:aJ s (ae s u)=mB
   ·have e:idx cg mB=1:=by decide
    have y:¬mB=lN:=by decide
    have G:¬mB=kj:=by decide
    have U:¬mB=mz:=by decide
    have V:¬(1:Int)=2:=by decide
    rw[C]at hV i;unfold d_ eX;simp only[hV,e,i (by rw[e];decide),C,y,G,U,V,bt,bH];exact(((Kg s false).seq ((jA s).seq (abt s))).map (λx=>gC (15,.psl (iE x.1),x.2.1,.psl x.2.2))).go _ _ B
   right;have e:=c4 _ q1 q2 q3 C;refine .of ?_ hp.lt m.lt ?_
   ·unfold d_;simp only[hV,e];unfold bc;rw[o,e];simp
   unfold eX;simp[q1,q2,q3,C]
  right;refine .of ?_ hp.lt m.lt ?_
  ·have J:(bc s cg t).ok=false:=by unfold bc;simp[o]
   have M:=rB s cg t (by rw[h.pos];exact h.le);have d:=tY s _ M.lt;unfold d_;simp only;split
   ·exact d.nok J
   split
   ·exact(ud s _ _ _ (lK s _ d.lt).lt).nok ((lK s _ d.lt).nok (d.nok J))
   exact J
  unfold eX;have d:=tZ s _ hw.lt;simp only;split
  ·exact q
  split
  ·exact q
  split
  ·exact d.bb q
  split
  ·exact(oQ s _ _ _ (jP s _ d.lt).1.lt).bb ((jP s _ d.lt).1.bb (d.bb q))
  rfl
 have hp:=Z1 s t h.lt;have A:=gu s u h.ru;have m:=JP s u A.lt;exact .of (hp.nok h.ok) hp.lt m.lt (m.bb (pc h.off))
open Go.Lib (decodeL decodeL_width decodeL_le encodeRune encode_decode decodeL_ascii)
def pkN:List Str:=dS.drop 1
def mU(i:Nat)(x:Str×Nat):Str×Nat:=
 if x.1.take ((bl.getD i [])++[43]).length=(bl.getD i [])++[43]then(x.1.drop ((bl.getD i [])++[43]).length,x.2+2^i)else x
def db(w:Str):Nat->Str×Nat
 |0=>(w,0)
 |i+1=>mU i (db w i)
def mP(c:Int):Bool:=decide (32<=c/\c<=1114111/\(c<55296\/57343<c)/\(c<65\/90<c))
def eY(r:Str):Nat×Nat:=if r=[]then(65533,0)else decodeL r
def jo(r:Str):Bool:=decide ((eY r).2=r.length/\(eY r).2≠0/\¬((eY r).1=65533/\(eY r).2=1)/\(eY r).1≠32)&&mP (eY r).1
def dz(w:Str):Int×Int×Bool:=
 if 0<=idx pkN (db w 4).1 then(1+idx pkN (db w 4).1,((db w 4).2:Int),true)
 else if(db w 4).1=jS then(32,((db w 4).2:Int),true)
 else if jo (db w 4).1=true then(((eY (db w 4).1).1:Int),((db w 4).2:Int),true)else(0,0,false)
theorem P'(r:Str):(∃k:Nat,1<=k/\k<=23/\kB r 23=(k:Int)/\idx pkN r=(k:Int)-1/\dS.getD k []=r/\r≠jS)\/(kB r 23=0/\idx pkN r = -1):=by
 by_cases h:r∈pkN
 ·left;simp only[pkN,dS,tR,rq,cE,jN,lG]at h;rcases h with rfl|rfl|rfl|rfl|rfl|rfl|rfl|rfl|rfl|rfl|rfl|rfl|rfl|rfl|rfl|rfl|rfl|rfl|rfl|rfl|rfl|rfl|rfl
  ·exact⟨1,by decide⟩
  ·exact⟨2,by decide⟩
  ·exact⟨3,by decide⟩
  ·exact⟨4,by decide⟩
  ·exact⟨5,by decide⟩
  ·exact⟨6,by decide⟩
  ·exact⟨7,by decide⟩
  ·exact⟨8,by decide⟩
  ·exact⟨9,by decide⟩
  ·exact⟨10,by decide⟩
  ·exact⟨11,by decide⟩
  ·exact⟨12,by decide⟩
  ·exact⟨13,by decide⟩
  ·exact⟨14,by decide⟩
  ·exact⟨15,by decide⟩
  ·exact⟨16,by decide⟩
  ·exact⟨17,by decide⟩
  ·exact⟨18,by decide⟩
  ·exact⟨19,by decide⟩
  ·exact⟨20,by decide⟩
  ·exact⟨21,by decide⟩
  ·exact⟨22,by decide⟩
  exact⟨23,by decide⟩
 right;constructor
 ·have key:∀k,k<=23->kB r k=0:=by
   intro k;induction k with
   |zero=>intro _;rfl
   |succ k d=>
    intro m;unfold kB;rw[O,d (by omega)];intro e;apply h;rw[<-e];unfold pkN;have g:k+1<dS.length:=by show k+1<24;omega
    rw[gF,bF g];simp only[Option.getD_some];have:dS[k+1]=(dS.drop 1)[k]'(by rw[bW];show k<24-1;omega):=by
     rw[List.getElem_drop];congr 1;omega
    rw[this];exact gG _
  exact key 23 (ay _)
 exact wy λj o x i e=>h (by rw[<-e];exact cQ i)
theorem N1(w:Str):∀i,(dC w i).2<2^i
 |0=>by simp[dC]
 |i+1=>by
  have:=N1 w i;have e:2^(i+1)=2^i*2:=tP 2 i;unfold dC qJ;split
  ·simp only;omega
  omega
theorem Ma(w:Str):∀i,i<=4->db w i=dC w i\/((db w i).1=[]/\∃j,j<i/\(dC w i).1=(bl.getD j [])++[43])
 |0,_=>.inl rfl
 |i+1,hi=>by
  have hm:∀i,i<4->∀j,j<i->¬(((bl.getD i [])++[43]).length<((bl.getD j [])++[43]).length/\((bl.getD j [])++[43]).take ((bl.getD i [])++[43]).length=(bl.getD i [])++[43]):=by decide
  rcases Ma w i (by omega)with h|⟨h1,j,m,h2⟩
  ·unfold db dC mU qJ;rw[h];generalize dC w i=x at*;by_cases d:x.1.take ((bl.getD i [])++[43]).length=(bl.getD i [])++[43]
   ·rw[Z d];by_cases g:((bl.getD i [])++[43]).length<x.1.length
    ·rw[Z ⟨g,d⟩];exact .inl rfl
    rw[O λe=>g e.1];right;rw[dH (by omega)]at d;refine⟨?_,i,by omega,d⟩;simp only;exact gp (by omega)
   rw[O d,O λe=>d e.2];exact .inl rfl
  right;unfold db dC mU qJ;rw[h1,h2,O (by simp),O (hm i (by omega) j m)];exact⟨h1,j,by omega,h2⟩
theorem Z5(r:Str)(d:r≠[]):(ak r).length=1↔(decodeL r).2=r.length:=by
 have hw:=decodeL_width r;have hle:=decodeL_le r d;rw[p7 r d];simp only[aF];constructor
 ·intro h;have h0:ak (r.drop (decodeL r).2)=[]:=fQ (by omega);by_cases e:r.drop (decodeL r).2=[]
  ·have:=congrArg List.length e;rw[bW,bz]at this;omega
  rw[p7 _ e]at h0;cases h0
 intro h;rw[h,tT,vY];rfl
theorem ZE(w:Str):(dz w).2.2=(dU w).2.2/\((dz w).2.2=true->dz w=dU w):=by
 have J:=N1 w 4;rcases Ma w 4 (ay _)with h|⟨h1,j,N,h2⟩
 ·unfold dz dU;rw[h];generalize dC w 4=x at*;obtain⟨r,m⟩:=x;simp only at J ⊢;rcases P' r with⟨k,k1,k2,R,k4,T,U⟩|⟨k1,k2⟩
  ·have y:jV r=(k:Int):=by
    unfold jV;simp only;rw[O U,R,ifn]
   have g:ga (k:Int) m=true:=by
    rw[kQ];simp;omega
   have i:eQ (k:Int)=r:=by
    unfold eQ;rw[ifp];simpa using T
   have V:decide ((0:Int)<k)=true:=by simp;omega
   rw[y,g,i,V,k4,ifp];simp;omega
  rw[k2,ifn];by_cases hs:r=jS
  ·have y:jV r=32:=by
    unfold jV;simp only;rw[Z hs];rfl
   have g:ga 32 m=true:=by
    rw[kQ];simp;omega
   have i:eQ 32=r:=by rw[hs];rfl
   rw[Z hs,y,g,i];simp
  rw[O hs];have y:jV r=if(ak r).length=1/\32<(ak r).headD 0 then(ak r).headD 0 else 0:=by
   unfold jV;simp only;rw[O hs,k1];simp
  by_cases o:r=[]
  ·subst o;have g:jo []=false:=by decide
   rw[g,y];simp[vY]
  have hw:=decodeL_width r;have B:eY r=decodeL r:=by unfold eY;rw[O o]
  have W:(ak r).headD 0=((decodeL r).1:Int):=by rw[p7 r o];rfl
  rw[y,W];by_cases A:(decodeL r).2=r.length
  ·by_cases C:(32:Int)<((decodeL r).1:Int)
   ·rw[Z (show(ak r).length=1/\(32:Int)<((decodeL r).1:Int)from⟨(Z5 r o).2 A,C⟩)];have P:eQ ((decodeL r).1:Int)=e_ ((decodeL r).1:Int):=by
     unfold eQ;rw[ifn,ifn]
    by_cases d:(decodeL r).1=65533/\(decodeL r).2=1
    ·have g:jo r=false:=by unfold jo;rw[B];simp[d]
     have i:(e_ ((decodeL r).1:Int)==r)=false:=by
      have e0:e_ ((65533:Nat):Int)=[239,191,189]:=by rw[nR];rfl
      rw[d.1,e0];have:r.length=1:=by omega
      cases hq:([239,191,189]:Str)==r
      ·rfl
      have:([239,191,189]:Str)=r:=by simpa using hq
      have G:=A;rw[d.2,<-this]at G;simp at G
     rw[g,P,i];simp
    have i:e_ ((decodeL r).1:Int)=r:=by
     rw[nR,encode_decode r o d,A,oM]
    have g:jo r=ga ((decodeL r).1:Int) m:=by
     rw[kQ];unfold jo mP;rw[B];have c1:(decodeL r).1≠32:=by omega
     have c2:(decodeL r).2≠0:=by
      have:=j5.2 o;omega
     rw[<-zS];apply pY.2;constructor
     ·rintro⟨_,q⟩;omega
     intro q;exact⟨⟨A,c2,d,c1⟩,by omega⟩
    rw[P,i,g,B];have e6:decide ((0:Int)<((decodeL r).1:Int))=true:=by simp;omega
    rw[e6];cases hv:ga ((decodeL r).1:Int) m
    ·simp
    simp
   rw[O (show ¬((ak r).length=1/\(32:Int)<((decodeL r).1:Int))from λe=>C e.2)];have g:jo r=false:=by
    unfold jo mP;rw[B];by_cases M:(decodeL r).1=32
    ·simp[M]
    have:¬(32:Int)<=((decodeL r).1:Int):=by omega
    simp[this]
   rw[g];simp
  rw[O (show ¬((ak r).length=1/\(32:Int)<((decodeL r).1:Int))from λe=>A ((Z5 r o).1 e.1))];have g:jo r=false:=by unfold jo;rw[B];simp[A]
  rw[g];simp
 have eP:dz w=(0,0,false):=by
  unfold dz;rw[h1];have a1:¬0<=idx pkN []:=by decide
  have a2:¬([]:Str)=jS:=by decide
  have a3:¬jo []=true:=by decide
  rw[O a1,O a2,O a3]
 have eR:(dU w).2.2=false:=by
  unfold dU;rw[h2];generalize(dC w 4).2=m;have hk:jV (bl.getD j []++[43])=0:=by
   have two:∀(a b:UInt8) (l:Str),a.toNat<128->¬(ak (a::b::l)).length=1:=λa b l ha e=>by
    rw[p7 _ (by simp),decodeL_ascii a (b::l) ha]at e;simp only[aF,tR,rq]at e;rw[p7 _ (by simp)]at e;simp at e
   have nm:∀j,j<4->kB (bl.getD j []++[43]) 23=0/\¬bl.getD j []++[43]=jS/\∃a b l,bl.getD j []++[43]=a::b::l/\a.toNat<128:=by
    intro j N;have:j=0\/j=1\/j=2\/j=3:=by omega
    rcases this with rfl|rfl|rfl|rfl
    ·exact⟨by decide,by decide,_,_,_,rfl,by decide⟩
    ·exact⟨by decide,by decide,_,_,_,rfl,by decide⟩
    ·exact⟨by decide,by decide,_,_,_,rfl,by decide⟩
    exact⟨by decide,by decide,_,_,_,rfl,by decide⟩
   obtain⟨n1,n2,a,b,l,n3,n4⟩:=nm j N;unfold jV;simp only;rw[O n2,n1,n3];rw[O λe=>two a b l n4 e.2.1]
  rw[hk];simp
 rw[eP,eR];simp
def gY(w:Str):Bool:=decide (w.length<=100)&&(dz w).2.2
def nw(s:Str)(t:PS):LA:=if gY (b9 s t)=true then [I (dz (b9 s t)).1,I (dz (b9 s t)).2.1]else [I 0,I 0]
def kF(s:Str)(t:PS):PS:=⟨(bm s t).pos,(bm s t).first,(bm s t).ok&&gY (b9 s t)⟩
def rKT(s:Str)(u:RS):RS:=bL (a_ s (ae s u)) (oi (aJ s (ae s u)))
def rKV(s:Str)(u:RS):LA:=if(rKT s u).bad=true then [I 0,I 0]else ma (aJ s (ae s u))
theorem MI(w:Str):oi w = !(gY w):=by
 have h:=(ZE w).1;unfold oi gY ph lf;rw[h];by_cases e:w.length<=100
 ·have d:¬100<w.length:=by omega
  cases hs:(dU w).2.2
  ·simp[e,d]
  simp[e,d]
 have d:100<w.length:=by omega
 simp[e,d]
theorem v?(s:Str):fH s false (nw s) (kF s) (rKV s) (rKT s):=by
 refine⟨λt u h=>?_,λt u h=>?_⟩
 ·have o:=oS s t (by rw[h.pos];exact h.le);have w:=gu s u (by have:=h.le;omega);have q:=pq s _ w.lt;rcases Kh h with⟨e,i,y⟩|⟨e,i⟩
  ·by_cases d:gY (b9 s t)=true/\aJ s (ae s u)≠[]
   ·left;obtain⟨d,hw⟩:=d;have g:=i hw;have m:oi (aJ s (ae s u))=false:=by rw[MI,<-e,d];rfl
    have hb:(rKT s u).bad=false:=by unfold rKT bL;simp only;rw[g.bad,m];rfl
    refine⟨⟨?_,hb,g.pos,g.le,g.first⟩,?_⟩
    ·unfold kF;simp only;rw[g.ok,d];rfl
    unfold nw rKV;rw[Z d,hb];simp only[dT,bH];have hs:(dz (b9 s t)).2.2=true:=by
     unfold gY at d;simp only[aI]at d;exact d.2
    rw[(ZE _).2 hs,e];rfl
   right;refine .of ?_ o.lt q.lt ?_
   ·unfold kF;by_cases hw:aJ s (ae s u)=[]
    ·simp[y hw]
    have:gY (b9 s t)=false:=by
     cases j:gY (b9 s t)
     ·rfl
     exact absurd ⟨j,hw⟩ d
    simp[this]
   unfold rKT bL;rw[MI,<-e];by_cases hw:aJ s (ae s u)=[]
   ·have:gY (b9 s t)=false:=by rw[e,hw];decide
    simp[this]
   have:gY (b9 s t)=false:=by
    cases j:gY (b9 s t)
    ·rfl
    exact absurd ⟨j,hw⟩ d
   simp[this]
  right;refine .of ?_ o.lt q.lt ?_
  ·unfold kF;simp[e]
  unfold rKT bL;simp[i]
 obtain⟨h1,h2,A,B⟩:=K0 h;refine .of ?_ A B ?_
 ·unfold kF;simp[h1]
 unfold rKT bL;simp[h2]
def pN(s:Str)(t:PS):List AV×PS:=(stN (stN (stN zIn 0 [I 2]) 7 (nw s t)) 9 [I (dB s (kF s t))],bK s (kF s t))
theorem abO(s:Str):fH s false (λt=>(pN s t).1) (λt=>(pN s t).2) (λu=>(rb s u).1) (λu=>(rb s u).2):=
 ((v? s).seq (jA s)).map (λx=>stN (stN (stN zIn 0 [I 2]) 7 x.1) 9 [I x.2]) |>.same (λt=>rfl) (λt=>rfl) (λu=>by
  show stN (if(rKT s u).bad=true then stN zIn 0 [I 2]else stN (stN zIn 0 [I 2]) 7 (ma (aJ s (ae s u)))) 9 [I (dR s (rKT s u))]=stN (stN (stN zIn 0 [I 2]) 7 (rKV s u)) 9 [I (dR s (rKT s u))]
  unfold rKV;split
  ·rfl
  rfl) (λu=>rfl)
def fN(s:Str):List AV×PS:=
 let k:=bN s bC ⟨0,true,true⟩
 let t:=bc s bC ⟨0,true,true⟩
 if k=0 then rh s t else if k=1 then pN s t else if k=2 then sx s t else if k=3 then sJ s t else if k=4 then sy s t
 else if k=5 then qK s t else if k=6 then oq s t else if k=7 then(gC (d_ s t).1,(d_ s t).2)else(zIn,t)
def jq(s:Str):List AV×RS:=
 let w:=aJ s ⟨0,false⟩
 let t:=a_ s ⟨0,false⟩
 if w=ja then q_ s t else if w=gX then rb s t else if w=gI then tb s t else if w=jj then sZ s t else if w=jh then sH s t
 else if w=cK then qS s t else if w=jc then ow s t else if w=iI then(gC (eX s t).1,(eX s t).2)else(zIn,⟨t.pos,true⟩)
def gD(s:Str):Bool:=(fN s).2.ok&&decide ((fN s).2.pos=s.length)
def oI(s:Str):Bool:= !(jq s).2.bad&&decide (s.length<=(jq s).2.pos)
theorem abK{a b:LA}(h:(At s t u/\a=b)\/jK s false t u):(t.ok&&decide (t.pos=s.length))=(!u.bad&&decide (s.length<=u.pos))/\((t.ok&&decide (t.pos=s.length))=true->a=b):=by
 rcases h with⟨h1,h2⟩|h
 ·refine⟨?_,λ_=>h2⟩;rw[h1.ok,h1.bad,h1.pos];have:=h1.le;simp only[p5,Bool.not_false,pY];omega
 rw[h.ok];refine⟨?_,λe=>by simp at e⟩;rcases h.off with h1|⟨c,h1,_⟩
 ·rw[h1];rfl
 have:=(aL.1 h1).1;have:¬s.length<=u.pos:=by omega
 simp[this]
theorem L6(s:Str):gD s=oI s/\(gD s=true->(fN s).1=(jq s).1):=by
 unfold gD oI;have M:b9 s ⟨0,true,true⟩=aJ s ⟨0,false⟩:=rfl;have T:bm s ⟨0,true,true⟩=⟨(aJ s ⟨0,false⟩).length,false, !(aJ s ⟨0,false⟩).isEmpty⟩:=by
  show PS.mk (0+(bX s false ⟨0,false,true⟩).length) false (true && !(bX s false ⟨0,false,true⟩).isEmpty)=_
  rw[j4,p5];rfl
 have N:(aJ s ⟨0,false⟩).length<=s.length:=by
  have:=ln (aH false) (s.drop 0);rw[rq]at this;exact this
 have P:a_ s ⟨0,false⟩=⟨(aJ s ⟨0,false⟩).length,false⟩:=by unfold a_;simp
 have U:bN s bC ⟨0,true,true⟩=idx bC (aJ s ⟨0,false⟩):=by unfold bN;rw[M]
 have R:bc s bC ⟨0,true,true⟩=⟨(aJ s ⟨0,false⟩).length,false, !(aJ s ⟨0,false⟩).isEmpty&&decide (0<=idx bC (aJ s ⟨0,false⟩))⟩:=by unfold bc;rw[M,T]
 have i:∀w,aJ s ⟨0,false⟩=w->w.isEmpty=false->0<=idx bC w->At s (bc s bC ⟨0,true,true⟩) (a_ s ⟨0,false⟩):=λw e h1 h2=>by
  rw[R,P,e,h1];exact⟨by simp[h2],rfl,rfl,by rw[<-e];exact N,rfl⟩
 have nx:∀w:Str,w≠ja->w≠gX->w≠gI->w≠jj->w≠jh->w≠cK->w≠jc->w≠iI->idx bC w = -1:=λw h1 h2 q y A B C G=>wy λj hj x V=>by
  have hm:=cQ V;simp only[bC,cE,jN,lG]at hm;rcases hm with rfl|rfl|rfl|rfl|rfl|rfl|rfl|rfl<;>apply lI<;>assumption
 apply abK;unfold fN jq;simp only;rw[U];generalize hw:aJ s ⟨0,false⟩=w at*;by_cases h1:w=ja
 ·subst h1;have e:idx bC ja=0:=by decide
  simp only[e,bt];exact(aaC s).go _ _ (i _ rfl (by decide) (by decide))
 by_cases h2:w=gX
 ·subst h2;have e:idx bC gX=1:=by decide
  have n1:¬gX=ja:=by decide
  simp only[e,n1,bt,bH,show ¬(1:Int)=0 by decide];exact(abO s).go _ _ (i _ rfl (by decide) (by decide))
 by_cases q:w=gI
 ·subst q;have e:idx bC gI=2:=by decide
  have n1:¬gI=ja:=by decide
  have d:¬gI=gX:=by decide
  simp only[e,n1,d,bt,bH,show ¬(2:Int)=0 by decide,show ¬(2:Int)=1 by decide];exact(aam s).go _ _ (i _ rfl (by decide) (by decide))
 by_cases y:w=jj
 ·subst y;have e:idx bC jj=3:=by decide
  have n1:¬jj=ja:=by decide
  have d:¬jj=gX:=by decide
  have g:¬jj=gI:=by decide
  simp only[e,n1,d,g,bt,bH,show ¬(3:Int)=0 by decide,show ¬(3:Int)=1 by decide,show ¬(3:Int)=2 by decide];exact(aab s).go _ _ (i _ rfl (by decide) (by decide))
 by_cases A:w=jh
 ·subst A;have e:idx bC jh=4:=by decide
  have n1:¬jh=ja:=by decide
  have d:¬jh=gX:=by decide
  have g:¬jh=gI:=by decide
  have m:¬jh=jj:=by decide
  simp only[e,n1,d,g,m,bt,bH,show ¬(4:Int)=0 by decide,show ¬(4:Int)=1 by decide,show ¬(4:Int)=2 by decide,show ¬(4:Int)=3 by decide];exact(M? s).go _ _ (i _ rfl (by decide) (by decide))
 by_cases B:w=cK
 ·subst B;have e:idx bC cK=5:=by decide
  have n1:¬cK=ja:=by decide
  have d:¬cK=gX:=by decide
  have g:¬cK=gI:=by decide
  have m:¬cK=jj:=by decide
  have o:¬cK=jh:=by decide
  simp only[e,n1,d,g,m,o,bt,bH,show ¬(5:Int)=0 by decide,show ¬(5:Int)=1 by decide,show ¬(5:Int)=2 by decide,show ¬(5:Int)=3 by decide,show ¬(5:Int)=4 by decide];exact(aap s).go _ _ (i _ rfl (by decide) (by decide))
 by_cases C:w=jc
 ·subst C;have e:idx bC jc=6:=by decide
  have n1:¬jc=ja:=by decide
  have d:¬jc=gX:=by decide
  have g:¬jc=gI:=by decide
  have m:¬jc=jj:=by decide
  have o:¬jc=jh:=by decide
  have J:¬jc=cK:=by decide
  simp only[e,n1,d,g,m,o,J,bt,bH,show ¬(6:Int)=0 by decide,show ¬(6:Int)=1 by decide,show ¬(6:Int)=2 by decide,show ¬(6:Int)=3 by decide,show ¬(6:Int)=4 by decide,show ¬(6:Int)=5 by decide];exact(W' s).go _ _ (i _ rfl (by decide) (by decide))
 by_cases G:w=iI
 ·subst G;have e:idx bC iI=7:=by decide
  have n1:¬iI=ja:=by decide
  have d:¬iI=gX:=by decide
  have g:¬iI=gI:=by decide
  have m:¬iI=jj:=by decide
  have o:¬iI=jh:=by decide
  have J:¬iI=cK:=by decide
  have W:¬iI=jc:=by decide
  simp only[e,n1,d,g,m,o,J,W,bt,bH,show ¬(7:Int)=0 by decide,show ¬(7:Int)=1 by decide,show ¬(7:Int)=2 by decide,show ¬(7:Int)=3 by decide,show ¬(7:Int)=4 by decide,show ¬(7:Int)=5 by decide,show ¬(7:Int)=6 by decide];exact(aav s).go _ _ (i _ rfl (by decide) (by decide))
 right;have e:=nx w h1 h2 q y A B C G;simp only[h1,h2,q,y,A,B,C,G,e,bH,show ¬(-1:Int)=0 by decide,show ¬(-1:Int)=1 by decide,show ¬(-1:Int)=2 by decide,show ¬(-1:Int)=3 by decide,show ¬(-1:Int)=4 by decide,show ¬(-1:Int)=5 by decide,show ¬(-1:Int)=6 by decide,show ¬(-1:Int)=7 by decide];rw[R,P,e];exact .of (by simp) (by simp only;exact N) (by simp only;omega) rfl
def prs(d:Str->LA)(e:Str->Bool):Nat->Str->List (LA)->Option (List (LA))×Nat×Int
 |0,_,out=>(some out,out.length,0)
 |n+1,s,out=>
  if s=[]then(some out,out.length,0)
  else if 200<=out.length then(none,out.length,2)
  else if e (s.takeWhile (· != 10))=true/\(s.takeWhile (· != 10)).length<s.length then prs d e n (s.drop ((s.takeWhile (· != 10)).length+1)) (out++[d (s.takeWhile (· != 10))])
  else(none,out.length,3)
def yF(s:Str):Option (List (LA))×Nat×Int:=prs (λl=>(fN l).1) gD s.length s []
open Tryz
variable {h1:AH}
theorem af_(L:LR h h1 s (a_ s ⟨0,false⟩) zIn):LG h h1 s (aJ s ⟨0,false⟩) (jq s):=by
 unfold jq;simp only;generalize a_ s ⟨0,false⟩=t at*;generalize aJ s ⟨0,false⟩=w at*;split
 ·subst w;exact agf L
 split
 ·subst w;exact agj L
 split
 ·subst w;exact afO L
 split
 ·subst w;exact aeT L
 split
 ·subst w;exact aew L
 split
 ·subst w;exact afL L
 split
 ·subst w;exact ag2 L
 split
 ·subst w;exact Y! L
 apply ad4 L<;>assumption
theorem K!(s:Str):(jq s).2.pos<=s.length+1:=by
 have d:∀t:RS,t.pos<=s.length+1->(bA s t).pos<=s.length+1:=λt e=>(jP s t e).1.lt
 have g:∀t:RS,t.pos<=s.length+1->(ae s t).pos<=s.length+1:=λt e=>Bc e
 have i:∀t:RS,t.pos<=s.length+1->(a_ s t).pos<=s.length+1:=λt e=>(pq s t e).lt
 have m:∀t:RS,t.pos<=s.length+1->(jF s t).pos<=s.length+1:=λt e=>(tZ s t e).lt
 have j:∀(t:RS) (b:Bool),t.pos<=s.length+1->(bL t b).pos<=s.length+1:=λt b e=>e
 have h0:(a_ s ⟨0,false⟩).pos<=s.length+1:=i _ (by simp);unfold jq;simp only;generalize a_ s ⟨0,false⟩=t at*;split
 ·exact d _ (d _ (d _ (d _ (d _ (j _ _ (i _ (g _ h0)))))))
 split
 ·exact d _ (j _ _ (i _ (g _ h0)))
 split
 ·exact d _ h0
 split
 ·exact d _ (d _ h0)
 split
 ·exact d _ (j _ _ (i _ (g _ (i _ (g _ h0)))))
 split
 ·exact(rA s _ _ _ h0).lt
 split
 ·exact m _ (d _ (d _ (j _ _ (i _ (g _ (d _ (d _ h0)))))))
 split
 ·exact(JP s t (g _ h0)).lt
 exact h0
variable {H:AH}{b:Bool}
theorem Kq{c d:LA}(h:bU H b c d):Frz H b (.agg c) (.agg d):=by
 have:=(dW _ _ _ _).1 h;exact .agg _ _ this.1 this.2
theorem abX(s:Str)(J:s.length<=1000000000):ab prog 25 [.str s] h (.tup [.agg (jq s).1,.bool (oI s)]) h:=by
 refine fU (C25 ?_);simp[g25];have y:L3 h (((h.add (.cells zIn)).add (.cells (rdC ⟨s,⟨0,false⟩⟩))).add (.cells zIn)) (rdC ⟨s,⟨0,false⟩⟩) zIn:=by
  refine⟨?_,?_,cas,by simp,λi hi=>?_,rfl,rfl⟩
  ·rw[can (by simp;omega),can];exact cas
  ·rw[can];exact cas
  rw[gan,gan,gan]
 change tU prog 46 [.ptr (h.nx+1) 0] (((h.add (.cells zIn)).add (.cells (rdC ⟨s,⟨0,false⟩⟩))).add (.cells zIn)) (λv h_1=>qz (lR (.ptr h.nx 0) (.ptr (h.nx+1) 0) (.ptr (h.nx+2) 0) v h_1) λC h_2=>A2 (aa C 0) (aa C 1) (aa C 2) h_2 _)
 generalize((h.add (.cells zIn)).add (.cells (rdC ⟨s,⟨0,false⟩⟩))).add (.cells zIn)=h1 at*;refine sD (BU (x:=⟨s,⟨0,false⟩⟩) y.a (by have:=y.nx;omega) ⟨⟨J,by simp⟩,by simp⟩) ?_;have B:=y.gM (rdC ⟨s,a_ s ⟨0,false⟩⟩);simp only at B ⊢;generalize h1.set (h.nx+1) (.cells (rdC ⟨s,a_ s ⟨0,false⟩⟩))=h2 at*;refine⟨LM h s (jq s),af_ ⟨B,J,(JG s ⟨0,false⟩ (by simp)).2,fu⟩,?_⟩;unfold oI;have w:=K! s;generalize jq s=LL at*;obtain⟨cs,t⟩:=LL;rintro C o ⟨rfl,c2,q,N⟩;simp only at q N w ⊢;have V:=q.nx;have A:o.E (h.nx+1)=some [.str s,I t.pos,.bool t.bad]:=q.a;have hb:=q.b;have P:=q.r;have d:cut c2 0 37=some c2:=by
  have:=cS (α:=c2) (b:=[]) (n:=37) q.len;rwa [bO]at this
 have g:=q.one;have hlen:=q.len;have j:aP zIn 0 c2=some c2:=by
  rw[nJ (by rw[hlen];decide)];unfold stN;rw[vH,cD,gp (by rw[hlen];decide),bO]
 have T:∀G:AH,G.E h.nx=some zIn->kSt G 37 (.ptr h.nx 0) (.agg c2)=some (.undef,G.set h.nx (.cells c2)):=λG R=>by
  simp[R,j];exact⟨hlen,g⟩
 have e:∀(b:Bool),b=(!t.bad&&decide (s.length<=t.pos))->Frz (fresh ((AH.mk o.H (o.nx+12)).set h.nx (.cells c2)) h.nx) false (.tup [.agg c2,.bool b]) (.tup [.agg cs,.bool (!t.bad&&decide (s.length<=t.pos))])/\h.nx<=((AH.mk o.H (o.nx+12)).set h.nx (.cells c2)).nx/\∀i,i<h.nx->((AH.mk o.H (o.nx+12)).set h.nx (.cells c2)).H.get i=h.H.get i:=λb hb=>by
  subst hb;refine⟨kU (Kq (N _ (by simp) λi h1 h2=>by rw[gsn])) (.bool _),by simp;omega,λi hi=>?_⟩;rw[gsn];exact q.get i hi
 have U:∀c:List AV,((AH.mk o.H (o.nx+12)).set h.nx (.cells c)).E h.nx=some c:=λc=>cse
 cases m:t.bad
 ·rw[m]at A e;have M:=e (decide (s.length<=t.pos)) (by simp);simp[A2,hb,A,d,Dy];refine sD (IP (x:=⟨s,t⟩) (by rw[show rdC ⟨s,t⟩=[.str s,I t.pos,.bool false]by rw[<-m];rfl];exact A) (by show h.nx+1<o.nx+12;omega) ⟨J,w⟩) ?_;simp[hlen,g,P,j,d];simpa using M
 rw[m]at A e;have M:=e false (by simp);simp[A2,hb,A,d,Dy,hlen,g,P,j,d];simpa using M
theorem Jl{a:AV}(h:Frz H false a a):bU H false [a] [a]:=⟨h,trivial⟩
theorem AO(l:List Val)(H:AH):Frz H false (.psl (vCs l)) (.psl (vCs l)):=
 .psl rfl _ _ rfl (λi x y g e=>by rw[g]at e;cases e;rfl) λi x y j c d g e m o=>by
  rw[g]at e;cases e;rw[m]at o;cases o;exact wP l H i x g j c m
theorem V?(s:Str):Cel (jq s).1:=by
 unfold jq q_ rb tb sZ sH qS ow;simp only;generalize a_ s ⟨0,false⟩=t at*;split
 ·exact .p (.p (.p (.p (.p (.p fu)))))
 split
 ·refine Cel.p ?_;split
  ·exact .p fu
  exact .p (.p fu) (by simp[ma])
 split
 ·exact .p (.p fu)
 split
 ·exact .p (.p (.p fu))
 split
 ·exact .p (.p (.p fu))
 split
 ·exact(Cel.p fu).st 15 _ (by simp) rfl λH=>Jl (AO _ H)
 split
 ·exact .p (.p (.p (.p (.p (.p (.p fu))))))
 split
 ·exact⟨rfl,LW _ _,ML _ _⟩
 exact fu
def YR(r:Option (List (LA))×Nat×Int):AV:=.tup [.psl (r.1.getD []),I r.2.1,I r.2.2]
variable {n:Nat}{ys:List (LA)}
theorem Z'(d:∀y∈ys,Cel y)(o:OL 37 hb h' lv ys.length ys.flatten)(g:n<=hb.nx):Frz (fresh h' n) false lv (.psl ys):=
 rS (λy h=>(d y h).len) (λy h H j c e=>((dW _ _ _ _).1 ((d y h).frz H)).2 j c c e e) o g
structure RP(h h':AH)(lv:AV)(out:List (LA)):Prop where
 ol:OL 37 h h' lv out.length out.flatten
 nx:h.nx<=h'.nx
 get:∀i,i<h.nx->h'.H.get i=h.H.get i
 cel:∀y∈out,Cel y
variable {zero cs:LA}
theorem iH(h:zero.length=cs.length):aP zero 0 cs=some cs:=by
 rw[nJ (by omega)];unfold stN;rw[vH,cD,gp (by omega),bO]
theorem ahK{cs zero:LA}(d:cs.length=37)(h1:aM cs=true)(e:zero.length=37):aQ zero [(0,37,.agg cs)]=some cs:=by
 have:=iH (zero:=zero) (cs:=cs) (by omega);simp[aQ,dG,AV.cells,d,this]
variable {z:Nat}{h0:AH}
theorem Nd(o:OL z h0 h lv n cs)(d:AH):bn d lv=some (I n,d):=by
 rcases o with⟨rfl,rfl,_⟩|⟨k,rfl,_⟩
 ·simp[]
 simp[]
theorem abY(h:AH)(L:List Int)(b:Nat)(hb:b<=L.length):kSl h 1 (ints L) none (some (I b)) none=some (ints (L.take b),h):=by
 have:(b:Int)<=L.length:=by omega
 simp[ints,kSl,mH,abd,hJ,this,cj,asl,List.map_take]
def mn(L:List Int):Sr:=⟨L.take 4000,0⟩
theorem acI(L:List Int):(mn L).Ok:=⟨by simp[mn],by simp[mn];omega⟩
theorem agQ(h:AH)(L:List Int)(_:True):ab prog 7 [ints L] h (.ptr h.nx 0) (h.add (.cells (srC (mn L)))):=by
 refine C7 ?_;simp[g7];rw[uh];simp[];by_cases g:(4000:Int)<L.length
 ·have hs:=abY h L 4000 (by omega);refine⟨λe h'=>e=[ints (L.take 4000)]/\h'=h,?_,?_⟩
  ·simp[Iy,g];rw[show(4000:Int)=((4000:Nat):Int)from rfl,hs];simp[]
  rintro e h' ⟨rfl,rfl⟩;have d:aQ [.D,I 0] [(0,1,ints (L.take 4000))]=some [ints (L.take 4000),I 0]:=rfl;simp[IM,d];rfl
 refine⟨λe h'=>e=[ints L]/\h'=h,?_,?_⟩
 ·simp[Iy,g]
 rintro e h' ⟨rfl,rfl⟩;have:L.take 4000=L:=dH (by omega);have d:aQ [.D,I 0] [(0,1,ints L)]=some [ints L,I 0]:=rfl;simp[IM,mn,this,d];rfl
variable {id:Nat}{x:Sr}
theorem abN(n:Int)(e:h.E id=some (srC x))(d:id<h.nx)(g:x.Ok/\0<=n/\n<=1000000000):ab prog 112 [.ptr id 0,I n] h (.bool (nV x n==n-1)) (h.set id (.cells (srC (nS x n)))):=by
 refine fD d (kR _) (ah6 ?_);simp[Y_];refine sD (n_d n e d ⟨g.1,by omega⟩) ?_;simp(disch:=first|go_size|fail)[Rh];exact(Ob.start e).set _
def rwV(x:Sr):Int:=if x.a<x.L.length then x.L.getD x.a 0 else 0
def rwS(x:Sr):Sr:=if x.a<x.L.length then⟨x.L,x.a+1⟩else x
theorem afC(d:x.Ok):(rwS x).Ok:=by
 unfold rwS;split
 ·rename_i h;exact⟨h,d.2⟩
 exact d
theorem agv(q:h.E id=some (srC x))(j:id<h.nx)(A:x.Ok):ab prog 113 [.ptr id 0] h (I (rwV x)) (h.set id (.cells (srC (rwS x)))):=by
 obtain⟨L,a⟩:=x;obtain⟨B,C⟩:=A;simp only at B C;refine fD j (kR _) (ahT ?_);have d:h.E id=some [ints L,I a]:=q;have w:=Ob.start q;simp[YS,d];by_cases h1:a<L.length
 ·have e:¬(L.length:Int)<=a:=by omega
  have g:rwV ⟨L,a⟩=L.getD a 0:=by simp[rwV,h1]
  have i:rwS ⟨L,a⟩=⟨L,a+1⟩:=by simp[rwS,h1]
  have m:=λh=>LJ h L a h1
  rw[g,i];generalize L.getD a 0=y at*;simp(disch:=first|go_size|fail)[Ds,uh,e,d,R8,d];have o:=((w.bump (h.nx+10) (by omega)).set (srC ⟨L,a+1⟩)).bump (h.nx+10+12) (by simp);have G:((a:Int)+1-1)=a:=by omega
  simp(disch:=first|go_size|fail)[Pa,G,m];exact o
 have e:(L.length:Int)<=a:=by omega
 have g:rwV ⟨L,a⟩=0:=by simp[rwV,h1]
 have i:rwS ⟨L,a⟩=⟨L,a⟩:=by simp[rwS,h1]
 rw[g,i];simp[Ds,uh,e];exact w.bump _ (by simp)
def abc:List Int:=[97,98,102,105,88,49,50,32,32,46,44,45,39,34,40,41,91,93,60,33,58,95,37,43,47,9,10,13,0x0B,0x85,0xA0,0xAD,0xB7,0x301,0x5D0,0x5D1,0x5BE,0x5B0,0x600,0x627,0x628,0x633,0x640,0x64B,0x661,0x66A,0x60C,0x61C,0x6F1,0x903,0x905,0x93C,0x1100,0x1161,0x11A8,0xAC00,0xAC01,0x2009,0x200B,0x200C,0x200D,0x200E,0x200F,0x2019,0x2028,0x2029,0x202A,0x202B,0x202C,0x202D,0x202E,0x2060,0x2066,0x2067,0x2068,0x2069,0x2600,0x3000,0x3001,0x300C,0x300D,0x30A2,0x4E00,0xFE0F,0x1F1E6,0x1F1E7,0x1F3FB,0x1F468,0x10FFFF]
def rnC(L:List Int):List (LA):=L.map λn=>[az n]
theorem OG(L:List Int):∀y∈rnC L,y.length=1:=by
 intro y d;obtain⟨n,_,rfl⟩:=eK.1 d;rfl
theorem NA(L:List Int):(rnC L).flatten=L.map az:=by
 induction L with
 |nil=>rfl
 |cons a l d=>simp only[rnC,da,oL]at d ⊢; rw[d];rfl
theorem OD(L:List Int):∀y∈rnC L,∀(H:AH) (j:Nat) (c:AV),y[j]?=some c->Frz H false c c:=by
 intro y e H j c d;obtain⟨n,_,rfl⟩:=eK.1 e;match j with
 |0=>simp at d;subst d;exact .int _ _
 |j+1=>simp at d
variable {L:List Int}
theorem TY(o:OL 1 hb h' lv L.length (L.map az))(d:n<=hb.nx):Frz (fresh h' n) false lv (.psl (rnC L)):=by
 refine rS (OG L) (OD L) ?_ d;rw[NA,show(rnC L).length=L.length by simp[rnC]];exact o
variable {ps:List (Nat×Nat×AV)}{K:QT}
theorem abZ{d:Nat}(e:aQ zero ps=some cs)(g:K (.rsl h.nx 0 d z) (h.add (.cells cs))):wk (o8 h z d zero ps) K:=by
 rw[p?,e];exact g
set_option maxRecDepth 8000 in
theorem agw(_:True):ab prog 111 [] h (.psl (rnC abc)) h:=by
 refine kY (R:=λv h'=>OL 1 h h' v abc.length (abc.map az)/\h.nx<=h'.nx/\∀i,i<h.nx->h'.H.get i=h.H.get i) (ahY ?_) λe h' ⟨h1,h2,d⟩=>⟨TY h1 (ay _),h2,d⟩
 unfold Yu;refine abZ (cs:=abc.map az) (by kernel_rfl) ?_;exact⟨.inr ⟨h.nx,rfl,by decide,ay _,by simp,cas,rfl⟩,by simp,λi hi=>by rw[gan]⟩
def w32(n:Int):Int:=IntKind.i32.wrap n
def ruV(x:Sr):Int:=if nV x 40=39 then w32 (rwV (nS x 40))else abc.getD (nV (nS x 40) 89).toNat 0
def ruS(x:Sr):Sr:=if nV x 40=39 then rwS (nS x 40)else nS (nS x 40) 89
theorem Gs(d:x.Ok):(ruS x).Ok:=by
 unfold ruS;split
 ·exact afC (aN d _)
 exact aN (aN d _) _
theorem acm(h:AH)(L:List Int)(a:Nat)(d:a<L.length):aC h 1 (.psl (rnC L)) (I a)=some (.ai [az (L.getD a 0)],h):=gQ (by simp[rnC,d]) rfl
theorem Um(q:h.E id=some (srC x))(e:id<h.nx)(w:x.Ok):ab prog 80 [.ptr id 0] h (az (ruV x)) (h.set id (.cells (srC (ruS x)))):=by
 refine fD e (kR _) (C80 ?_);have y:=Ob.start q;simp[g80];refine sD (agw trivial) ?_;simp[];refine sD (abN 40 q e ⟨w,by omega,by omega⟩) ?_;have d:=y.set (srC (nS x 40));have j:=aN w 40;generalize h.set id (.cells (srC (nS x 40)))=h2 at*;by_cases g:nV x 40=39
 ·have hb:(nV x 40==40-1)=true:=by rw[g];rfl
  rw[hb];simp[];refine sD (agv d.c (d.lt e) j) ?_;have i:=d.set (srC (rwS (nS x 40)));simp[ruV,ruS,g];exact⟨rfl,i⟩
 have hb:(nV x 40==40-1)=false:=by simp only[beq_eq_false_iff_ne];omega
 rw[hb];have hlen:bn h2 (.psl (rnC abc))=some (I 89,h2):=ag rfl rfl;simp[];refine sD (n_d 89 d.c (d.lt e) ⟨j,by omega⟩) ?_;have i:=d.set (srC (nS (nS x 40) 89));have n1:=dK (nS x 40) 89;have A:=dr (nS x 40) (show(1:Int)<=89 by omega);obtain⟨m,hm⟩:=kL n1;have o:m<abc.length:=by rw[show abc.length=89 from rfl];omega
 generalize h2.set id (.cells (srC (nS (nS x 40) 89)))=B at*;simp[SW];rw[hm,acm _ _ _ o];simp[ruV,ruS,g,hm];exact i
structure GI(h hb h':AH)(id:Nat)(x:Sr)(z:Nat)(lv:AV)(n:Nat)(cs:LA):Prop where
 ob:Ob h h' id (srC x)
 b1:h.nx<=hb.nx
 b2:hb.nx<=h'.nx
 l:OL z hb h' lv n cs
theorem GI.start(z:Nat)(o:Ob h hb id (srC x)):GI h hb hb id x z .D 0 []:=⟨o,o.nx,ay _,OL.start _ _ _⟩
theorem GI.rd(g:GI h hb h' id x z lv n cs)(d:id<h.nx)(y:Sr):GI h hb (h'.set id (.cells (srC y))) id y z lv n cs:=
 ⟨g.ob.set _,g.b1,g.b2,g.l.set (gq d g.b1) _⟩
theorem GI.bump(g:GI h hb h' id x z lv n cs)(d:h'.nx<=k):GI h hb ⟨h'.H,k⟩ id x z lv n cs:=
 ⟨g.ob.bump _ d,g.b1,bf g.b2 d,g.l.bump d⟩
variable {tc:LA}
theorem GI.app(g:GI h hb h' id x z lv n cs)(e:id<h.nx)(bytes:Nat)(j:tc.length=z)(m:aM tc=true)(w:n<=1000000000)(o:bytes<=1000):
  ∃d h2,fy (h'.add (.cells tc)) z bytes lv (.rsl h'.nx 0 1 z)=some (d,h2)/\GI h hb h2 id x z d (n+1) (cs++tc)/\h2.nx=h'.nx+2/\∀i,i<hb.nx->h2.H.get i=h'.H.get i:=by
 obtain⟨d,h2,y,A,B,q⟩:=kt g.l g.b2 j m w o (bytes:=bytes);have C:=g.b1;have G:=g.b2;exact⟨d,h2,y,⟨g.ob.app e (by omega) λi hi=>q i (by omega),g.b1,by omega,A⟩,B,q⟩
def itV{α:Type}(V:Sr->α)(S:Sr->Sr):Nat->Sr->List α
 |0,_=>[]
 |n+1,x=>V x::itV V S n (S x)
def itS(S:Sr->Sr):Nat->Sr->Sr
 |0,x=>x
 |n+1,x=>itS S n (S x)
theorem nW(V:Sr->α)(S:Sr->Sr):∀n x,(itV V S n x).length=n
 |0,_=>rfl
 |n+1,x=>by simp[itV,nW V S n]
variable {S:Sr->Sr}
theorem qw(d:∀x,x.Ok->(S x).Ok):∀n x,x.Ok->(itS S n x).Ok
 |0,_,h=>h
 |n+1,x,h=>qw d n _ (d x h)
def fw5(x:Sr):List Int:=itV ruV ruS 5 x
def qV(x:Sr):Sr:=itS ruS 5 x
def pkV(F:Int)(l:List Int)(x:Sr):Int:=if 0<F then l.getD (nV x 5).toNat 0 else ruV x
def pkS(F:Int)(x:Sr):Sr:=if 0<F then nS x 5 else ruS x
variable {F:Int}
theorem Ul(h:x.Ok):(pkS F x).Ok:=by
 unfold pkS;split
 ·exact aN h _
 exact Gs h
def txK(x:Sr)(n:Int):Int:=nV x (n+1)
def txF(x:Sr)(n:Int):Int:=nV (nS x (n+1)) 3
def txB(x:Sr)(n:Int):Sr:=nS (nS x (n+1)) 3
def txV(x:Sr)(n:Int):List Int:=itV (pkV (txF x n) (fw5 (txB x n))) (pkS (txF x n)) (txK x n).toNat (qV (txB x n))
def txS(x:Sr)(n:Int):Sr:=itS (pkS (txF x n)) (txK x n).toNat (qV (txB x n))
theorem T3(h:x.Ok)(n:Int):(txB x n).Ok:=aN (aN h _) _
theorem EU(h:x.Ok)(n:Int):(txS x n).Ok:=qw (λ_=>Ul) _ _ (qw (λ_=>Gs) _ _ (T3 h n))
theorem acR(x:Sr){n:Int}(d:0<=n):((txV x n).length:Int)<=n:=by
 unfold txV;rw[nW];have h1:=dK x (n+1);have h2:=dr x (show 1<=n+1 by omega);unfold txK;omega
inductive T1(h:AH)(id:Nat)(K F:Int)(ALL:List Int)(END:Sr):Nat->List AV->AH->Prop
 |mk {m:Nat} {h':AH} (x:Sr) (lv:AV) (acc:List Int):x.Ok->acc.length+m=5->acc++itV ruV ruS m x=ALL->itS ruS m x=END->GI h h h' id x 1 lv acc.length (acc.map az)->T1 h id K F ALL END m [.ptr id 0,I K,.D,I F,lv,I acc.length] h'
inductive T2(h hb:AH)(id ks K:Nat)(F:Int)(SM:List Int)(ALL:List Int)(END:Sr):Nat->List AV->AH->Prop
 |mk {m:Nat} {h':AH} (x:Sr) (lv:AV) (acc:List Int):x.Ok->acc.length+m=K->acc++itV (pkV F SM) (pkS F) m x=ALL->itS (pkS F) m x=END->GI h hb h' id x 1 lv acc.length (acc.map az)->h'.E ks=some (SM.map az)->T2 h hb id ks K F SM ALL END m [.ptr id 0,I K,lv,I F,.rsl ks 0 5 1,I acc.length] h'
inductive T2m(h hb:AH)(id ks K:Nat)(F:Int)(SM:List Int)(x:Sr)(acc:List Int)(i:Nat):List AV->AH->Prop
 |mk {h':AH} (lv:AV):GI h hb h' id x 1 lv acc.length (acc.map az)->h'.E ks=some (SM.map az)->T2m h hb id ks K F SM x acc i [.ptr id 0,I K,lv,I F,.rsl ks 0 5 1,I i] h'
theorem uT(h:AH)(k m a:Nat)(d:a<m):aC h 1 (.rsl k 0 m 1) (I a)=some (.ptr k a,h):=by
 have:=gO (h:=h) (z:=1) (id:=k) (off:=0) (len:=m) (i:=a) (by omega) (by omega);simpa using this
variable {a:Nat}
theorem ad1(d:a<L.length):(L.map az)[a]?=some (az (L.getD a 0)):=by simp[d,List.getD]
theorem acC(n:Int)(hc:h.E id=some (srC x))(d:id<h.nx)(j:x.Ok/\0<=n/\n<=1000):ab prog 38 [.ptr id 0,I n] h (.psl (rnC (txV x n))) (h.set id (.cells (srC (txS x n)))):=by
 refine o9 d (kR _) (C38 ?_);obtain⟨j,ad,a8⟩:=j;simp(disch:=first|go_size|fail)[g38];refine sD (n_d (n+1) hc d ⟨j,by omega⟩) ?_;have C:=(Ob.start hc).set (srC (nS x (n+1)));generalize h.set id (.cells (srC (nS x (n+1))))=h1 at*;refine sD (n_d 3 C.c (C.lt d) ⟨aN j _,by omega⟩) ?_;have C:=C.set (srC (nS (nS x (n+1)) 3));generalize h1.set id (.cells (srC (nS (nS x (n+1)) 3)))=h2 at*;have eV:txV x n=itV (pkV (txF x n) (fw5 (txB x n))) (pkS (txF x n)) (txK x n).toNat (qV (txB x n)):=rfl;have eS:txS x n=itS (pkS (txF x n)) (txK x n).toNat (qV (txB x n)):=rfl;have ar:=T3 j n;have A:nV (nS x (n+1)) 3=txF x n:=rfl;have hB:nS (nS x (n+1)) 3=txB x n:=rfl;have av:=dK x (n+1);have aw:=dr x (show 1<=n+1 by omega);have af:nV x (n+1)=((txK x n).toNat:Int):=by unfold txK;omega
 have ba:(txK x n).toNat<=1000:=by unfold txK;omega
 rw[A,af];rw[hB]at C;rw[eV,eS];generalize txB x n=G at*;generalize txF x n=F at*;generalize(txK x n).toNat=K at*;clear eV eS af av aw A hB hc j;refine⟨T1 h id K F (fw5 G) (qV G),5,.mk G .D [] ar rfl rfl rfl (by have:=GI.start 1 C;exact⟨this.ob,ay _,C.nx,OL.start _ _ _⟩),?_⟩;rintro m vs h' ⟨x,lv,acc,j,hm,T,U,g⟩;cases m with
 |succ m=>
  have i:(acc.length:Int)<5:=by omega
  simp(disch:=first|go_size|fail)[HQ,i];refine sD (Um g.ob.c (g.ob.lt d) j) ?_;have g:=g.rd d (ruS x);generalize h'.set id (.cells (srC (ruS x)))=V at*;obtain⟨M,h4,k1,g,_,_⟩:=g.app d 4 (tc:=[az (ruV x)]) rfl rfl (by omega) (by omega);have o:aQ [.int .i32 0] [(0,1,az (ruV x))]=some [az (ruV x)]:=rfl;simp(disch:=first|go_size|fail)[SZ,o,k1];refine⟨m,by omega,?_⟩;have J:((acc.length:Int)+1)=((acc++[ruV x]).length:Nat):=by simp
  rw[J];refine .mk (ruS x) M (acc++[ruV x]) (Gs j) (by simp;omega) (by rw[<-T];simp[itV]) (by rw[<-U];rfl) ?_;simpa using g
 |zero=>
  have i:¬(acc.length:Int)<5:=by omega
  have B:acc=fw5 G:=by rw[<-T];simp[itV]
  have N:x=qV G:=U;simp[HQ,i];obtain⟨aS,bb,bd,gl⟩:=g;rcases gl with⟨_,h0,_⟩|⟨y,rfl,ad,bk,hk,aj,hlen⟩
  ·omega
  have al:acc.length=5:=by omega
  rw[al];rw[B]at aj al;subst N;generalize fw5 G=e at*;generalize qV G=W at*;clear T U B hlen ad i hm;simp[SQ,EZ];refine⟨T2 h h' id y K F e (itV (pkV F e) (pkS F) K W) (itS (pkS F) K W),K,.mk W .D [] j (by simp) rfl rfl (GI.start 1 aS) aj,?_⟩;rintro m vs V ⟨x,lv,acc,j,hm,T,U,g,hs⟩;have an:y≠id:=by omega
  cases m with
  |succ m=>
   have i:(acc.length:Int)<K:=by omega
   simp[EI,i];refine⟨T2m h h' id y K F e (pkS F x) (acc++[pkV F e x]) acc.length,?_,?_⟩
   ·by_cases A:0<F
    ·simp[ED,A];refine sD (n_d 5 g.ob.c (g.ob.lt d) ⟨j,by omega⟩) ?_;have g:=g.rd d (nS x 5);have w:(V.set id (.cells (srC (nS x 5)))).E y=some (e.map az):=by rw[csn an];exact hs
     generalize V.set id (.cells (srC (nS x 5)))=h4 at*;have J:pkV F e x=e.getD (nV x 5).toNat 0:=by unfold pkV;rw[Z A]
     have e2:pkS F x=nS x 5:=by unfold pkS;rw[Z A]
     have n1:=dK x 5;have n2:=dr x (show(1:Int)<=5 by omega);obtain⟨q,hq⟩:=kL n1;have aT:q<5:=by omega
     obtain⟨M,h5,k1,g,a1,P⟩:=g.app d 4 (tc:=[az (pkV F e x)]) rfl rfl (by omega) (by omega);have o:aQ [.int .i32 0] [(0,1,az (pkV F e x))]=some [az (pkV F e x)]:=rfl;have ao:(e.map az)[q]?=some (az (pkV F e x)):=by rw[J,hq];exact ad1 (by omega)
     rw[hq];have a6:=uT h4 y 5 q aT;have R:h5.E y=some (e.map az):=(aV (P y hk)).trans w;rw[<-e2]at g;obtain⟨MM,a7⟩:∃MM,MM=e.map az:=⟨_,rfl⟩;rw[<-a7]at w ao;simp[Xn,a6,w,ao,o,k1];exact .mk _ (by simpa using g) R
    simp[ED,A];refine sD (Um g.ob.c (g.ob.lt d) j) ?_;have g:=g.rd d (ruS x);have w:(V.set id (.cells (srC (ruS x)))).E y=some (e.map az):=by rw[csn an];exact hs
    generalize V.set id (.cells (srC (ruS x)))=h4 at*;have J:pkV F e x=ruV x:=by unfold pkV;rw[O A]
    have e2:pkS F x=ruS x:=by unfold pkS;rw[O A]
    obtain⟨M,h5,k1,g,a1,P⟩:=g.app d 4 (tc:=[az (ruV x)]) rfl rfl (by omega) (by omega);have o:aQ [.int .i32 0] [(0,1,az (ruV x))]=some [az (ruV x)]:=rfl;have R:h5.E y=some (e.map az):=(aV (P y hk)).trans w;rw[<-e2,<-J]at g;simp(disch:=first|go_size|fail)[SV,o,k1];exact .mk _ (by simpa using g) R
   rintro vs h4 ⟨lv,g,hs⟩;simp(disch:=first|go_size|fail)[Tx];refine⟨m,by omega,?_⟩;have J:((acc.length:Int)+1)=((acc++[pkV F e x]).length:Nat):=by simp
   rw[J];exact .mk (pkS F x) lv (acc++[pkV F e x]) (Ul j) (by simp;omega) (by rw[<-T];simp[itV]) (by rw[<-U];rfl) g hs
  |zero=>
   have i:¬(acc.length:Int)<K:=by omega
   simp(disch:=first|go_size|fail)[EI,i,Uc,G8];have B:itV (pkV F e) (pkS F) K W=acc:=by rw[<-T];simp[itV]
   have N:itS (pkS F) K W=x:=U.symm;rw[B,N];exact⟨TY g.l (by omega),g.ob⟩
theorem LY(h:AH)(L:List Int):cU h 1 (.psl (rnC L))=some (L.map az):=by
 have d:(rnC L).all (λx=>x.length==1)=true:=by
  rw[fi];intro y e;simp[OG L y e]
 simp only[cU,d,bt,NA]
theorem nI:∀L:List Int,(bD L).length<=4*L.length
 |[]=>by simp[bD]
 |n::L=>by
  have:=nI L;have h2:=wx n;rw[JE,au,aF];omega
def vdL(L:List Int):List Int:=ak (bD L)
theorem Y?(id:Nat)(L:List Int)(d:L.length<=10000):ab prog 37 [.ptr id 0,.psl (rnC L)] h (.psl (rnC (vdL L))) h:=by
 refine fU (C37 ?_);have h1:=Et (LY h L) (m:=(rnC L).length) rfl;have g:=nI L;have h2:=sk h (bD L) (by omega);simp[g37];rw[h1];simp[];rw[h2];simp[];have e:(ak (bD L)).length=(rnC (ak (bD L))).length:=by simp[rnC]
 refine⟨?_,λi hi=>by rw[gan]⟩;have:=wm (n:=h.nx) (s:=bD L) (vQ h ((ak (bD L)).map az) h.nx rfl) (ay _);exact this
def vdV(x:Sr)(n:Int):List Int:=(vdL (txV x n)).take n.toNat
theorem afE(h:AH)(L:List Int)(b:Nat)(hb:b<=L.length):kSl h 1 (.psl (rnC L)) none (some (I b)) none=some (.psl (rnC (L.take b)),h):=by
 have:(b:Int)<=L.length:=by omega
 simp[rnC,kSl,mH,abd,hJ,this,cj,asl,List.map_take]
theorem abU(h:AH)(L:List Int):bn h (.psl (rnC L))=some (I L.length,h):=by simp[rnC]
theorem yw(L:List Int)(H:AH):Frz H false (.psl (rnC L)) (.psl (rnC L)):=
 .psl rfl _ _ rfl (λi x y g e=>by rw[g]at e;cases e;rfl) λi x y j c d g e m o=>by
  rw[g]at e;cases e;rw[m]at o;cases o;exact OD L x (cQ g) H j c m
theorem L_(n:Int)(i:h.E id=some (srC x))(d:id<h.nx)(e:x.Ok/\0<=n/\n<=1000):ab prog 23 [.ptr id 0,I n] h (.psl (rnC (vdV x n))) (h.set id (.cells (srC (txS x n)))):=by
 refine fD d (kR _) (C23 ?_) (λ_=>yw _ _);simp[g23];refine sD (acC n i d e) ?_;have o:=(Ob.start i).set (srC (txS x n));generalize h.set id (.cells (srC (txS x n)))=h1 at*;have q:=acR x e.2.1;unfold vdV;generalize txV x n=T at*;refine sD (Y? id T (by omega)) ?_;generalize vdL T=V at*;have g:=abU h1 V;simp[g];obtain⟨m,rfl⟩:=kL e.2.1;refine⟨λj h'=>j=[.psl (rnC (V.take m))]/\h'=h1,?_,?_⟩
 ·by_cases hm:(m:Int)<V.length
  ·have hs:=afE h1 V m (by omega);simp[Fy,hm,hs]
  have:V.take m=V:=dH (by omega);simp[Fy,hm,this]
 rintro j h' ⟨rfl,rfl⟩;simp[WV];exact o
def wdB(x:Sr):UInt8:=UInt8.ofNat (97+(nV x 4).toNat)
def wd1(x:Sr):Sr:=nS x 4
def wdV(x:Sr)(n:Int):Str:=itV wdB wd1 (nV x (n+1)).toNat (nS x (n+1))
def wdS(x:Sr)(n:Int):Sr:=itS wd1 (nV x (n+1)).toNat (nS x (n+1))
theorem T7(h:x.Ok)(n:Int):(wdS x n).Ok:=qw (λ_ h=>aN h _) _ _ (aN h _)
theorem adC(x:Sr){n:Int}(d:0<=n):((wdV x n).length:Int)<=n:=by
 unfold wdV;rw[nW];have h1:=dK x (n+1);have h2:=dr x (show 1<=n+1 by omega);omega
inductive W1(h:AH)(id kb K:Nat)(ALL:Str)(END:Sr):Nat->List AV->AH->Prop
 |mk {m:Nat} {h':AH} (x:Sr) (acc:Str):x.Ok->acc.length+m=K->acc++itV wdB wd1 m x=ALL->itS wd1 m x=END->Ob h h' id (srC x)->h'.E kb=some (aK acc++List.replicate m (.int .u8 0))->W1 h id kb K ALL END m [.ptr id 0,I K,.rsl kb 0 K 1,I acc.length] h'
variable {r:LA}
theorem B'{a:LA}{v w:AV}(h:a.length=n):aP (a++w::r) n [v]=some (a++v::r):=by
 subst h;unfold aP;rw[Z (by simp)];simp
theorem Qa(n:Int)(V:h.E id=some (srC x))(e:id<h.nx)(g:x.Ok/\0<=n/\n<=1000):ab prog 35 [.ptr id 0,I n] h (.str (wdV x n)) (h.set id (.cells (srC (wdS x n)))):=by
 refine fD e (kR _) (C35 ?_);obtain⟨g,ad,af⟩:=g;simp(disch:=first|go_size|fail)[g35];refine sD (n_d (n+1) V e ⟨g,by omega⟩) ?_;have d:=(Ob.start V).set (srC (nS x (n+1)));generalize h.set id (.cells (srC (nS x (n+1))))=h1 at*;have aj:=dK x (n+1);have al:=dr x (show 1<=n+1 by omega);have C:nV x (n+1)=((nV x (n+1)).toNat:Int):=by omega
 have an:(nV x (n+1)).toNat<=1000:=by omega
 have G:=aN g (n+1);unfold wdV wdS;generalize(nV x (n+1)).toNat=K at*;generalize nS x (n+1)=o at*;rw[C];have J:kz h1 1 1 [.int .u8 0] (I K) (I K)=some (.rsl h1.nx 0 K 1,h1.add (.cells (List.replicate K (.int .u8 0)))):=by
  have h2:(K:Int)<=9223372036854775807:=by omega
  have y:K<=140737488355328:=by omega
  have A:fI K [AV.int .u8 0]=List.replicate K (.int .u8 0):=by
   unfold fI;induction K with
   |zero=>rfl
   |succ k ih=>simp
  simp[kz,h2,y,A]
 simp[J];have ao:h.nx<=h1.nx:=d.nx;have w:h1.nx≠id:=by omega
 have M:(h1.add (.cells (List.replicate K (.int .u8 0)))).E h1.nx=some (List.replicate K (.int .u8 0)):=cas;have d:=d.new e (h2:=h1.add (.cells (List.replicate K (.int .u8 0)))) (by simp) λi hi=>by rw[gan]
 generalize h1.add (.cells (List.replicate K (.int .u8 0)))=h2 at*;generalize h1.nx=B at*;refine⟨W1 h id B K (itV wdB wd1 K o) (itS wd1 K o),K,.mk o [] G (by simp) rfl rfl d M,?_⟩;rintro m vs y ⟨x,acc,g,hm,W,hE,d,hb⟩;cases m with
 |succ m=>
  have j:(acc.length:Int)<K:=by omega
  simp[Fe,j];refine sD (n_d 4 d.c (d.lt e) ⟨g,by omega⟩) ?_;have d:=d.set (srC (nS x 4));have N:(y.set id (.cells (srC (nS x 4)))).E B=some (aK acc++List.replicate (m+1) (.int .u8 0)):=by rw[csn w];exact hb
  generalize y.set id (.cells (srC (nS x 4)))=A at*;have n1:=dK x 4;have n2:=dr x (show(1:Int)<=4 by omega);have hw:IntKind.u8.wrap (97+nV x 4)=((wdB x).toNat:Int):=by
   unfold wdB;simp only[IntKind.wrap,IntKind.bits,IntKind.signed];simp;omega
  have P:=uT A B K acc.length (by omega);have R:aP (aK acc++List.replicate (m+1) (.int .u8 0)) acc.length [.int .u8 (wdB x).toNat]=some (aK acc ++ .int .u8 (wdB x).toNat::List.replicate m (.int .u8 0)):=by
   rw[List.replicate_succ];exact B' (by simp[aK])
  generalize aK acc++List.replicate (m+1) (.int .u8 0)=CC at*;simp(disch:=first|go_size|fail)[Ws,P,hw,N,R];refine⟨m,by omega,?_⟩;have e1:((acc.length:Int)+1)=((acc++[wdB x]).length:Nat):=by simp
  rw[e1];refine .mk (nS x 4) (acc++[wdB x]) (aN g _) (by simp;omega) (by rw[<-W];simp[itV,wd1]) (by rw[<-hE];rfl) ?_ ?_
  ·exact d.app e (by simp) λi hi=>by
    rw[dQ,O];omega
  rw[cse];simp[aK]
 |zero=>
  have j:¬(acc.length:Int)<K:=by omega
  have T:itV wdB wd1 K o=acc:=by rw[<-W];simp[itV]
  have U:itS wd1 K o=x:=hE.symm;rw[T,U];simp(disch:=first|go_size|fail)[Fe,j];have q:=xm (l:=acc) (by simpa using hb);rw[show acc.length=K by omega]at q;simp[Wx,Gr];rw[q];simp[];exact d
def ji:List Int:=[100,100,50,150,400]
def mdV(x:Sr):LA:=[.bool (nV x 2==1),.bool (nV (nS x 2) 2==1),I (ji.getD (nV (nS (nS x 2) 2) 5).toNat 0)]
def mdS(x:Sr):Sr:=nS (nS (nS x 2) 2) 5
theorem aeN(h:x.Ok):(mdS x).Ok:=aN (aN (aN h _) _) _
theorem Ip(d:a<L.length):(L.map λn=>I n)[a]?=some (I (L.getD a 0)):=by simp[d,List.getD]
theorem AQ{d:LA}(h:bU H false cs d):Frz H false (.agg cs) (.agg d):=by
 rw[dW]at h;exact .agg _ _ h.1 h.2
theorem ab2(x:Sr)(H:AH):bU H false (mdV x) (mdV x):=⟨.bool _,.bool _,.int _ _,trivial⟩
theorem adZ(R:h.E id=some (srC x))(g:id<h.nx)(m:x.Ok):ab prog 21 [.ptr id 0] h (.agg (mdV x)) (h.set id (.cells (srC (mdS x)))):=by
 refine fD g (kR _) (C21 ?_) (λ_=>AQ (ab2 x _));unfold mdV mdS;simp[g21];have e:=(Ob.start R).new g (h2:=h.add (.cells [.bool false,.bool false,I 0])) (by simp) λi hi=>by rw[gan]
 have d:(h.add (.cells [.bool false,.bool false,I 0])).E h.nx=some [.bool false,.bool false,I 0]:=cas;have j:h.nx<(h.add (.cells [.bool false,.bool false,I 0])).nx:=by simp
 generalize h.add (.cells [.bool false,.bool false,I 0])=h1 at*;have y:h.nx≠id:=by omega
 refine sD (n_d 2 e.c (e.lt g) ⟨m,by omega⟩) ?_;have e:=e.set (srC (nS x 2));have d:(h1.set id (.cells (srC (nS x 2)))).E h.nx=some [.bool false,.bool false,I 0]:=by rw[csn y];exact d
 have j:h.nx<(h1.set id (.cells (srC (nS x 2)))).nx:=j;have m:=aN m 2;generalize h1.set id (.cells (srC (nS x 2)))=h2 at*;generalize nV x 2=a at*;generalize nS x 2=B at*;simp[Wj];refine sD (n_d 2 e.c (e.lt g) ⟨m,by omega⟩) ?_;have e:=e.set (srC (nS B 2));have d:(h2.set id (.cells (srC (nS B 2)))).E h.nx=some [.bool false,.bool false,I 0]:=by rw[csn y];exact d
 have j:h.nx<(h2.set id (.cells (srC (nS B 2)))).nx:=j;have m:=aN m 2;generalize h2.set id (.cells (srC (nS B 2)))=o at*;generalize nV B 2=b at*;generalize nS B 2=w at*;have J:aQ [I 0,I 0,I 0,I 0,I 0] [(0,1,(I 100)),(1,1,(I 100)),(2,1,(I 50)),(3,1,(I 150)),(4,1,(I 400))]=some (ji.map λn=>I n):=rfl;unfold T8;simp[J];have e:=e.new g (h2:=o.add (.cells (ji.map λn=>I n))) (by simp) λi hi=>by rw[gan]
 have d:(o.add (.cells (ji.map λn=>I n))).E h.nx=some [.bool false,.bool false,I 0]:=by rw[can];exact d
 have A:(o.add (.cells (ji.map λn=>I n))).E o.nx=some (ji.map λn=>I n):=cas;have C:o.nx≠id:=by omega
 generalize o.add (.cells (ji.map λn=>I n))=G at*;generalize o.nx=P at*;refine sD (n_d 5 e.c (e.lt g) ⟨m,by omega⟩) ?_;have e:=e.set (srC (nS w 5));have d:(G.set id (.cells (srC (nS w 5)))).E h.nx=some [.bool false,.bool false,I 0]:=by rw[csn y];exact d
 have A:(G.set id (.cells (srC (nS w 5)))).E P=some (ji.map λn=>I n):=by rw[csn C];exact A
 have n1:=dK w 5;have V:=dr w (show(1:Int)<=5 by omega);obtain⟨q,T⟩:=kL n1;have M:=Ip (L:=ji) (a:=q) (by show q<5;omega);generalize G.set id (.cells (srC (nS w 5)))=U at*;generalize nS w 5=W at*;rw[T];have N:=uT U P 5 q (by omega);generalize ji.map (λn=>I n)=SS at*;simp[Vz,N,A,M,d];exact e.app g (by simp) λi hi=>by rw[gsn]
def kA:List Int:=[97,107,99,49,32,2,12]
def rf(x:Sr):Int×Int:=(kA.getD (nV x 7).toNat 0,nV (nS x 7) 3)
def mW(x:Sr):Sr:=nS (nS x 7) 3
def chV(x:Sr):List (Int×Int):=itV rf mW (rgV x 1 3).toNat (nS x 3)
def chS(x:Sr):Sr:=itS mW (rgV x 1 3).toNat (nS x 3)
theorem Ow(x:Sr)(h:x.Ok):(mW x).Ok:=aN (aN h _) _
theorem UN(h:x.Ok):(chS x).Ok:=qw Ow _ _ (aN h _)
def chC(l:List (Int×Int)):List (LA):=l.map λp=>[I p.1,I p.2]
theorem adS(l:List (Int×Int)):∀y∈chC l,y.length=2:=by
 intro y d;obtain⟨p,_,rfl⟩:=eK.1 d;rfl
theorem Pv(l:List (Int×Int)):∀y∈chC l,∀(H:AH) (j:Nat) (c:AV),y[j]?=some c->Frz H false c c:=by
 intro y e H j c d;obtain⟨p,_,rfl⟩:=eK.1 e;match j with
 |0=>simp at d;subst d;exact .int _ _
 |1=>simp at d;subst d;exact .int _ _
 |j+2=>simp at d
theorem GI.aid{e:AH}{y:Sr}(g:GI h hb h0 id x z lv n cs)(m:id<h.nx)(o:Ob h e id (srC y))(w:h0.nx<=e.nx)(J:∀i,hb.nx<=i->i<h0.nx->e.H.get i=h0.H.get i)
  (bytes:Nat) {q:Nat} (M:e.E q=some tc) (A:tc.length=z) (B:aM tc=true) (N:n<=1000000000) (C:bytes<=1000):
  ∃d j,fy e z bytes lv (.rsl q 0 1 z)=some (d,j)/\GI h hb j id y z d (n+1) (cs++tc)/\j.nx=e.nx+1/\(∀i,i<hb.nx->j.H.get i=e.H.get i)/\d.one=true:=by
 have G:=g.b1;have R:=g.b2;have l6:OL z hb e lv n cs:=g.l.aY w J;obtain⟨d,j,k1,k2,P,k4⟩:=qf (bytes:=bytes) l6 (by omega) M A B N C;exact⟨d,j,k1,⟨o.app m (by omega) λi hi=>k4 i (by omega),G,by omega,k2⟩,P,k4,kx k2⟩
inductive H1(h hb:AH)(id ks:Nat)(ALL:List (Int×Int))(END:Sr):Nat->List AV->AH->Prop
 |mk {m:Nat} {h':AH} (x:Sr) (lv:AV) (acc:List (Int×Int)):x.Ok->acc.length+m<=3->acc++itV rf mW m x=ALL->itS mW m x=END->GI h hb h' id x 2 lv acc.length (chC acc).flatten->h'.E ks=some (kA.map λn=>I n)->H1 h hb id ks ALL END m [.ptr id 0,.rsl ks 0 7 1,lv,I m] h'
theorem abS(hc:h.E id=some (srC x))(d:id<h.nx)(C:x.Ok):ab prog 20 [.ptr id 0] h (.psl (chC (chV x))) (h.set id (.cells (srC (chS x)))):=by
 refine o9 d (kR _) (C20 ?_);have ad:aQ [I 0,I 0,I 0,I 0,I 0,I 0,I 0] [(0,1,(I 97)),(1,1,(I 107)),(2,1,(I 99)),(3,1,(I 49)),(4,1,(I 32)),(5,1,(I 2)),(6,1,(I 12))]=some (kA.map λn=>I n):=rfl;unfold g20;simp[ad];have G:=(Ob.start hc).new d (h2:=h.add (.cells (kA.map λn=>I n))) (by simp) λi hi=>by rw[gan]
 have j:(h.add (.cells (kA.map λn=>I n))).E h.nx=some (kA.map λn=>I n):=cas;have hn:(h.add (.cells (kA.map λn=>I n))).nx=h.nx+1:=by simp
 generalize h.add (.cells (kA.map λn=>I n))=h1 at*;have y:h.nx≠id:=by omega
 refine sD (rY 1 3 G.c (G.lt d) ⟨C,by omega,by omega,by omega⟩) ?_;have G:=G.set (srC (nS x 3));have j:(h1.set id (.cells (srC (nS x 3)))).E h.nx=some (kA.map λn=>I n):=by rw[csn y];exact j
 have hn:(h1.set id (.cells (srC (nS x 3)))).nx=h.nx+1:=hn;rw[show(3:Int)-1+1=3 by omega];generalize h1.set id (.cells (srC (nS x 3)))=h2 at*;have bb:=dK x 3;have bd:=dr x (show(1:Int)<=3 by omega);have af:rgV x 1 3=((rgV x 1 3).toNat:Int):=by unfold rgV;rw[show(3:Int)-1+1=3 by omega];omega
 have aj:(rgV x 1 3).toNat<=3:=by unfold rgV;rw[show(3:Int)-1+1=3 by omega];omega
 have al:=aN C 3;unfold chV chS;rw[af];generalize(rgV x 1 3).toNat=K at*;generalize nS x 3=J at*;refine⟨H1 h h2 id h.nx (itV rf mW K J) (itS mW K J),K,.mk J .D [] al (by simpa using aj) rfl rfl (GI.start 2 G) j,?_⟩;rintro m vs e ⟨x,lv,acc,C,hm,hA,hE,g,j⟩;cases m with
 |succ m=>
  have bk:(0:Int)<((m+1:Nat):Int):=by omega
  simp[Gt];have g0:=g;have g:=g.bump (k:=e.nx+14) (by omega);refine sD (n_d 7 g.ob.c (g.ob.lt d) ⟨C,by omega⟩) ?_;refine⟨by simp,?_⟩;have g:=g.rd d (nS x 7);have bp:=g.b2;have o:((AH.mk e.H (e.nx+14)).set id (.cells (srC (nS x 7)))).E h.nx=some (kA.map λn=>I n):=by rw[csn y];exact j
  have an:((AH.mk e.H (e.nx+14)).set id (.cells (srC (nS x 7)))).nx=e.nx+14:=rfl;have ao:=aN C 7;have n1:=dK x 7;have n2:=dr x (show(1:Int)<=7 by omega);obtain⟨q,hq⟩:=kL n1;have P:=Ip (L:=kA) (a:=q) (by show q<7;omega);have ar:rf x=(kA.getD q 0,nV (nS x 7) 3):=by unfold rf;rw[hq];rfl
  have av:mW x=nS (nS x 7) 3:=rfl;have w:∀i,i≠id->((AH.mk e.H (e.nx+14)).set id (.cells (srC (nS x 7)))).H.get i=e.H.get i:=λi hi=>by rw[dQ,O hi]
  rw[hq];generalize(AH.mk e.H (e.nx+14)).set id (.cells (srC (nS x 7)))=B at*;generalize nS x 7=A at*;have aw:=uT B h.nx 7 q (by omega);generalize kA.getD q 0=M at*;obtain⟨W,R⟩:∃W,W=kA.map (λn=>I n):=⟨_,rfl⟩;rw[<-R]at P o;simp[aw,UE,o,P];refine sD (n_d 3 g.ob.c (g.ob.lt d) ⟨ao,by omega⟩) ?_;refine⟨by simp,?_⟩;have T:bT (.read h.nx) (.eff B (B.set id (.cells (srC (nS A 3)))))=true:=kM _ _ _ _ y;have g:=g.rd d (nS A 3);have U:(B.set id (.cells (srC (nS A 3)))).E h.nx=some W:=by rw[csn y];exact o
  have bs:(B.set id (.cells (srC (nS A 3)))).nx=e.nx+14:=an;have w:∀i,i≠id->(B.set id (.cells (srC (nS A 3)))).H.get i=e.H.get i:=λi hi=>by rw[dQ,O hi];exact w i hi
  generalize B.set id (.cells (srC (nS A 3)))=h5 at*;generalize bx:nV A 3=N at*;have a8:aQ [I 0,I 0] [(0,1,I M),(1,1,I N)]=some [I M,I N]:=rfl;have V:aQ [I 0,I 0] [(0,2,.agg [I M,I N])]=some [I M,I N]:=rfl;simp[V];have aS:Ob h (h5.set (e.nx+11) (.cells [I M,I N])) id (srC (nS A 3)):=g.ob.app d (by simp) λi hi=>by have:=g0.b1;have:=g0.b2;rw[gsn]
  obtain⟨aT,h7,k1,g7,n7,a1,ba⟩:=g0.aid d aS (by simp;omega) (λi bY b0=>by
   have:=g0.b1;rw[gsn,w i (by omega)]) 16 cse rfl rfl (by omega) (by omega)
  refine gS k1 (by simp only[pA]at n7 ⊢; omega) ?_;simp(disch:=first|go_size|fail)[TG];rw[<-av]at g7;refine⟨T,m,by omega,.mk (mW x) aT (acc++[rf x]) (Ow x C) (by simp;omega) (by rw[<-hA];simp[itV]) (by rw[<-hE];rfl) ?_ ?_⟩
  ·rw[ar];simpa[chC]using g7
  rw[aV (a1 h.nx (by omega)),csn (by have:=g0.b2;omega),U,R]
 |zero=>
  have a6:itV rf mW K J=acc:=by rw[<-hA];simp[itV]
  have a7:itS mW K J=x:=hE.symm;simp[Gt,VB,GW];rw[a6,a7];have gl:=g.l;rw[show acc.length=(chC acc).length by simp[chC]]at gl;exact⟨rS (adS acc) (Pv acc) gl (by omega),g.ob⟩
def lkL(f:Val->Sr->Val×Sr):List Val->Sr->List Val×Sr
 |[],x=>([],x)
 |v::r,x=>if 0<nV x 3 then((f v (nS x 3)).1::(lkL f r (f v (nS x 3)).2).1,(lkL f r (f v (nS x 3)).2).2)else lkL f r (nS x 3)
def lk:Nat->Val->Sr->Val×Sr
 |0,_,x=>(Val.zero,x)
 |n+1,.mk k _ _ l,x=>if k=1 then(.mk 1 (rgV x (-3) 9) [] [],nS x 13)else if k=2 then(.mk 2 (nV x 2) [] [],nS x 2)else if k=3 then(.mk 3 0 (wdV x 4) [],wdS x 4)else(.mk 4 0 [] (lkL (lk n) l x).1,(lkL (lk n) l x).2)
def dp:Nat->Val->Prop
 |0,_=>False
 |n+1,.mk _ _ _ l=>l.length<=10/\∀v∈l,dp n v
variable {f:Val->Sr->Val×Sr}
theorem GG:∀(l:List Val) (x:Sr),(∀v∈l,∀y:Sr,y.Ok->(f v y).2.Ok)->x.Ok->(lkL f l x).2.Ok
 |[],x,_,h=>h
 |v::r,x,d,h=>by
  unfold lkL;split
  ·exact GG r _ (λu hu=>d u (by simp[hu])) (d v (by simp) _ (aN h _))
  exact GG r _ (λu hu=>d u (by simp[hu])) (aN h _)
theorem y2:∀(n:Nat) (v:Val) (x:Sr),x.Ok->(lk n v x).2.Ok
 |0,_,x,h=>h
 |n+1,.mk k _ _ l,x,h=>by
  unfold lk
  (repeat' split)
  ·exact aN h _
  ·exact aN h _
  ·exact T7 h _
  exact GG l x (λv _ y d=>y2 n v y d) h
theorem BJ{f:Val->Sr->Val×Sr}:∀(l:List Val) (x:Sr),(lkL f l x).1.length<=l.length
 |[],x=>by simp[lkL]
 |v::r,x=>by
  unfold lkL;split
  ·have:=BJ (f:=f) r (f v (nS x 3)).2;simp;exact this
  have:=BJ (f:=f) r (nS x 3);simp;omega
variable {p:Val->Prop}
theorem Bm:∀(l:List Val) (x:Sr),(∀v∈l,∀y:Sr,p (f v y).1)->∀u∈(lkL f l x).1,p u
 |[],x,_,u,h=>by simp[lkL]at h
 |v::r,x,d,u,h=>by
  unfold lkL at h;split at h
  ·rcases cE.1 h with rfl|h
   ·exact d v (by simp) _
   exact Bm r _ (λw hw=>d w (by simp[hw])) u h
  exact Bm r _ (λw hw=>d w (by simp[hw])) u h
theorem XC:∀(n:Nat) (v:Val) (x:Sr),dp n v->dp n (lk n v x).1
 |0,_,_,h=>h.elim
 |n+1,.mk k _ _ l,x,h=>by
  unfold lk
  (repeat' split)
  ·exact⟨by simp,by simp⟩
  ·exact⟨by simp,by simp⟩
  ·exact⟨by simp,by simp⟩
  exact⟨bf (BJ l x) h.1,Bm l x λv d y=>XC n v y (h.2 v d)⟩
def uS(n:Nat):Prop:=∀(h:AH) (id:Nat) (x:Sr) (v:Val),h.E id=some (srC x)->id<h.nx->x.Ok->dp n v->ab prog 36 [.ptr id 0,.agg (vC v)] h (.agg (vC (lk n v x).1)) (h.set id (.cells (srC (lk n v x).2)))
variable {Q:QT}
theorem XM(e:uS n)(v:Val)(g:h.E id=some (srC x))(d:id<h.nx)(i:x.Ok)(j:dp n v)
  (m:Q (.agg (vC (lk n v x).1)) (h.set id (.cells (srC (lk n v x).2)))):tU prog 36 [.ptr id 0,.agg (vC v)] h Q:=sD (e h id x v g d i j) m
structure LkI(h h':AH)(id:Nat)(x:Sr)(v:Val):Prop where
 ob:Ob h h' id (srC x)
 b:h'.E h.nx=some (vC v)
 r:h'.E (h.nx+1)=some z4
 nx:h.nx+2<=h'.nx
variable {v:Val}
theorem LkI.rd(g:LkI h h' id x v)(d:id<h.nx)(y:Sr):LkI h (h'.set id (.cells (srC y))) id y v:=
 ⟨g.ob.set _,by rw[csn];exact g.b,by rw[csn];exact g.r,g.nx⟩
