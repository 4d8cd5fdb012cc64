/- sync.Once, walked. -/
import Derived.Tactics
import Derived.Tactics2
import Derived.Defers
import Derived.Laws.LoneSync
import Derived.Laws.NewBlocks
import Derived.RegionTactic
import Derived.RegionCalls
import Derived.ChangeAlike
import Derived.Test.YtndpneieplopaaaGreatDoorStUc
set_option linter.unusedSimpArgs false
set_option linter.unusedVariables false
noncomputable section
namespace Go.Proofs.YtndpneieplopaaaGreatDoor
open Go.Eng
open Tryz
theorem NH(w:World):(callFunc 206 #[]).run prog w =.ok (.value (.tuple #[])) w:=run_call_mark0 func206 (by kernel_rfl) (by kernel_rfl) (by kernel_rfl) .disable (by kernel_rfl) w
theorem QG(w:World):(callFunc 208 #[]).run prog w =.ok (.value (.tuple #[])) w:=run_call_mark0 func208 (by kernel_rfl) (by kernel_rfl) (by kernel_rfl) .enable (by kernel_rfl) w
theorem aaQ(a:Addr)(w:World):(callFunc 209 #[.pointer (some a)]).run prog w =.ok (.value (.tuple #[])) w:=run_call_marked func209 (by kernel_rfl) (by kernel_rfl) (by kernel_rfl) .acquire (by kernel_rfl) a w
theorem aaU(a:Addr)(w:World):(callFunc 211 #[.pointer (some a)]).run prog w =.ok (.value (.tuple #[])) w:=run_call_marked func211 (by kernel_rfl) (by kernel_rfl) (by kernel_rfl) .releaseMerge (by kernel_rfl) a w
set_option maxRecDepth 100000 in
set_option maxHeartbeats 1600000 in
theorem aep(a:Addr)(x:Value)(u:FrameMode)(w:World)(j:w.cell? a=some x)(l:w.frozen? a=false):
  CallsD prog 180 #[.pointer (some a),.bool true] u w λe f w'=>f=u/\(e =.returned (.tuple #[])/\w'=w.drew.setCell a (.int .u32 1)):=by
 have c:w.drew.cell? a=some x:=by go_simp
 have d:w.drew.frozen? a=false:=by go_simp
 have g:=run_call_store (P:=prog) func198 (by kernel_rfl) (by kernel_rfl) (by kernel_rfl) (by kernel_rfl) (k:=.u32) (y:=1) c d;go_enter_d func180,Tryz.ntmps180
 go_wp2
 go_region_calls
 all_goals (go_end0;exact⟨rfl,rfl⟩)
set_option maxRecDepth 100000 in
set_option maxHeartbeats 1600000 in
theorem adW(a:Addr)(u:FrameMode)(w:World)(c:w.cell? a=some (.int .i32 1))(f:w.frozen? a=false):
  CallsD prog 179 #[.pointer (some a)] u w λe g w'=>g=u/\(e =.returned (.tuple #[])/\w'=w.setCell a (.int .i32 0)):=by
 have k:=NH;have he:=QG;have l:=aaU;have d:=run_call_add (P:=prog) func212 (by kernel_rfl) (by kernel_rfl) (by kernel_rfl) .i32 (by kernel_rfl) (y:= -1) (s:=0) c f (by simp[go_sem];rfl);have j:=run_convert_to_unsafe (P:=prog) (src:=262) (dst:=149) Tryz.underlying262 Tryz.underlying149 (by kernel_rfl) c;go_enter_d func179,Tryz.ntmps179
 go_wp2
 go_end0
 go_wp2
 try go_end0
 try exact⟨rfl,rfl⟩
set_option maxRecDepth 100000 in
set_option maxHeartbeats 1600000 in
theorem ahe(a:Addr)(w:World)(d:w.cell? a=some (.int .i32 0))(g:w.frozen? a=false):
  Calls prog 178 #[.pointer (some a)] w λe w'=>e =.returned (.tuple #[])/\w'=w.setCell a (.int .i32 1):=by
 have k:=NH;have he:=QG;have l:=aaQ;have f:=run_call_cas_hit (P:=prog) func207 (by kernel_rfl) (by kernel_rfl) (by kernel_rfl) .i32 (by kernel_rfl) (y:=1) d g;have c:(w.setCell a (.int .i32 1)).cell? a=some (.int .i32 1):=World.cell?_setCell_same w a _ d;have j:=run_convert_to_unsafe (P:=prog) (src:=262) (dst:=149) Tryz.underlying262 Tryz.underlying149 (by kernel_rfl) c;go_enter func178,Tryz.ntmps178
 go_wp2
 first|go_end0|(simp only[Exit.inBlock,Exit.then];refine bodyPost_ret (results_none rfl _ _ _) rfl ?_)|refine bodyPost_ret (results_none rfl _ _ _) rfl ?_
 go_wp2
 try go_end0
 try exact⟨rfl,rfl⟩
set_option maxRecDepth 100000 in
set_option maxHeartbeats 1600000 in
theorem agH(b c:Nat)(G:World->Prop)(w:World)(l:w.cell? ⟨b,c,none⟩=some (.int .u32 0))(q:w.cell? ⟨b,c+1,none⟩=some (.int .i32 0))
  (r:w.frozen? ⟨b,c+1,none⟩=false)
  (m:Calls prog 139 #[.pointer (some ⟨b,c,none⟩)] (w.setCell ⟨b,c+1,none⟩ (.int .i32 1)) λe w'=>e =.returned (.tuple #[])/\G w')
  (n:∀w',G w'->w'.cell? ⟨b,c,none⟩=some (.int .u32 0)/\w'.cell? ⟨b,c+1,none⟩=some (.int .i32 1)/\w'.frozen? ⟨b,c,none⟩=false/\w'.frozen? ⟨b,c+1,none⟩=false):
  Calls prog 156 #[.pointer (some ⟨b,c,none⟩),.func (.func 139) #[.pointer (some ⟨b,c,none⟩)] #[]] w λe w'=>e =.returned (.tuple #[])/\
   ∃d,G d/\w'=(d.drew.setCell ⟨b,c,none⟩ (.int .u32 1)).setCell ⟨b,c+1,none⟩ (.int .i32 0):=by
 have t:=run_call_load (P:=prog) func177 (by kernel_rfl) (by kernel_rfl) (by kernel_rfl) .u32 (by kernel_rfl) (w:=w.setCell ⟨b,c+1,none⟩ (.int .i32 1)) (a:=⟨b,c,none⟩) (x:=0) ((World.cell?_setCell_other _ ⟨b,c+1,none⟩ ⟨b,c,none⟩ _ (by simp)).trans l);have k:∀(x:Bool) (w:World),(Op.unary .not (.bool x)).run prog w =.ok (.bool (!x)) w:=λ_ _=>rfl
 go_enter_defers func156,Tryz.ntmps156
 go_wp2_with (go_at_call 178;refine(ahe ⟨b,c+1,none⟩ _ (by go_simp) (by go_simp)).mono ?_;rintro e w' ⟨rfl,rfl⟩)
 go_wp2_with (first|(go_at_call 139;refine m.mono ?_;rintro e d ⟨rfl,j⟩)|(go_at_call 155;go_in))
 obtain⟨g0,g1,z0,o⟩:=n d j;refine leaves_cons (f:=180) (args:= #[.pointer (some ⟨b,c,none⟩),.bool true]) (by simp) (by simp[go_sem]) ?_;refine(aep ⟨b,c,none⟩ (.int .u32 0) .returning _ g0 z0).mono ?_;rintro e p g ⟨rfl,rfl,rfl⟩;refine leaves_cons (f:=179) (args:= #[.pointer (some ⟨b,c+1,none⟩)]) (by simp[settle]) (by simp[go_sem]) ?_;refine(adW ⟨b,c+1,none⟩ _ _ ?_ (by simp[o])).mono ?_
 ·refine(World.cell?_setCell_other _ ⟨b,c,none⟩ ⟨b,c+1,none⟩ _ (by simp)).trans ?_;rw[World.cell?_drew];exact g1
 rintro e p g ⟨rfl,rfl,rfl⟩;simp[Leaves,settle,results,Tryz.results156];exact⟨d,j,rfl⟩
set_option maxRecDepth 100000 in
set_option maxHeartbeats 1600000 in
theorem oDo(b c:Nat)(G:World->Prop)(w:World)(d:w.cell? ⟨b,c,none⟩=some (.int .u32 0))(j:w.cell? ⟨b,c+1,none⟩=some (.int .i32 0))
  (k:w.frozen? ⟨b,c+1,none⟩=false)
  (l:Calls prog 139 #[.pointer (some ⟨b,c,none⟩)] (w.setCell ⟨b,c+1,none⟩ (.int .i32 1)) λe w'=>e =.returned (.tuple #[])/\G w')
  (m:∀w',G w'->w'.cell? ⟨b,c,none⟩=some (.int .u32 0)/\w'.cell? ⟨b,c+1,none⟩=some (.int .i32 1)/\w'.frozen? ⟨b,c,none⟩=false/\w'.frozen? ⟨b,c+1,none⟩=false):
  Calls prog 138 #[.pointer (some ⟨b,c,none⟩),.func (.func 139) #[.pointer (some ⟨b,c,none⟩)] #[]] w λe w'=>e =.returned (.tuple #[])/\
   ∃f,G f/\w'=(f.drew.setCell ⟨b,c,none⟩ (.int .u32 1)).setCell ⟨b,c+1,none⟩ (.int .i32 0):=by
 have o:=run_call_load (P:=prog) func177 (by kernel_rfl) (by kernel_rfl) (by kernel_rfl) .u32 (by kernel_rfl) d;have g:∀(x:Bool) (w:World),(Op.unary .not (.bool x)).run prog w =.ok (.bool (!x)) w:=λ_ _=>rfl
 go_enter func138,Tryz.ntmps138
 go_wp2_with (first|(go_at_call 156;refine(agH b c G _ d j k l m).mono ?_;rintro e p ⟨rfl,n⟩)|(go_at_call 155;go_in))
 go_end0
 exact⟨rfl,n⟩
theorem agh(p:Addr)(s:ByteArray)(w:World):(callMethod (.iface 231 (.pointer (some p))) "Replace" #[.string s]).run prog w =.ok (.enter 251 #[.pointer (some p),.string s]) w:=by kernel_rfl
set_option maxRecDepth 100000 in
set_option maxHeartbeats 1600000 in
theorem abH(b c:Nat)(s:ByteArray)(G:World->Prop)(R:Value->World->Prop)(w:World)(f:w.cell? ⟨b,c,none⟩=some (.int .u32 0))(g:w.cell? ⟨b,c+1,none⟩=some (.int .i32 0))
  (j:w.frozen? ⟨b,c+1,none⟩=false)
  (k:Calls prog 139 #[.pointer (some ⟨b,c,none⟩)] (w.setCell ⟨b,c+1,none⟩ (.int .i32 1)) λe w'=>e =.returned (.tuple #[])/\G w')
  (l:∀w',G w'->w'.cell? ⟨b,c,none⟩=some (.int .u32 0)/\w'.cell? ⟨b,c+1,none⟩=some (.int .i32 1)/\w'.frozen? ⟨b,c,none⟩=false/\w'.frozen? ⟨b,c+1,none⟩=false)
  (m:∀w',G w'->∃p,w'.cell? ⟨b,c+3,none⟩=some (.iface 231 (.pointer (some p)))/\Calls prog 251 #[.pointer (some p),.string s] ((w'.drew.setCell ⟨b,c,none⟩ (.int .u32 1)).setCell ⟨b,c+1,none⟩ (.int .i32 0)) λe w'=>∃r,e =.returned r/\R r w'):
  Calls prog 105 #[.pointer (some ⟨b,c,none⟩),.string s] w λe w'=>∃r,e =.returned r/\R r w':=by
 have hm:=agh;have t:∀(fn:Fn) (first cap:Array Value) (w:World),(Instr.makeFunc fn first cap).run prog w =.ok (.func fn first cap) w:=λ_ _ _ _=>rfl
 go_enter func105,Tryz.ntmps105
 go_wp2_with (go_at_call 138;refine(oDo b c G _ f g j k l).mono ?_;rintro e x ⟨rfl,n,o,rfl⟩;obtain⟨p,hi,q⟩:=m n o)
 go_wp2_with (go_at_call 251;refine q.mono ?_;rintro e y ⟨r,rfl,d⟩)
 go_ret
 exact⟨r,rfl,d⟩
open Go.St Go.RowKit
variable {w:World}{b base i:Nat}{cur:Array Value}{e:TypeId}{fz:Nat×Nat}
theorem wC(c:w.heap[b]?=some (.cells cur e fz)):w.cell? ⟨b,base+i,none⟩=cur[base+i]?:=by
 simp[World.cell?,c]
theorem JR(c:w.heap[b]?=some (.cells cur e (0,0))):w.frozen? ⟨b,i,none⟩=false:=by
 simp[World.frozen?,c]
variable {own:Nat->Prop}{β:Bl}{h:AH}{id:Nat}{v:Value}{a:AV}
theorem Je(l:aB own β h.H h.nx w){off:Nat}{d cs':LA}(n:h.E id=some d)(hβ:β id=some (b,base))(f:aP d off [a]=some cs')(o:VR w.heap (Go.Eng.LL own β h.H) β a v):
  aB own β (h.set id (.cells cs')).H h.nx (w.setCell ⟨b,base+off,none⟩ v)/\aX own β h w β (h.set id (.cells cs')) (w.setCell ⟨b,base+off,none⟩ v):=by
 obtain⟨y,k,cur,e,p,hβ',m,x,q⟩:=l.row n;rw[hβ]at hβ';cases hβ';unfold aP at f;split at f
 ·rename_i r;simp only[aF,bz]at r;cases f;have hlen:(d.take off++[a]++d.drop (off+1)).length=d.length:=by simp;omega
  refine l.d? p hβ m (setCell_eq_setRow w b (base+off) cur e (0,0) v m) (by simp) (by show base+(d.take off++[a]++d.drop (off+1)).length<=_;omega) λi c u hi hu=>?_
  rw[Array.getElem?_setIfInBounds]at hu;by_cases j:i=off
  ·subst j;rw[Z rfl,ifp]at hu;cases hu;rw[gr,i_,O (by simp;omega)]at hi;have g:(List.take i d).length=i:=by simp;omega
   rw[g,rm]at hi;simp at hi;subst hi;exact o
  rw[ifn]at hu;refine q i c u ?_ hu;rw[<-hi];by_cases t:i<off
  ·rw[gr,i_,Z (by simp;omega),gN,Z t]
  rw[gr,i_,O (by simp;omega)];have g:(List.take off d).length=off:=by simp;omega
  rw[g,i_,O (by simp;omega),ew];congr 1
  simp;omega
 cases f
theorem ael:Fex prog 105:=⟨_,func105,rfl,by decide⟩
variable {hp:Array Obj}{L:Nat->Prop}{s:Str}{cargs:Array Value}
theorem ac_(c:Go.Eng.RL hp L β [.ptr id 0,.str s] cargs.toList):∃b base,β id=some (b,base)/\cargs = #[.pointer (some ⟨b,base,none⟩),.string ⟨s.toArray⟩]:=by
 have d:=c.1;obtain⟨l⟩:=cargs;match l,d,c with
 |[u,v],_,c=>
  have f:=c.2 0 _ u rfl rfl;have g:=c.2 1 _ v rfl rfl;cases f with
  |ptr _ _ b base j=>
  cases g;exact⟨b,base,j,rfl⟩
theorem afr(h:VR hp L β a v):Go.Eng.RL hp L β [a] (#[v]:Array Value).toList:=⟨rfl,λi c u d hu=>by
 match i with
 |0=>cases d;cases hu;exact h
 |i+1=>simp at d⟩
variable {u:Value}
theorem aeR{b:AV}(h:VR hp L β a v)(h2:VR hp L β b u):Go.Eng.RL hp L β [a,b] (#[v,u]:Array Value).toList:=⟨rfl,λi c x d hu=>by
 match i with
 |0=>cases d;cases hu;exact h
 |1=>cases d;cases hu;exact h2
 |i+2=>simp at d⟩
theorem S?{k:Nat}(G:h.E id=some (rpH 0 0 0 .bR (.rsl k 0 6 1)))(J:h.E k=some fG)(ad:id<h.nx)(af:k<h.nx)(hs:s.length<=1000000000):
  ab prog 105 [.ptr id 0,.str s] h (.str (bP s)) (h.set id (.cells (rpH 1 0 0 rpI .D))):=by
 refine⟨ael,λown β w cargs W hR=>?_⟩;obtain⟨b,base,hβ,rfl⟩:=ac_ hR;have N:k≠id:=by
  intro e;subst e;rw[G]at J;have aj:(5:Nat)=6:=congrArg List.length (j8 J);omega
 obtain⟨b',z,cur,e,hg,hβ',K,A,q⟩:=W.row G;rw[hβ]at hβ';cases hβ';have A:base+5<=cur.size:=A;have c0:w.cell? ⟨b,base,none⟩=some (.int .u32 0):=by
  rw[show base=base+0 from rfl,wC K];obtain⟨v,l⟩:∃v,cur[base+0]?=some v:=⟨cur[base+0],rk (by omega)⟩;rw[l];have:=q 0 _ v rfl l;cases this;rfl
 have c1:w.cell? ⟨b,base+1,none⟩=some (.int .i32 0):=by
  rw[wC K];obtain⟨v,l⟩:∃v,cur[base+1]?=some v:=⟨cur[base+1],rk (by omega)⟩;rw[l];have:=q 1 _ v rfl l;cases this;rfl
 obtain⟨M,tA⟩:=Je W G hβ (off:=1) (a:=.int .i32 1) (v:=.int .i32 1) (cs':=rpH 0 1 0 .bR (.rsl k 0 6 1)) rfl (.int _ _);have P:(h.set id (.cells (rpH 0 1 0 .bR (.rsl k 0 6 1)))).E id=some (rpH 0 1 0 .bR (.rsl k 0 6 1)):=cse;have Q:(h.set id (.cells (rpH 0 1 0 .bR (.rsl k 0 6 1)))).E k=some fG:=by rw[csn N];exact J
 have gA:∀j,j≠id->(h.set id (.cells (rpH 0 1 0 .bR (.rsl k 0 6 1)))).H.get j=h.H.get j:=λj n=>by rw[dQ,O n]
 have nA:(h.set id (.cells (rpH 0 1 0 .bR (.rsl k 0 6 1)))).nx=h.nx:=rfl;generalize h.set id (.cells (rpH 0 1 0 .bR (.rsl k 0 6 1)))=x at*;have M:aB own β x.H x.nx (w.setCell ⟨b,base+1,none⟩ (.int .i32 1)):=by rw[nA];exact M
 have hO:=R' x id k 0 1 0 .bR P Q (by omega) (by omega);have B:(x.set id (.cells (rpH 0 1 0 rpI .D))).E id=some (rpH 0 1 0 rpI .D):=cse;have g2:∀j,j≠id->(x.set id (.cells (rpH 0 1 0 rpI .D))).H.get j=h.H.get j:=λj n=>by rw[dQ,O n];exact gA j n
 have n2:(x.set id (.cells (rpH 0 1 0 rpI .D))).nx=h.nx:=nA;generalize x.set id (.cells (rpH 0 1 0 rpI .D))=h2 at*;have cO:=hO.2 own β _ #[.pointer (some ⟨b,base,none⟩)] M (afr (.ptr id 0 b base hβ));have t:∀(β1:Bl) (g:World),aB own β1 h2.H h2.nx g->β1 id=some (b,base)->∃d y,g.heap[b]?=some (.cells d y (0,0))/\base+5<=d.size/\(∀(i:Nat) (c:AV) (v:Value),(rpH 0 1 0 rpI .D)[i]?=some c->d[base+i]?=some v->VR g.heap (Go.Eng.LL own β1 h2.H) β1 c v):=λβ1 g s1 f=>by
  obtain⟨b',z,d,y,_,hβ1,R,o,m⟩:=s1.row B;rw[f]at hβ1;cases hβ1;exact⟨d,y,R,o,m⟩
 refine(abH b base ⟨s.toArray⟩ (λg=>∃β1,aB own β1 h2.H h2.nx g/\aX own β h w β1 h2 g) (λr w'=>∃β',r =.string ⟨(bP s).toArray⟩/\aB own β' (h.set id (.cells (rpH 1 0 0 rpI .D))).H h.nx w'/\aX own β h w β' (h.set id (.cells (rpH 1 0 0 rpI .D))) w') w c0 c1 (JR K) ?_ ?_ ?_).mono ?_
 ·refine cO.mono ?_;rintro y g ⟨cv,v,h',β1,rfl,⟨rfl,rfl⟩,q1,q2,q3⟩;refine⟨?_,β1,q1,tA.trans q3⟩;cases q2 with
  |tup _ vs hl _=>
   have:vs = #[]:=Array.eq_empty_of_size_eq_zero hl.symm;rw[this]
 ·rintro g ⟨β1,s1,t1⟩;obtain⟨d,y,f,o,m⟩:=t β1 g s1 (t1.ext _ _ hβ);refine⟨?_,?_,JR f,JR f⟩
  ·rw[show base=base+0 from rfl,wC f];obtain⟨v,l⟩:∃v,d[base+0]?=some v:=⟨d[base+0],rk (by omega)⟩;rw[l];have:=m 0 _ v rfl l;cases this;rfl
  rw[wC f];obtain⟨v,l⟩:∃v,d[base+1]?=some v:=⟨d[base+1],rk (by omega)⟩;rw[l];have:=m 1 _ v rfl l;cases this;rfl
 ·rintro g ⟨β1,s1,t1⟩;have f:=t1.ext _ _ hβ;obtain⟨d,y,S,o,m⟩:=t β1 g s1 f;obtain⟨v,l⟩:∃v,d[base+3]?=some v:=⟨d[base+3],rk (by omega)⟩;have T:=m 3 _ v rfl l;obtain⟨p,rfl,hp⟩:∃p,v =.iface 231 (.pointer (some p))/\VR g.heap (Go.Eng.LL own β1 h2.H) β1 (.ai rpR) (.pointer (some p)):=by
   cases T with
   |iface _ _ u hu=>
    cases hu with
    |ai _ b2 o2 c2 e2 fz q1 q2 q3 q4=>exact⟨_,rfl,.ai _ b2 o2 c2 e2 fz q1 q2 q3 q4⟩
  refine⟨p,by rw[wC S];exact l,?_⟩;have U:aB own β1 h2.H h2.nx g.drew:=s1.same rfl;have C:aX own β1 h2 g β1 h2 g.drew:=.same rfl rfl rfl rfl;obtain⟨s3,t3⟩:=Je U B f (off:=0) (a:=.int .u32 1) (v:=.int .u32 1) (cs':=rpH 1 1 0 rpI .D) rfl (.int _ _);obtain⟨s4,t4⟩:=Je s3 cse f (off:=1) (a:=.int .i32 0) (v:=.int .i32 0) (cs':=rpH 1 0 0 rpI .D) rfl (.int _ _);have g4:∀j,((h2.set id (.cells (rpH 1 1 0 rpI .D))).set id (.cells (rpH 1 0 0 rpI .D))).H.get j=(h.set id (.cells (rpH 1 0 0 rpI .D))).H.get j:=λj=>by
   rw[dQ,dQ];by_cases n:j=id
   ·rw[Z n,dQ,Z n]
   rw[O n,O n,dQ,O n];exact g2 j n
  have n4:((h2.set id (.cells (rpH 1 1 0 rpI .D))).set id (.cells (rpH 1 0 0 rpI .D))).nx=h.nx:=n2;have V:=hp.later ((C.trans t3).trans t4).later;have hC:=(O! ((h2.set id (.cells (rpH 1 1 0 rpI .D))).set id (.cells (rpH 1 0 0 rpI .D))) s hs).2 own β1 _ #[.pointer (some p),.string ⟨s.toArray⟩] s4 (aeR V (.str s));refine hC.mono ?_;rintro e2 w2 ⟨cv,v,h',β2,rfl,⟨rfl,rfl⟩,q1,q2,q3⟩;refine⟨cv,rfl,β2,?_,?_,?_⟩
  ·cases q2;rfl
  ·have:=q1.congr (λj=>(g4 j).symm);rw[n4]at this;exact this
  have tt:=t1.trans (((C.trans t3).trans t4).trans q3);have:=aX.congr (H₁:=h.H) (n₁:=h.nx) (H₂:=((h2.set id (.cells (rpH 1 1 0 rpI .D))).set id (.cells (rpH 1 0 0 rpI .D))).H) (n₂:=((h2.set id (.cells (rpH 1 1 0 rpI .D))).set id (.cells (rpH 1 0 0 rpI .D))).nx) tt (λ_=>rfl) (λj=>(g4 j).symm);rw[n4]at this;exact this
 rintro y g ⟨r,rfl,β',rfl,q1,q2⟩;exact⟨_,_,_,β',rfl,⟨rfl,rfl⟩,q1,.str _,q2⟩
theorem Az{h:AH}(s:Str)(l:s.length<=1000000000):ab prog 70 [.str s] h (.str (wQ s)) h:=by
 refine dj (λ_=>.str _) (C70 ?_);have d:aQ [AV.str [],.str [],.str [],.str [],.str [],.str []] [(0,1,.str [92]),(1,1,.str [92,92]),(2,1,.str [34]),(3,1,.str [92,34]),(4,1,.str [10]),(5,1,.str [92,110])]=some fG:=rfl;simp[g70,d];have fr:=(Fr.refl h).add (.cells fG);have c1:(h.add (.cells fG)).E h.nx=some fG:=cas;have n1:(h.add (.cells fG)).nx=h.nx+1:=by simp
 generalize h.add (.cells fG)=c at*;refine sD (abG c1 (by omega)) ?_;have f:=(fr.add (.cells fG)).add (.cells (rpH 0 0 0 .bR (.rsl c.nx 0 6 1)));have c2:((c.add (.cells fG)).add (.cells (rpH 0 0 0 .bR (.rsl c.nx 0 6 1)))).E (c.nx+1)=some (rpH 0 0 0 .bR (.rsl c.nx 0 6 1)):=cas;have c3:((c.add (.cells fG)).add (.cells (rpH 0 0 0 .bR (.rsl c.nx 0 6 1)))).E c.nx=some fG:=by rw[can];exact cas
 have n:((c.add (.cells fG)).add (.cells (rpH 0 0 0 .bR (.rsl c.nx 0 6 1)))).nx=c.nx+2:=by simp
 generalize(c.add (.cells fG)).add (.cells (rpH 0 0 0 .bR (.rsl c.nx 0 6 1)))=h2 at*;simp[Xg];refine sD (S? c2 c3 (by omega) (by omega) l) ?_;have o:=pa s;have m:=n8 s;have g:=f.set (k:=c.nx+1) (by omega) (.cells (rpH 1 0 0 rpI .D));generalize h2.set (c.nx+1) (.cells (rpH 1 0 0 rpI .D))=j at*;have k1:=aU (h:=j) (a:=[34]) (b:=bP s) (by simp;omega);have k2:=aU (h:=j) (a:=[34]++bP s) (b:=[34]) (by simp;omega);simp only[cp,cD]at k1 k2;simp[Wl,k1,k2];exact⟨rfl,g⟩
