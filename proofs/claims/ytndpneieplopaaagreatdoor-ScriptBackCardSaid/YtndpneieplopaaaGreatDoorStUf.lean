/- sync.Once, walked. -/
import Derived.Tactics
import Derived.Tactics2
import Derived.Defers
import Derived.Laws.LoneSync
import Derived.Laws.NewBlocks
import Derived.RegionTactic
import Derived.RegionCalls
import Derived.ChangeAlike
import Derived.Test.YtndpneieplopaaaGreatDoorStUc
set_option linter.unusedSimpArgs false
set_option linter.unusedVariables false
noncomputable section
namespace Go.Proofs.YtndpneieplopaaaGreatDoor
open Go.Eng
open Tryz
theorem as3(w:World):(callFunc 206 #[]).run prog w =.ok (.value (.tuple #[])) w:=run_call_mark0 func206 (by kernel_rfl) (by kernel_rfl) (by kernel_rfl) .disable (by kernel_rfl) w
theorem auP(w:World):(callFunc 208 #[]).run prog w =.ok (.value (.tuple #[])) w:=run_call_mark0 func208 (by kernel_rfl) (by kernel_rfl) (by kernel_rfl) .enable (by kernel_rfl) w
theorem awE(a:Addr)(w:World):(callFunc 209 #[.pointer (some a)]).run prog w =.ok (.value (.tuple #[])) w:=run_call_marked func209 (by kernel_rfl) (by kernel_rfl) (by kernel_rfl) .acquire (by kernel_rfl) a w
theorem awL(a:Addr)(w:World):(callFunc 211 #[.pointer (some a)]).run prog w =.ok (.value (.tuple #[])) w:=run_call_marked func211 (by kernel_rfl) (by kernel_rfl) (by kernel_rfl) .releaseMerge (by kernel_rfl) a w
set_option maxRecDepth 100000 in
set_option maxHeartbeats 1600000 in
theorem ayP(a:Addr)(x:Value)(u:FrameMode)(w:World)(hc:w.cell? a=some x)(hz:w.frozen? a=false):
  CallsD prog 180 #[.pointer (some a),.bool true] u w λe u' w'=>u'=u/\(e =.returned (.tuple #[])/\w'=w.drew.setCell a (.int .u32 1)):=by
 have hc':w.drew.cell? a=some x:=by go_simp
 have hz':w.drew.frozen? a=false:=by go_simp
 have hst:=run_call_store (P:=prog) func198 (by kernel_rfl) (by kernel_rfl) (by kernel_rfl) (by kernel_rfl) (k:=.u32) (y:=1) hc' hz';go_enter_d func180,Tryz.ntmps180
 go_wp2
 go_region_calls
 all_goals (go_end0;exact⟨rfl,rfl⟩)
set_option maxRecDepth 100000 in
set_option maxHeartbeats 1600000 in
theorem ax9(a:Addr)(u:FrameMode)(w:World)(hc:w.cell? a=some (.int .i32 1))(hz:w.frozen? a=false):
  CallsD prog 179 #[.pointer (some a)] u w λe u' w'=>u'=u/\(e =.returned (.tuple #[])/\w'=w.setCell a (.int .i32 0)):=by
 have hd:=as3;have he:=auP;have hr:=awL;have U8:=run_call_add (P:=prog) func212 (by kernel_rfl) (by kernel_rfl) (by kernel_rfl) .i32 (by kernel_rfl) (y:= -1) (s:=0) hc hz (by simp[go_sem];rfl);have hcv:=run_convert_to_unsafe (P:=prog) (src:=262) (dst:=149) Tryz.underlying262 Tryz.underlying149 (by kernel_rfl) hc;go_enter_d func179,Tryz.ntmps179
 go_wp2
 go_end0
 go_wp2
 try go_end0
 try exact⟨rfl,rfl⟩
set_option maxRecDepth 100000 in
set_option maxHeartbeats 1600000 in
theorem azG(a:Addr)(w:World)(hc:w.cell? a=some (.int .i32 0))(hz:w.frozen? a=false):
  Calls prog 178 #[.pointer (some a)] w λe w'=>e =.returned (.tuple #[])/\w'=w.setCell a (.int .i32 1):=by
 have hd:=as3;have he:=auP;have ha:=awE;have aBR:=run_call_cas_hit (P:=prog) func207 (by kernel_rfl) (by kernel_rfl) (by kernel_rfl) .i32 (by kernel_rfl) (y:=1) hc hz;have hc':(w.setCell a (.int .i32 1)).cell? a=some (.int .i32 1):=World.cell?_setCell_same w a _ hc;have hcv:=run_convert_to_unsafe (P:=prog) (src:=262) (dst:=149) Tryz.underlying262 Tryz.underlying149 (by kernel_rfl) hc';go_enter func178,Tryz.ntmps178
 go_wp2
 first|go_end0|(simp only[Exit.inBlock,Exit.then];refine bodyPost_ret (results_none rfl _ _ _) rfl ?_)|refine bodyPost_ret (results_none rfl _ _ _) rfl ?_
 go_wp2
 try go_end0
 try exact⟨rfl,rfl⟩
set_option maxRecDepth 100000 in
set_option maxHeartbeats 1600000 in
theorem azJ(b off:Nat)(G:World->Prop)(w:World)(h0:w.cell? ⟨b,off,none⟩=some (.int .u32 0))(h1:w.cell? ⟨b,off+1,none⟩=some (.int .i32 0))
  (f1:w.frozen? ⟨b,off+1,none⟩=false)
  (hf:Calls prog 139 #[.pointer (some ⟨b,off,none⟩)] (w.setCell ⟨b,off+1,none⟩ (.int .i32 1)) λe w'=>e =.returned (.tuple #[])/\G w')
  (hG:∀w',G w'->w'.cell? ⟨b,off,none⟩=some (.int .u32 0)/\w'.cell? ⟨b,off+1,none⟩=some (.int .i32 1)/\w'.frozen? ⟨b,off,none⟩=false/\w'.frozen? ⟨b,off+1,none⟩=false):
  Calls prog 156 #[.pointer (some ⟨b,off,none⟩),.func (.func 139) #[.pointer (some ⟨b,off,none⟩)] #[]] w λe w'=>e =.returned (.tuple #[])/\
   ∃w1,G w1/\w'=(w1.drew.setCell ⟨b,off,none⟩ (.int .u32 1)).setCell ⟨b,off+1,none⟩ (.int .i32 0):=by
 have hl:=run_call_load (P:=prog) func177 (by kernel_rfl) (by kernel_rfl) (by kernel_rfl) .u32 (by kernel_rfl) (w:=w.setCell ⟨b,off+1,none⟩ (.int .i32 1)) (a:=⟨b,off,none⟩) (x:=0) ((World.cell?_setCell_other _ ⟨b,off+1,none⟩ ⟨b,off,none⟩ _ (by simp)).trans h0);have aBc:∀(x:Bool) (w:World),(Op.unary .not (.bool x)).run prog w =.ok (.bool (!x)) w:=λ_ _=>rfl
 go_enter_defers func156,Tryz.ntmps156
 go_wp2_with (go_at_call 178;refine(azG ⟨b,off+1,none⟩ _ (by go_simp) (by go_simp)).mono ?_;rintro e w' ⟨rfl,rfl⟩)
 go_wp2_with (first|(go_at_call 139;refine hf.mono ?_;rintro e w1 ⟨rfl,hg⟩)|(go_at_call 155;go_in))
 obtain⟨g0,g1,z0,z1⟩:=hG w1 hg;refine leaves_cons (f:=180) (args:= #[.pointer (some ⟨b,off,none⟩),.bool true]) (by simp) (by simp[go_sem]) ?_;refine(ayP ⟨b,off,none⟩ (.int .u32 0) .returning _ g0 z0).mono ?_;rintro e u' w'' ⟨rfl,rfl,rfl⟩;refine leaves_cons (f:=179) (args:= #[.pointer (some ⟨b,off+1,none⟩)]) (by simp[settle]) (by simp[go_sem]) ?_;refine(ax9 ⟨b,off+1,none⟩ _ _ ?_ (by simp[z1])).mono ?_
 ·refine(World.cell?_setCell_other _ ⟨b,off,none⟩ ⟨b,off+1,none⟩ _ (by simp)).trans ?_;rw[World.cell?_drew];exact g1
 rintro e u' w'' ⟨rfl,rfl,rfl⟩;simp[Leaves,settle,results,Tryz.results156];exact⟨w1,hg,rfl⟩
set_option maxRecDepth 100000 in
set_option maxHeartbeats 1600000 in
theorem oDo(b off:Nat)(G:World->Prop)(w:World)(h0:w.cell? ⟨b,off,none⟩=some (.int .u32 0))(h1:w.cell? ⟨b,off+1,none⟩=some (.int .i32 0))
  (f1:w.frozen? ⟨b,off+1,none⟩=false)
  (hf:Calls prog 139 #[.pointer (some ⟨b,off,none⟩)] (w.setCell ⟨b,off+1,none⟩ (.int .i32 1)) λe w'=>e =.returned (.tuple #[])/\G w')
  (hG:∀w',G w'->w'.cell? ⟨b,off,none⟩=some (.int .u32 0)/\w'.cell? ⟨b,off+1,none⟩=some (.int .i32 1)/\w'.frozen? ⟨b,off,none⟩=false/\w'.frozen? ⟨b,off+1,none⟩=false):
  Calls prog 138 #[.pointer (some ⟨b,off,none⟩),.func (.func 139) #[.pointer (some ⟨b,off,none⟩)] #[]] w λe w'=>e =.returned (.tuple #[])/\
   ∃w1,G w1/\w'=(w1.drew.setCell ⟨b,off,none⟩ (.int .u32 1)).setCell ⟨b,off+1,none⟩ (.int .i32 0):=by
 have hl:=run_call_load (P:=prog) func177 (by kernel_rfl) (by kernel_rfl) (by kernel_rfl) .u32 (by kernel_rfl) h0;have aBc:∀(x:Bool) (w:World),(Op.unary .not (.bool x)).run prog w =.ok (.bool (!x)) w:=λ_ _=>rfl
 go_enter func138,Tryz.ntmps138
 go_wp2_with (first|(go_at_call 156;refine(azJ b off G _ h0 h1 f1 hf hG).mono ?_;rintro e w2 ⟨rfl,hg⟩)|(go_at_call 155;go_in))
 go_end0
 exact⟨rfl,hg⟩
theorem az5(p:Addr)(s:ByteArray)(w:World):(callMethod (.iface 231 (.pointer (some p))) "Replace" #[.string s]).run prog w =.ok (.enter 251 #[.pointer (some p),.string s]) w:=by kernel_rfl
set_option maxRecDepth 100000 in
set_option maxHeartbeats 1600000 in
theorem axh(b off:Nat)(s:ByteArray)(G:World->Prop)(R:Value->World->Prop)(w:World)(h0:w.cell? ⟨b,off,none⟩=some (.int .u32 0))(h1:w.cell? ⟨b,off+1,none⟩=some (.int .i32 0))
  (f1:w.frozen? ⟨b,off+1,none⟩=false)
  (hf:Calls prog 139 #[.pointer (some ⟨b,off,none⟩)] (w.setCell ⟨b,off+1,none⟩ (.int .i32 1)) λe w'=>e =.returned (.tuple #[])/\G w')
  (hG:∀w',G w'->w'.cell? ⟨b,off,none⟩=some (.int .u32 0)/\w'.cell? ⟨b,off+1,none⟩=some (.int .i32 1)/\w'.frozen? ⟨b,off,none⟩=false/\w'.frozen? ⟨b,off+1,none⟩=false)
  (hR:∀w',G w'->∃p,w'.cell? ⟨b,off+3,none⟩=some (.iface 231 (.pointer (some p)))/\Calls prog 251 #[.pointer (some p),.string s] ((w'.drew.setCell ⟨b,off,none⟩ (.int .u32 1)).setCell ⟨b,off+1,none⟩ (.int .i32 0)) λe w'=>∃r,e =.returned r/\R r w'):
  Calls prog 105 #[.pointer (some ⟨b,off,none⟩),.string s] w λe w'=>∃r,e =.returned r/\R r w':=by
 have hm:=az5;have hmf:∀(fn:Fn) (first cap:Array Value) (w:World),(Instr.makeFunc fn first cap).run prog w =.ok (.func fn first cap) w:=λ_ _ _ _=>rfl
 go_enter func105,Tryz.ntmps105
 go_wp2_with (go_at_call 138;refine(oDo b off G _ h0 h1 f1 hf hG).mono ?_;rintro e w2 ⟨rfl,w1,hg,rfl⟩;obtain⟨p,hi,hr⟩:=hR w1 hg)
 go_wp2_with (go_at_call 251;refine hr.mono ?_;rintro e w3 ⟨r,rfl,hr3⟩)
 go_ret
 exact⟨r,rfl,hr3⟩
open Go.St Go.RowKit
theorem ap2{w:World}{b base i:Nat}{cur:Array Value}{e:TypeId}{fz:Nat×Nat}(hb:w.heap[b]?=some (.cells cur e fz)):w.cell? ⟨b,base+i,none⟩=cur[base+i]?:=by
 simp[World.cell?,hb]
theorem aqd{w:World}{b i:Nat}{cur:Array Value}{e:TypeId}(hb:w.heap[b]?=some (.cells cur e (0,0))):w.frozen? ⟨b,i,none⟩=false:=by
 simp[World.frozen?,hb]
theorem ayY{own:Nat->Prop}{β:Bl}{h:AH}{w:World}(hs:bV own β h.H h.nx w){id b base off:Nat}{cs cs':LA}{v:Value}{a:AV}(hc:h.ab id=some cs)(hβ:β id=some (b,base))(hsp:fi cs off [a]=some cs')(hv:VR w.heap (Go.Eng.LL own β h.H) β a v):
  bV own β (h.set id (.cells cs')).H h.nx (w.setCell ⟨b,base+off,none⟩ v)/\bJ own β h w β (h.set id (.cells cs')) (w.setCell ⟨b,base+off,none⟩ v):=by
 obtain⟨b',eI,cur,e,hg,hβ',hb,hsz,hR⟩:=hs.row hc;rw[hβ]at hβ';cases hβ';unfold fi at hsp;split at hsp
 ·rename_i hl;simp only[am6,anr]at hl;cases hsp;have hlen:(cs.take off++[a]++cs.drop (off+1)).length=cs.length:=by simp;omega
  refine hs.I6 hg hβ hb (setCell_eq_setRow w b (base+off) cur e (0,0) v hb) (by simp) (by show base+(cs.take off++[a]++cs.drop (off+1)).length<=_;omega) λi c u hi hu=>?_
  rw[Array.getElem?_setIfInBounds]at hu;by_cases hio:i=off
  ·subst hio;rw[am1 rfl,am1 (by omega)]at hu;cases hu;rw[aok,aod,amU (by simp;omega)]at hi;have e1:(List.take i cs).length=i:=by simp;omega
   rw[e1,Nat.sub_self]at hi;simp at hi;subst hi;exact hv
  ·rw[amU (by omega)]at hu;refine hR i c u ?_ hu;rw[<-hi];by_cases h1:i<off
   ·rw[aok,aod,am1 (by simp;omega),anZ,am1 h1]
   ·rw[aok,aod,amU (by simp;omega)];have e1:(List.take off cs).length=off:=by simp;omega
    rw[e1,aod,amU (by simp;omega),anl];congr 1
    simp;omega
 ·cases hsp
theorem azh:Fex prog 105:=⟨_,func105,rfl,by decide⟩
theorem ax7{hp:Array Obj}{L:Nat->Prop}{β:Bl}{id:Nat}{s:Str}{cS:Array Value}(hR:Go.Eng.RL hp L β [.ptr id 0,.str s] cS.toList):∃b base,β id=some (b,base)/\cS = #[.pointer (some ⟨b,base,none⟩),.string ⟨s.toArray⟩]:=by
 have hl:=hR.1;obtain⟨l⟩:=cS;match l,hl,hR with
 |[u,v],_,hR=>
  have h0:=hR.2 0 _ u rfl rfl;have h1:=hR.2 1 _ v rfl rfl;cases h0 with
  |ptr _ _ b base hb=>
  cases h1;exact⟨b,base,hb,rfl⟩
theorem ay1{hp:Array Obj}{L:Nat->Prop}{β:Bl}{a:AV}{v:Value}(h:VR hp L β a v):Go.Eng.RL hp L β [a] (#[v]:Array Value).toList:=⟨rfl,λi c u hc hu=>by
 match i with
 |0=>cases hc;cases hu;exact h
 |i+1=>simp at hc⟩
theorem azg{hp:Array Obj}{L:Nat->Prop}{β:Bl}{a b:AV}{v u:Value}(h:VR hp L β a v)(h2:VR hp L β b u):Go.Eng.RL hp L β [a,b] (#[v,u]:Array Value).toList:=⟨rfl,λi c x hc hu=>by
 match i with
 |0=>cases hc;cases hu;exact h
 |1=>cases hc;cases hu;exact h2
 |i+2=>simp at hc⟩
theorem avv(h:AH)(id k:Nat)(s:Str)(hc:h.ab id=some (rpH 0 0 0 .gf (.rsl k 0 6 1)))(hk:h.ab k=some R2)(hid:id<h.nx)(hkn:k<h.nx)(hs:s.length<=1000000):
  aK prog 105 [.ptr id 0,.str s] h (.str (p7 s)) (h.set id (.cells (rpH 1 0 0 rpI .aa))):=by
 refine⟨azh,λown β w cS hS hR=>?_⟩;obtain⟨b,base,hβ,rfl⟩:=ax7 hR;have hne:k≠id:=by
  intro e;subst e;rw[hc]at hk;have h56:(5:Nat)=6:=congrArg List.length (anW hk);omega
 obtain⟨b',eI,cur,e,hg,hβ',hb,hsz,aAE⟩:=hS.row hc;rw[hβ]at hβ';cases hβ';have hsz:base+5<=cur.size:=hsz;have c0:w.cell? ⟨b,base,none⟩=some (.int .u32 0):=by
  rw[show base=base+0 from rfl,ap2 hb];obtain⟨v,hv⟩:∃v,cur[base+0]?=some v:=⟨cur[base+0],aCf (by omega)⟩;rw[hv];have:=aAE 0 _ v rfl hv;cases this;rfl
 have c1:w.cell? ⟨b,base+1,none⟩=some (.int .i32 0):=by
  rw[ap2 hb];obtain⟨v,hv⟩:∃v,cur[base+1]?=some v:=⟨cur[base+1],aCf (by omega)⟩;rw[hv];have:=aAE 1 _ v rfl hv;cases this;rfl
 obtain⟨sA,tA⟩:=ayY hS hc hβ (off:=1) (a:=.int .i32 1) (v:=.int .i32 1) (cs':=rpH 0 1 0 .gf (.rsl k 0 6 1)) rfl (.int _ _);have hcA:(h.set id (.cells (rpH 0 1 0 .gf (.rsl k 0 6 1)))).ab id=some (rpH 0 1 0 .gf (.rsl k 0 6 1)):=eD _ _ _ _ rfl;have hkA:(h.set id (.cells (rpH 0 1 0 .gf (.rsl k 0 6 1)))).ab k=some R2:=by rw[ak _ _ _ _ hne];exact hk
 have gA:∀j,j≠id->(h.set id (.cells (rpH 0 1 0 .gf (.rsl k 0 6 1)))).H.get j=h.H.get j:=λj hj=>by rw[au,amU hj]
 have nA:(h.set id (.cells (rpH 0 1 0 .gf (.rsl k 0 6 1)))).nx=h.nx:=rfl;generalize h.set id (.cells (rpH 0 1 0 .gf (.rsl k 0 6 1)))=hA at*;have sA:bV own β hA.H hA.nx (w.setCell ⟨b,base+1,none⟩ (.int .i32 1)):=by rw[nA];exact sA
 have hO:=avw hA id k 0 1 0 .gf hcA hkA (by omega) (by omega);have hc2:(hA.set id (.cells (rpH 0 1 0 rpI .aa))).ab id=some (rpH 0 1 0 rpI .aa):=eD _ _ _ _ rfl;have g2:∀j,j≠id->(hA.set id (.cells (rpH 0 1 0 rpI .aa))).H.get j=h.H.get j:=λj hj=>by rw[au,amU hj];exact gA j hj
 have n2:(hA.set id (.cells (rpH 0 1 0 rpI .aa))).nx=h.nx:=nA;generalize hA.set id (.cells (rpH 0 1 0 rpI .aa))=h2 at*;have cO:=hO.2 own β _ #[.pointer (some ⟨b,base,none⟩)] sA (ay1 (.ptr id 0 b base hβ));have ajo:∀(β1:Bl) (w1:World),bV own β1 h2.H h2.nx w1->β1 id=some (b,base)->∃aqK e1,w1.heap[b]?=some (.cells aqK e1 (0,0))/\base+5<=aqK.size/\(∀(i:Nat) (c:AV) (v:Value),(rpH 0 1 0 rpI .aa)[i]?=some c->aqK[base+i]?=some v->VR w1.heap (Go.Eng.LL own β1 h2.H) β1 c v):=λβ1 w1 s1 hb1=>by
  obtain⟨b',eI,aqK,e1,_,hβ1,hb',azv,hR1⟩:=s1.row hc2;rw[hb1]at hβ1;cases hβ1;exact⟨aqK,e1,hb',azv,hR1⟩
 refine(axh b base ⟨s.toArray⟩ (λw1=>∃β1,bV own β1 h2.H h2.nx w1/\bJ own β h w β1 h2 w1) (λr w'=>∃β',r =.string ⟨(p7 s).toArray⟩/\bV own β' (h.set id (.cells (rpH 1 0 0 rpI .aa))).H h.nx w'/\bJ own β h w β' (h.set id (.cells (rpH 1 0 0 rpI .aa))) w') w c0 c1 (aqd hb) ?_ ?_ ?_).mono ?_
 ·refine cO.mono ?_;rintro e1 w1 ⟨cv,v,h',β1,rfl,⟨rfl,rfl⟩,q1,q2,q3⟩;refine⟨?_,β1,q1,tA.trans q3⟩;cases q2 with
  |tup _ vs hl _=>
   have:vs = #[]:=Array.eq_empty_of_size_eq_zero hl.symm;rw[this]
 ·rintro w1 ⟨β1,s1,t1⟩;obtain⟨aqK,e1,hb1,azv,hR1⟩:=ajo β1 w1 s1 (t1.ext _ _ hβ);refine⟨?_,?_,aqd hb1,aqd hb1⟩
  ·rw[show base=base+0 from rfl,ap2 hb1];obtain⟨v,hv⟩:∃v,aqK[base+0]?=some v:=⟨aqK[base+0],aCf (by omega)⟩;rw[hv];have:=hR1 0 _ v rfl hv;cases this;rfl
  ·rw[ap2 hb1];obtain⟨v,hv⟩:∃v,aqK[base+1]?=some v:=⟨aqK[base+1],aCf (by omega)⟩;rw[hv];have:=hR1 1 _ v rfl hv;cases this;rfl
 ·rintro w1 ⟨β1,s1,t1⟩;have hb1:=t1.ext _ _ hβ;obtain⟨aqK,e1,hbb,azv,hR1⟩:=ajo β1 w1 s1 hb1;obtain⟨v,hv⟩:∃v,aqK[base+3]?=some v:=⟨aqK[base+3],aCf (by omega)⟩;have hvr:=hR1 3 _ v rfl hv;obtain⟨p,rfl,hp⟩:∃p,v =.iface 231 (.pointer (some p))/\VR w1.heap (Go.Eng.LL own β1 h2.H) β1 (.lz rpR) (.pointer (some p)):=by
   cases hvr with
   |iface _ _ u hu=>
    cases hu with
    |lz _ b2 o2 c2 e2 fz q1 q2 q3 q4=>exact⟨_,rfl,.lz _ b2 o2 c2 e2 fz q1 q2 q3 q4⟩
  refine⟨p,by rw[ap2 hbb];exact hv,?_⟩;have s1d:bV own β1 h2.H h2.nx w1.drew:=s1.same rfl;have t1d:bJ own β1 h2 w1 β1 h2 w1.drew:=.same rfl rfl rfl rfl;obtain⟨s3,t3⟩:=ayY s1d hc2 hb1 (off:=0) (a:=.int .u32 1) (v:=.int .u32 1) (cs':=rpH 1 1 0 rpI .aa) rfl (.int _ _);obtain⟨s4,t4⟩:=ayY s3 (eD _ _ _ _ rfl) hb1 (off:=1) (a:=.int .i32 0) (v:=.int .i32 0) (cs':=rpH 1 0 0 rpI .aa) rfl (.int _ _);have g4:∀j,((h2.set id (.cells (rpH 1 1 0 rpI .aa))).set id (.cells (rpH 1 0 0 rpI .aa))).H.get j=(h.set id (.cells (rpH 1 0 0 rpI .aa))).H.get j:=λj=>by
   rw[au,au];by_cases hj:j=id
   ·rw[am1 hj,au,am1 hj]
   ·rw[amU hj,amU hj,au,amU hj];exact g2 j hj
  have n4:((h2.set id (.cells (rpH 1 1 0 rpI .aa))).set id (.cells (rpH 1 0 0 rpI .aa))).nx=h.nx:=n2;have hp4:=hp.later ((t1d.trans t3).trans t4).later;have hC:=(avL ((h2.set id (.cells (rpH 1 1 0 rpI .aa))).set id (.cells (rpH 1 0 0 rpI .aa))) s hs).2 own β1 _ #[.pointer (some p),.string ⟨s.toArray⟩] s4 (azg hp4 (.str s));refine hC.mono ?_;rintro e2 w2 ⟨cv,v,h',β2,rfl,⟨rfl,rfl⟩,q1,q2,q3⟩;refine⟨cv,rfl,β2,?_,?_,?_⟩
  ·cases q2;rfl
  ·have:=q1.congr (λj=>(g4 j).symm);rw[n4]at this;exact this
  ·have tt:=t1.trans (((t1d.trans t3).trans t4).trans q3);have:=bJ.congr (H₁:=h.H) (n₁:=h.nx) (H₂:=((h2.set id (.cells (rpH 1 1 0 rpI .aa))).set id (.cells (rpH 1 0 0 rpI .aa))).H) (n₂:=((h2.set id (.cells (rpH 1 1 0 rpI .aa))).set id (.cells (rpH 1 0 0 rpI .aa))).nx) tt (λ_=>rfl) (λj=>(g4 j).symm);rw[n4]at this;exact this
 ·rintro e1 w1 ⟨r,rfl,β',rfl,q1,q2⟩;exact⟨_,_,_,β',rfl,⟨rfl,rfl⟩,q1,.str _,q2⟩
def axS:QE prog:=
 ⟨104,λargs h Q=>∃k,args=[.rsl k 0 6 1]/\h.ab k=some R2/\k<h.nx/\Q (.ptr (h.nx+1) 0) ((h.add (.cells R2)).add (.cells (rpH 0 0 0 .gf (.rsl h.nx 0 6 1)))),λargs h Q ⟨k,h1,h2,h3,h4⟩=>by
  subst h1;exact⟨_,_,aw2 h k h2 h3,h4⟩⟩
theorem azm{tl h}{k:Nat}{Q:QT}(h1:h.ab k=some R2)(h2:k<h.nx)(hq:Q (.ptr (h.nx+1) 0) ((h.add (.cells R2)).add (.cells (rpH 0 0 0 .gf (.rsl h.nx 0 6 1))))):tb (axS::tl) 104 [.rsl k 0 6 1] h Q:=by
 rw[dJ _ tl 104 _ _ _ rfl];exact⟨k,rfl,h1,h2,hq⟩
@[simp ↓] theorem aAZ:TbT axS 104:=aH axS
def aAq:QE prog:=
 ⟨105,λargs h Q=>∃id k s,args=[.ptr id 0,.str s]/\h.ab id=some (rpH 0 0 0 .gf (.rsl k 0 6 1))/\h.ab k=some R2/\id<h.nx/\k<h.nx/\s.length<=1000000/\Q (.str (p7 s)) (h.set id (.cells (rpH 1 0 0 rpI .aa))),λargs h Q ⟨id,k,s,h1,h2,h3,h4,h5,h6,h7⟩=>by
  subst h1;exact⟨_,_,avv h id k s h2 h3 h4 h5 h6,h7⟩⟩
theorem ay2{tl h}{id k:Nat}{s:Str}{Q:QT}(h1:h.ab id=some (rpH 0 0 0 .gf (.rsl k 0 6 1)))(h2:h.ab k=some R2)(h3:id<h.nx)(h4:k<h.nx)(h5:s.length<=1000000)
  (hq:Q (.str (p7 s)) (h.set id (.cells (rpH 1 0 0 rpI .aa)))):tb (aAq::tl) 105 [.ptr id 0,.str s] h Q:=by
 rw[dJ _ tl 105 _ _ _ rfl];exact⟨id,k,s,rfl,h1,h2,h3,h4,h5,hq⟩
theorem awu(h:AH)(s:Str)(hs:s.length<=1000000):aK prog 70 [.str s] h (.str (wQ s)) h:=by
 refine kM (λ_=>.str _) (C70 (aW [axS,aAq]) ?_);have haf:bW [AV.str [],.str [],.str [],.str [],.str [],.str []] [(0,1,.str [92]),(1,1,.str [92,92]),(2,1,.str [34]),(3,1,.str [92,34]),(4,1,.str [10]),(5,1,.str [92,110])]=some R2:=rfl;simp[g70,haf];have fr:=(Fr.refl h).add (.cells R2);have c1:(h.add (.cells R2)).ab h.nx=some R2:=bd _ _ _ rfl;have n1:(h.add (.cells R2)).nx=h.nx+1:=by simp
 generalize h.add (.cells R2)=h1 at*;refine azm c1 (by omega) ?_;have fr2:=(fr.add (.cells R2)).add (.cells (rpH 0 0 0 .gf (.rsl h1.nx 0 6 1)));have c2:((h1.add (.cells R2)).add (.cells (rpH 0 0 0 .gf (.rsl h1.nx 0 6 1)))).ab (h1.nx+1)=some (rpH 0 0 0 .gf (.rsl h1.nx 0 6 1)):=bd _ _ _ (by simp);have c3:((h1.add (.cells R2)).add (.cells (rpH 0 0 0 .gf (.rsl h1.nx 0 6 1)))).ab h1.nx=some R2:=by rw[aC _ _ _ (by simp)];exact bd _ _ _ rfl
 have n2:((h1.add (.cells R2)).add (.cells (rpH 0 0 0 .gf (.rsl h1.nx 0 6 1)))).nx=h1.nx+2:=by simp
 generalize(h1.add (.cells R2)).add (.cells (rpH 0 0 0 .gf (.rsl h1.nx 0 6 1)))=h2 at*;simp[awk];refine ay2 c2 c3 (by omega) (by omega) hs ?_;have hl:=ao9 s;have hl2:=apA s;have fr3:=fr2.set (k:=h1.nx+1) (by omega) (.cells (rpH 1 0 0 rpI .aa));generalize h2.set (h1.nx+1) (.cells (rpH 1 0 0 rpI .aa))=h3 at*;have k1:=bQ (h:=h3) (a:=[34]) (b:=p7 s) (by simp;omega);have k2:=bQ (h:=h3) (a:=[34]++p7 s) (b:=[34]) (by simp;omega);simp only[anB,anx]at k1 k2;simp[av2,k1,k2];exact⟨rfl,fr3⟩
def e70:QE prog:=QE.fn 70 (λ_=>True) (fun(s:Str)=>[.str s]) (fun(s:Str)(h:AH)=>s.length<=1000000) (fun(s:Str)=>.str (wQ s)) (λh s hj hx=>awu h s hx)
theorem au3{tl h}(s:Str){Q:QT}(hx:s.length<=1000000)(hq:Q (.str (wQ s)) h):tb (e70::tl) 70 [.str s] h Q:=aV s trivial hx hq
@[simp ↓] theorem aBs:TbT e70 70:=aH e70
