/- strings.Builder's WriteString at this program. -/
import Derived.Test.YtndpneieplopaaaGreatDoorTryzShelf
import Derived.WalkKit
import Derived.ProofKit
import Derived.BigCall
import Derived.BigGuard
import Derived.Deep.Heap
import Derived.Test.YtndpneieplopaaaGreatDoorEngLB
import Derived.Lib.RuneBytes
import Derived.Lib.TrimUEq
set_option linter.unusedSimpArgs false
set_option linter.unusedVariables false
noncomputable section
namespace Go.Proofs
open Go.Eng
open Go.Shelf
def Tryz.axv:Go.Shelf.Ren:=⟨fun|166=>31|240=>76|276=>110|n=>n,fun|0=>0|3=>3|4=>4|5=>5|9=>9|20=>20|70=>83|72=>85|37=>80|75=>88|80=>91|164=>149|n=>n,fun|n=>n⟩
theorem az2:Tryz.prog.funcs[76]?=some (Body.n240 Tryz.axv):=Tryz.func76.trans (congrArg some (by kernel_rfl))
theorem aAk:Tryz.prog.funcs[110]?=some (Body.n276 Tryz.axv):=Tryz.func110.trans (congrArg some (by kernel_rfl))
theorem azU:Tryz.prog.funcs[31]?=some (Body.n166 Tryz.axv):=Tryz.func31.trans (congrArg some (by kernel_rfl))
theorem Tryz.avl:Lays.n166 Tryz.prog Tryz.axv:={
 mixed:=by kernel_rfl
 f166:=azU
 f240:=az2
 f276:=aAk
 t0:=Tryz.underlying0
 a0:=Tryz.isAgg0
 z0:=Tryz.sizeOf0
 v0:=Tryz.zeroValue0
 t3:=Tryz.underlying3
 a3:=Tryz.isAgg3
 z3:=Tryz.sizeOf3
 v3:=Tryz.zeroValue3
 t4:=Tryz.underlying4
 a4:=Tryz.isAgg4
 z4:=Tryz.sizeOf4
 v4:=Tryz.zeroValue4
 t9:=Tryz.underlying9
 a9:=Tryz.isAgg9
 z9:=Tryz.sizeOf9
 v9:=Tryz.zeroValue9
 t20:=Tryz.underlying20
 a20:=Tryz.isAgg20
 z20:=Tryz.sizeOf20
 v20:=Tryz.zeroValue20
 t37:=Tryz.underlying80
 a37:=Tryz.isAgg80
 z37:=Tryz.sizeOf80
 v37:=Tryz.zeroValue80
 t70:=Tryz.underlying83
 a70:=Tryz.isAgg83
 z70:=Tryz.sizeOf83
 v70:=Tryz.zeroValue83
 t72:=Tryz.underlying85
 a72:=Tryz.isAgg85
 z72:=Tryz.sizeOf85
 v72:=Tryz.zeroValue85
 t75:=Tryz.underlying88
 a75:=Tryz.isAgg88
 z75:=Tryz.sizeOf88
 v75:=Tryz.zeroValue88
 t164:=Tryz.underlying149
 a164:=Tryz.isAgg149
 z164:=Tryz.sizeOf149
 v164:=Tryz.zeroValue149 }
theorem Tryz.wh:Builder.Extra Tryz.prog Tryz.axv:={
 sizeBuilder:=by kernel_rfl
 liesBuilder:=by kernel_rfl
 t5:=Tryz.underlying5
 a5:=Tryz.isAgg5
 z5:=Tryz.sizeOf5
 v5:=Tryz.zeroValue5
 infoByte:=by kernel_rfl
 cellsByte:=by kernel_rfl
 sizeByte:=by kernel_rfl
 neB5:=by decide }
open Go.RowKit
theorem apz{w:World}{b i:Nat}{v:Value}:w.grownBy (w.setCell ⟨b,i,none⟩ v) (some b):=by
 refine⟨rfl,rfl,rfl,?_,λk hk hne=>?_⟩
 ·simp
 ·have:k≠b:=λe=>hne (by rw[e])
  exact Deep.blk_setCell_other w ⟨b,i,none⟩ v k this
theorem awZ(b:Nat)(p v:Value)(bs:List Value)(w:World)(hb:w.heap[b]?=some (.cells #[p,v] 85 (0,0)))(hp:p =.pointer none\/p =.pointer (some ⟨b,0,none⟩))(h:Eng.Bld 5 b v bs w):
  Calls Tryz.prog 76 #[.pointer (some ⟨b,0,none⟩)] w λe w'=>e =.returned (.tuple #[])/\w'.heap[b]?=some (.cells #[.pointer (some ⟨b,0,none⟩),v] 85 (0,0))/\Eng.Bld 5 b v bs w'/\w.grownBy w' (some b)/\Eng.Shp w w':=by
 have hc:w.cell? ⟨b,0,none⟩=some p:=by rw[Lib.cell_of_heap hb];rfl
 have hs:w.shape? b=some (85,2):=by simp[World.shape?,hb]
 have hf:w.frozen? ⟨b,0,none⟩=false:=Lib.frozen_of_heap hb 0;rcases hp with rfl|rfl
 ·refine(Any.Builder_copyCheck_fresh { Tryz.avl with } Tryz.wh.toX72 b w hc hs hf).mono ?_;rintro e w' ⟨rfl,rfl⟩;have hg:w.grownBy (w.setCell ⟨b,0,none⟩ (.pointer (some ⟨b,0,none⟩))) (some b):=apz;refine⟨rfl,?_,⟨h.own.other λg hv=>?_,h.ne⟩,hg,.setCell _ _ _⟩
  ·simp only[World.setCell,aCi];rw[hb];simp
  ·have hgb:g≠b:=λe=>h.ne (by rw[hv,e])
   exact Deep.blk_setCell_other w ⟨b,0,none⟩ _ g hgb
 ·refine(Any.Builder_copyCheck_used { Tryz.avl with } Tryz.wh.toX72 b w hc).mono ?_;rintro e w' ⟨rfl,rfl⟩;exact⟨rfl,hb,h,⟨rfl,rfl,rfl,amY _,λ_ _ _=>rfl⟩,.refl _⟩
set_option maxHeartbeats 2000000 in
set_option maxRecDepth 100000 in
theorem azo:Eng.avk Tryz.prog 31 85 5:=by
 intro b p v bs s w hb hp h hlen;obtain⟨i0,hi,hz0,hz1,hz2⟩:=info_parts Tryz.wh.infoByte;have u85:=anJ Tryz.underlying85;have e76:∀args w,(callFunc 76 args).run Tryz.prog w =.ok (.enter 76 args) w:=enters_of Tryz.func76 (by kernel_rfl) rfl;go_enter Tryz.func31,Tryz.ntmps31
 go_wp2_with (go_at_fn 76;refine(awZ b p v bs _ hb hp h).mono ?_)
 rintro e w1 ⟨rfl,hbk,hB1,hg1,azw⟩;have hlt:=Eng.gg hbk;have c0:w1.cell? ⟨b,0,none⟩=some (.pointer (some ⟨b,0,none⟩)):=by rw[Lib.cell_of_heap hbk];rfl
 have c1:w1.cell? ⟨b,1,none⟩=some v:=by rw[Lib.cell_of_heap hbk];rfl
 go_wp2_with (at_builtin;refine Eng.aqX rfl _ _ 80 9 rfl 5 i0 Tryz.underlying80 Tryz.underlying9 hi hz0 hz1 hz2 _ _ rfl hB1.own s rfl ?c4 ?_)
 case c4=>omega
 intro v' w2 apG apq abI hob aBh;have hb2:w2.heap[b]?=some (.cells #[.pointer (some ⟨b,0,none⟩),v] 85 (0,0)):=by
  rw[apq.block b hlt (λe=>hB1.ne e.symm)];exact hbk
 have d0:w2.cell? ⟨b,0,none⟩=some (.pointer (some ⟨b,0,none⟩)):=by rw[Lib.cell_of_heap hb2];rfl
 have d1:w2.cell? ⟨b,1,none⟩=some v:=by rw[Lib.cell_of_heap hb2];rfl
 have f1:w2.frozen? ⟨b,1,none⟩=false:=Lib.frozen_of_heap hb2 1;obtain⟨ao,n',cap,rfl⟩:∃ao n' cap,v' =.slice ao n' cap:=by
  rcases apG with⟨hv,_⟩|⟨g,cap,cur,hv,_⟩
  ·exact⟨_,_,_,hv⟩
  ·exact⟨_,_,_,hv⟩
 go_wp2
 go_ret2
 have hg3:w2.grownBy (w2.setCell ⟨b,1,none⟩ (.slice ao n' cap)) (some b):=apz;have hne:(Value.slice ao n' cap).ownBlock≠some b:=by
  rcases apG with⟨hv,_⟩|⟨g,c,cur,hv,hg,_⟩
  ·cases hv;simp[Value.ownBlock]
  ·cases hv;intro e;have:g=b:=by simpa[Value.ownBlock]using e
   subst this;rw[hb2]at hg;simp at hg
 refine⟨rfl,.slice ao n' cap,?_,⟨apG.other λg hv=>?_,hne⟩,?_,hob.imp_right λhq=>⟨_,hq,hg1.size⟩,?_⟩
 ·simp only[World.setCell,aCi];rw[hb2];simp
 ·have hgb:g≠b:=λe=>hne (by rw[hv,e])
  exact Deep.blk_setCell_other w2 ⟨b,1,none⟩ _ g hgb
 ·rw[abI];refine and_congr_right λ_=>?_
  constructor
  ·rintro rfl;rfl
  ·intro h0;exact ByteArray.size_eq_zero_iff.1 h0
 ·refine⟨apq.os.trans hg1.os,apq.tape.trans hg1.tape,apq.output.trans hg1.output,ane hg1.size (ane apq.size hg3.size),λk hk hkb hkv=>?_,(azw.trans aBh).trans (.setCell _ _ _)⟩;rw[hg3.block k (by have:=hg1.size;have:=apq.size;omega) (by simpa using hkb),apq.block k (by have:=hg1.size;omega) hkv,hg1.block k hk (by simpa using hkb)]
end Go.Proofs
end
noncomputable section
namespace Go.Eng
section
variable {P:Program} {w:World}
theorem ar7(t ty e:TypeId)(i:TypeInfo)(ht:P.underlying t=some (.slice e))(hi:P.info? e=some i)(hz:i.zero=some (.int .u8 0))
  (ao_:i.size=1) (hby:i.bytes=1) (v:Value) (xs:List Value) (ajo:RA e v xs w) (s:ByteArray) (hs0:0<s.size) (a:Addr) (c:Nat) (atg:∀j u,(Lib.strCells s)[j]?=some u->w.cell? (a.add j)=some u) (apI:xs.length+s.size<=140737488355328):
  ∃v' w',(Builtin.append_ #[t,t] ty #[v,.slice (some a) s.size c]).run P w =.ok v' w'/\RA e v' (xs++Lib.strCells s) w'/\w.grownBy w' v.ownBlock/\
   (v' ≠ .slice none 0 0)/\(v'.ownBlock=v.ownBlock\/v'.ownBlock=some w.heap.size)/\Shp w w':=by
 have hl:(xs++Lib.strCells s).length=xs.length+s.size:=by rw[amX,Lib.strCells_length]
 have hz1:(Value.int IntKind.u8 0).cells.size=1:=rfl;rcases ajo with⟨rfl,rfl⟩|⟨g,cap,cur,rfl,hg,hnc,hcm,hcs,ate⟩
 ·simp only[anr,aoe]at apI hl;have hr:=run_append_nil (P:=P) w t ty e i (.int .u8 0) ht hi hz a s.size c (Lib.strCells s) (by rw[ao_,Lib.strCells_length];omega) atg hs0 (by omega) (by rw[hby];omega);have hge:=grownCap_ge w s.size 0 e;have hm:grownCap w s.size 0 e<=maxLen:=aCs w s.size 0 e (by simp only[maxLen];omega);refine⟨_,_,hr,.inr ⟨w.heap.size,_,_,by rw[hl],aCz w.drew _,by omega,hm,?_,?_⟩,⟨rfl,rfl,rfl,by simp,λk hk _=>heap_alloc_old w.drew _ hk⟩,by simp,.inr rfl,λk c2 e2 fz hk=>⟨c2,by rw[heap_alloc_old w.drew _ (gg hk)];exact hk,rfl⟩⟩
  ·simp only[aCw,aCk,size_zeroCells,hz1,Lib.strCells_length];omega
  ·simp only[aCr];exact aCA
 ·by_cases tT:xs.length+s.size<=cap
  ·have hr:=run_append_room (P:=P) w t ty e i ht hi g xs.length cap cur hg a s.size c (Lib.strCells s) (by rw[ao_,Lib.strCells_length];omega) atg (Lib.strCells_oneCell s) tT (by rw[ao_,Lib.strCells_length];omega);rw[ao_,Nat.mul_one,Lib.strCells_length]at hr;refine⟨_,_,hr,.inr ⟨g,cap,_,by rw[hl],setRow_heap w g cur _ e _ hg,by omega,hcm,?_,?_⟩,⟨rfl,rfl,rfl,by simp,λk _ hk=>aCB w g k _ (λe=>hk (by simp[Value.ownBlock,e]))⟩,by simp,.inl rfl,λk c2 e2 fz hk=>?_⟩
   ·simp only[aCk,amX,anN,am3,aCl,Lib.strCells_length];omega
   ·rw[ate];exact aCA
   ·by_cases hkg:k=g
    ·subst hkg;rw[hg]at hk;cases hk;refine⟨_,setRow_heap w k _ _ e _ hg,?_⟩;simp only[aCk,amX,anN,am3,aCl,Lib.strCells_length];omega
    ·exact⟨c2,by rw[aCB w g k _ hkg];exact hk,rfl⟩
  ·have holds:∀(j:Nat) u,xs[j]?=some u->w.cell? ((⟨g,0,none⟩:Addr).add j)=some u:=λj u hj=>by
    have hlt:j<xs.length:=(amV.1 hj).1;rw[<-ate,anZ,am1 hlt]at hj;have e1:((⟨g,0,none⟩:Addr).add j)=⟨g,j,none⟩:=by cases j<;>simp[Addr.add]
    rw[e1];simp only[World.cell?,hg];simpa using hj
   have hr:=run_append_grow (P:=P) w t ty e i (.int .u8 0) ht hi hz ⟨g,0,none⟩ xs.length cap xs (by rw[ao_];simp) holds a s.size c (Lib.strCells s) (by rw[ao_,Lib.strCells_length];omega) atg (by omega) (by omega) (by rw[hby];exact growslice_fits (by omega) (by omega));have hge:=grownCap_ge w (xs.length+s.size) cap e;have hm:grownCap w (xs.length+s.size) cap e<=maxLen:=aCs w (xs.length+s.size) cap e (by simp only[maxLen];omega);refine⟨_,_,hr,.inr ⟨w.heap.size,_,_,by rw[hl],aCz w.drew _,by omega,hm,?_,?_⟩,⟨rfl,rfl,rfl,by simp,λk hk _=>heap_alloc_old w.drew _ hk⟩,by simp,.inr rfl,λk c2 e2 fz hk=>⟨c2,by rw[heap_alloc_old w.drew _ (gg hk)];exact hk,rfl⟩⟩
   ·simp only[aCw,aCk,size_zeroCells,hz1,Lib.strCells_length];omega
   ·simp only[aCr,aok];rw[<-aok];exact aCA
theorem RC{ops:Array Oper}{S1:List Oper}{o:Oper}{a:Act}{Q:Exit->Act->World->Prop}(hgd:o.guard=none)(sl x:Operand)(t:TypeId)
  (ho:o.op =.call { callee:=.builtin .append,args:= #[sl,x],argTypes:= #[t,t] })
  (e:TypeId) (i:TypeInfo) (ht:P.underlying t=some (.slice e)) (hi:P.info? e=some i) (hz:i.zero=some (.int .u8 0))
  (ao_:i.size=1) (hby:i.bytes=1) (v:Value) (xs:List Value) (hs:a.eval sl=v) (ajo:RA e v xs w) (s:ByteArray) (hs0:0<s.size) (b:Addr) (m c:Nat) (hx:a.eval x =.slice (some b) m c) (hm:m=s.size)
  (atg:∀j u,(Lib.strCells s)[j]?=some u->w.cell? (b.add j)=some u) (apI:xs.length+s.size<=140737488355328)
  (h:∀v' w',RA e v' (xs++Lib.strCells s) w'->w.grownBy w' v.ownBlock->v' ≠ .slice none 0 0->(v'.ownBlock=v.ownBlock\/v'.ownBlock=some w.heap.size)->Shp w w'->wpList P ops Q S1 (a.put o.dst v') w'):wpList P ops Q (o::S1) a w:=by
 subst hm;refine wpList_plain hgd λK hK=>?_
 obtain⟨v',w',hr,h2,h3,h4,h5,h6⟩:=ar7 (P:=P) (w:=w) t o.type e i ht hi hz ao_ hby v xs ajo s hs0 b c atg apI;unfold Oper.wp execOp;simp only[ho,resolve,invoke,builtin,anq,anG,ani,List.map_toArray,anO,aoq,hs,hx,hr];exact hK _ _ (h v' w' h2 h3 h4 h5 h6)
theorem Shp.alloc(w:World)(o:Obj):Shp w (w.alloc o):=λk cur e fz hk=>⟨cur,by rw[heap_alloc_old w o (gg hk)];exact hk,rfl⟩
end
end Go.Eng
end
noncomputable section
namespace Go.St
open Go.Eng
open Go.Lib
def apk(n:Int):Prop:=0<=n/\(n<55296\/(57344<=n/\n<=1114111))
theorem avr(l:List UInt8):apk ((decodeL l).1:Int):=by
 rw[decodeL_N];generalize l.length=n;have h0:=(l.getD 0 0).toNat_lt;have h1:=(l.getD 1 0).toNat_lt;generalize(l.getD 0 0).toNat=b0 at*;generalize(l.getD 1 0).toNat=b1 at*;generalize(l.getD 2 0).toNat=b2 at*;generalize(l.getD 3 0).toNat=b3 at*;unfold decodeN apk;refine⟨Int.natCast_nonneg _,?_⟩
 (repeat' split)<;>simp only<;>omega
theorem asR:∀(k:Nat) (l:List UInt8),l.length<=k->∀n∈aD l,apk n
 |0,l,h,n,hn=>by
  have:l=[]:=am8 (by omega);subst this;rw[mb]at hn;cases hn
 |k+1,l,h,n,hn=>by
  by_cases hl:l=[]
  ·subst hl;rw[mb]at hn;cases hn
  ·rw[fG l hl]at hn;have hw:=decodeL_width l;rcases anT.1 hn with rfl|hn
   ·exact avr l
   ·exact asR k _ (by rw[am3];have:=anI.2 hl;omega) n hn
theorem toN(a:Nat)(h:a<256):(UInt8.ofNat a).toNat=a:=by
 rw[UInt8.toNat_ofNat'];omega
theorem auV{n:Int}(hv:apk n)(S1:List UInt8):decodeL (oe n++S1)=(n.toNat,(oe n).length):=by
 obtain⟨m,rfl⟩:=anu hv.1;have hv2:=hv.2;rw[decodeL_N,pQ];unfold encodeRune;rw[aou];by_cases h1:m<128
 ·rw[encodeRuneZ_one (by omega) (by omega)];have e0:=toN m (by omega);simp[e0,decodeN,h1]
 by_cases h2:m<2048
 ·rw[encodeRuneZ_two (by omega) (by omega)];have a1:((192:Int)+(m:Int)/64).toNat=192+m/64:=by omega
  have a2:((128:Int)+(m:Int)%64).toNat=128+m%64:=by omega
  have e1:=toN (192+m/64) (by omega);have e2:=toN (128+m%64) (by omega);simp only[anO,aoq,a1,a2,Nat.toUInt8,anB,anx,List.getD_cons_zero,List.getD_cons_succ,e1,e2,am6,anr];generalize List.getD S1 0 0=x;generalize List.getD S1 1 0=y;unfold decodeN;rw[amU (by omega),am1 (by omega),am1 (by omega)];congr 1
  omega
 by_cases h3:m<65536
 ·rw[encodeRuneZ_three (by omega)];have a1:((224:Int)+(m:Int)/4096).toNat=224+m/4096:=by omega
  have a2:((128:Int)+(m:Int)/64%64).toNat=128+m/64%64:=by omega
  have a3:((128:Int)+(m:Int)%64).toNat=128+m%64:=by omega
  have e1:=toN (224+m/4096) (by omega);have e2:=toN (128+m/64%64) (by omega);have e3:=toN (128+m%64) (by omega);simp only[anO,aoq,a1,a2,a3,Nat.toUInt8,anB,anx,List.getD_cons_zero,List.getD_cons_succ,e1,e2,e3,am6,anr];generalize List.getD S1 0 0=x;unfold decodeN;rw[amU (by omega),amU (by omega),am1 (by omega),am1 (by omega)];congr 1
  omega
 ·rw[encodeRuneZ_four (by omega) (by omega)];have a1:((240:Int)+(m:Int)/262144).toNat=240+m/262144:=by omega
  have a2:((128:Int)+(m:Int)/4096%64).toNat=128+m/4096%64:=by omega
  have a3:((128:Int)+(m:Int)/64%64).toNat=128+m/64%64:=by omega
  have a4:((128:Int)+(m:Int)%64).toNat=128+m%64:=by omega
  have e1:=toN (240+m/262144) (by omega);have e2:=toN (128+m/4096%64) (by omega);have e3:=toN (128+m/64%64) (by omega);have e4:=toN (128+m%64) (by omega);simp only[anO,aoq,a1,a2,a3,a4,Nat.toUInt8,anB,anx,List.getD_cons_zero,List.getD_cons_succ,e1,e2,e3,e4,am6,anr];unfold decodeN;rw[amU (by omega),amU (by omega),amU (by omega),am1 (by omega),am1 (by omega)];congr 1
  omega
theorem asr{n:Int}(hv:apk n):oe n≠[]:=by
 intro e;have:=auV hv [];have hw:=decodeL_width (oe n++[]);rw[this,e]at hw;simp at hw
theorem ap6:∀t:List Int,(∀n∈t,apk n)->aD (cC t)=t
 |[],_=>rfl
 |n::t,h=>by
  have hv:=h n (by simp);have hne:cC (n::t)≠[]:=by rw[pf];intro e;exact asr hv (List.append_eq_nil_iff.1 e).1
  rw[fG _ hne,pf,auV hv];simp only;rw[List.drop_left,ap6 t λm hm=>h m (by simp[hm])];congr 1
  have:=hv.1;omega
theorem aqa{t:List Int}(h:∀n∈t,apk n):validD (cC t)=true:=by
 rw[<-Qe,ap6 t h];simp
