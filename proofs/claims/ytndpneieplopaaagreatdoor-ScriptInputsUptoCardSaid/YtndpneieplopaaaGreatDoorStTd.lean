/- strings.Builder's WriteString at this program. -/
import Derived.Test.YtndpneieplopaaaGreatDoorTryzShelf
import Derived.WalkKit
import Derived.ProofKit
import Derived.BigCall
import Derived.BigGuard
import Derived.Deep.Heap
import Derived.Lib.RuneBytes
import Derived.Test.YtndpneieplopaaaGreatDoorEngLB
import Derived.Lib.TrimUEq
set_option linter.unusedSimpArgs false
set_option linter.unusedVariables false
noncomputable section
namespace Go.Proofs
open Go.Eng
open Go.Shelf
def Tryz.vq:Go.Shelf.Ren:=⟨fun|166=>31|240=>76|276=>110|n=>n,fun|0=>0|3=>3|4=>4|5=>5|9=>9|20=>20|70=>83|72=>85|37=>80|75=>88|80=>91|164=>149|n=>n,fun|n=>n⟩
theorem agI:Tryz.prog.funcs[76]?=some (Body.n240 Tryz.vq):=Tryz.func76.trans (congrArg some (by kernel_rfl))
theorem agi:Tryz.prog.funcs[110]?=some (Body.n276 Tryz.vq):=Tryz.func110.trans (congrArg some (by kernel_rfl))
theorem afW:Tryz.prog.funcs[31]?=some (Body.n166 Tryz.vq):=Tryz.func31.trans (congrArg some (by kernel_rfl))
theorem Tryz.SJ:Lays.n166 Tryz.prog Tryz.vq:={
 mixed:=by kernel_rfl
 f166:=afW
 f240:=agI
 f276:=agi
 t0:=Tryz.underlying0
 a0:=Tryz.isAgg0
 z0:=Tryz.sizeOf0
 v0:=Tryz.zeroValue0
 t3:=Tryz.underlying3
 a3:=Tryz.isAgg3
 z3:=Tryz.sizeOf3
 v3:=Tryz.zeroValue3
 t4:=Tryz.underlying4
 a4:=Tryz.isAgg4
 z4:=Tryz.sizeOf4
 v4:=Tryz.zeroValue4
 t9:=Tryz.underlying9
 a9:=Tryz.isAgg9
 z9:=Tryz.sizeOf9
 v9:=Tryz.zeroValue9
 t20:=Tryz.underlying20
 a20:=Tryz.isAgg20
 z20:=Tryz.sizeOf20
 v20:=Tryz.zeroValue20
 t37:=Tryz.underlying80
 a37:=Tryz.isAgg80
 z37:=Tryz.sizeOf80
 v37:=Tryz.zeroValue80
 t70:=Tryz.underlying83
 a70:=Tryz.isAgg83
 z70:=Tryz.sizeOf83
 v70:=Tryz.zeroValue83
 t72:=Tryz.underlying85
 a72:=Tryz.isAgg85
 z72:=Tryz.sizeOf85
 v72:=Tryz.zeroValue85
 t75:=Tryz.underlying88
 a75:=Tryz.isAgg88
 z75:=Tryz.sizeOf88
 v75:=Tryz.zeroValue88
 t164:=Tryz.underlying149
 a164:=Tryz.isAgg149
 z164:=Tryz.sizeOf149
 v164:=Tryz.zeroValue149 }
theorem Tryz.oP:Builder.Extra Tryz.prog Tryz.vq:={
 sizeBuilder:=by kernel_rfl
 liesBuilder:=by kernel_rfl
 t5:=Tryz.underlying5
 a5:=Tryz.isAgg5
 z5:=Tryz.sizeOf5
 v5:=Tryz.zeroValue5
 infoByte:=by kernel_rfl
 cellsByte:=by kernel_rfl
 sizeByte:=by kernel_rfl
 neB5:=by decide }
open Go.RowKit
variable {w:World}{v:Value}
theorem JC{b i:Nat}:w.grownBy (w.setCell ⟨b,i,none⟩ v) (some b):=by
 refine⟨rfl,rfl,rfl,?_,λk c a=>?_⟩
 ·simp
 have:k≠b:=λe=>a (by rw[e])
 exact Deep.blk_setCell_other w ⟨b,i,none⟩ v k this
theorem Wc(b:Nat)(p v:Value)(d:List Value)(w:World)(a:w.heap[b]?=some (.cells #[p,v] 85 (0,0)))(i:p =.pointer none\/p =.pointer (some ⟨b,0,none⟩))(h:Eng.Bld 5 b v d w):
  Calls Tryz.prog 76 #[.pointer (some ⟨b,0,none⟩)] w λe w'=>e =.returned (.tuple #[])/\w'.heap[b]?=some (.cells #[.pointer (some ⟨b,0,none⟩),v] 85 (0,0))/\Eng.Bld 5 b v d w'/\w.grownBy w' (some b)/\Eng.Shp w w':=by
 have f:w.cell? ⟨b,0,none⟩=some p:=by rw[Lib.cell_of_heap a];rfl
 have hs:w.shape? b=some (85,2):=by simp[World.shape?,a]
 have j:w.frozen? ⟨b,0,none⟩=false:=Lib.frozen_of_heap a 0;rcases i with rfl|rfl
 ·refine(Any.Builder_copyCheck_fresh { Tryz.SJ with } Tryz.oP.toX72 b w f hs j).mono ?_;rintro e w' ⟨rfl,rfl⟩;have k:w.grownBy (w.setCell ⟨b,0,none⟩ (.pointer (some ⟨b,0,none⟩))) (some b):=JC;refine⟨rfl,?_,⟨h.own.other λg l=>?_,h.ne⟩,k,.setCell _ _ _⟩
  ·simp only[World.setCell,tM];rw[a];simp
  have c:g≠b:=λe=>h.ne (by rw[l,e])
  exact Deep.blk_setCell_other w ⟨b,0,none⟩ _ g c
 refine(Any.Builder_copyCheck_used { Tryz.SJ with } Tryz.oP.toX72 b w f).mono ?_;rintro e w' ⟨rfl,rfl⟩;exact⟨rfl,a,h,⟨rfl,rfl,rfl,ay _,λ_ _ _=>rfl⟩,.refl _⟩
set_option maxHeartbeats 2000000 in
set_option maxRecDepth 100000 in
theorem afk:Eng.SL Tryz.prog 31 85 5:=by
 intro b p v R s w S hp h hlen;obtain⟨i0,hi,C,G,H⟩:=info_parts Tryz.oP.infoByte;have ad:=fK Tryz.underlying85;have af:∀args w,(callFunc 76 args).run Tryz.prog w =.ok (.enter 76 args) w:=enters_of Tryz.func76 (by kernel_rfl) rfl;go_enter Tryz.func31,Tryz.ntmps31
 go_wp2_with (go_at_fn 76;refine(Wc b p v R _ S hp h).mono ?_)
 rintro e N ⟨rfl,l,t,d,z⟩;have J:=Eng.gR l;have c0:N.cell? ⟨b,0,none⟩=some (.pointer (some ⟨b,0,none⟩)):=by rw[Lib.cell_of_heap l];rfl
 have c1:N.cell? ⟨b,1,none⟩=some v:=by rw[Lib.cell_of_heap l];rfl
 go_wp2_with (at_builtin;refine Eng.aiL rfl _ _ 80 9 rfl 5 i0 Tryz.underlying80 Tryz.underlying9 hi C G H _ _ rfl t.own s rfl ?c4 ?_)
 case c4=>omega
 intro T m f a A K B;have i:m.heap[b]?=some (.cells #[.pointer (some ⟨b,0,none⟩),v] 85 (0,0)):=by
  rw[a.block b J (λe=>t.ne e.symm)];exact l
 have d0:m.cell? ⟨b,0,none⟩=some (.pointer (some ⟨b,0,none⟩)):=by rw[Lib.cell_of_heap i];rfl
 have d1:m.cell? ⟨b,1,none⟩=some v:=by rw[Lib.cell_of_heap i];rfl
 have f1:m.frozen? ⟨b,1,none⟩=false:=Lib.frozen_of_heap i 1;obtain⟨q,r,cap,rfl⟩:∃q r cap,T =.slice q r cap:=by
  rcases f with⟨j,_⟩|⟨g,cap,cur,j,_⟩
  ·exact⟨_,_,_,j⟩
  exact⟨_,_,_,j⟩
 go_wp2
 go_ret2
 have u:m.grownBy (m.setCell ⟨b,1,none⟩ (.slice q r cap)) (some b):=JC;have x:(Value.slice q r cap).ownBlock≠some b:=by
  rcases f with⟨j,_⟩|⟨g,c,cur,j,Q,_⟩
  ·cases j;simp[Value.ownBlock]
  cases j;intro e;have:g=b:=by simpa[Value.ownBlock]using e
  subst this;rw[i]at Q;simp at Q
 refine⟨rfl,.slice q r cap,?_,⟨f.other λg j=>?_,x⟩,?_,K.imp_right λU=>⟨_,U,d.size⟩,?_⟩
 ·simp only[World.setCell,tM];rw[i];simp
 ·have L:g≠b:=λe=>x (by rw[j,e])
  exact Deep.blk_setCell_other m ⟨b,1,none⟩ _ g L
 ·rw[A];refine and_congr_right λ_=>?_
  constructor
  ·rintro rfl;rfl
  intro V;exact ByteArray.size_eq_zero_iff.1 V
 refine⟨a.os.trans d.os,a.tape.trans d.tape,a.output.trans d.output,bf d.size (bf a.size u.size),λk W y M=>?_,(z.trans B).trans (.setCell _ _ _)⟩;rw[u.block k (by have:=d.size;have:=a.size;omega) (by simpa using y),a.block k (by have:=d.size;omega) M,d.block k W (by simpa using y)]
end Go.Proofs
end
noncomputable section
namespace Go.Eng
variable {o:Oper}
section
variable {P:Program} {w:World}
theorem m?(t B e:TypeId)(i:TypeInfo)(G:P.underlying t=some (.slice e))(H:P.info? e=some i)(Q:i.zero=some (.int .u8 0))
  (b:i.size=1) (x:i.bytes=1) (v:Value) (xs:List Value) (A:fc e v xs w) (s:ByteArray) (K:0<s.size) (a:Addr) (c:Nat) (f:∀j u,(Lib.strCells s)[j]?=some u->w.cell? (a.add j)=some u) (l:xs.length+s.size<=140737488355328):
  ∃q w',(Builtin.append_ #[t,t] B #[v,.slice (some a) s.size c]).run P w =.ok q w'/\fc e q (xs++Lib.strCells s) w'/\w.grownBy w' v.ownBlock/\
   (q ≠ .slice none 0 0)/\(q.ownBlock=v.ownBlock\/q.ownBlock=some w.heap.size)/\Shp w w':=by
 have C:(xs++Lib.strCells s).length=xs.length+s.size:=by rw[au,Lib.strCells_length]
 have y:(Value.int IntKind.u8 0).cells.size=1:=rfl;rcases A with⟨rfl,rfl⟩|⟨g,cap,cur,rfl,r,U,L,V,h⟩
 ·simp only[bz,j4]at l C;have p:=run_append_nil (P:=P) w t B e i (.int .u8 0) G H Q a s.size c (Lib.strCells s) (by rw[b,Lib.strCells_length];omega) f K (by omega) (by rw[x];omega);have M:=grownCap_ge w s.size 0 e;have hm:grownCap w s.size 0 e<=maxLen:=zJ w s.size 0 e (by simp only[maxLen];omega);refine⟨_,_,p,.inr ⟨w.heap.size,_,_,by rw[C],vI w.drew _,by omega,hm,?_,?_⟩,⟨rfl,rfl,rfl,by simp,λk d _=>heap_alloc_old w.drew _ d⟩,by simp,.inr rfl,λk c2 R S d=>⟨c2,by rw[heap_alloc_old w.drew _ (gR d)];exact d,rfl⟩⟩
  ·simp only[zM,rn,size_zeroCells,y,Lib.strCells_length];omega
  simp only[zI];exact vK
 by_cases m:xs.length+s.size<=cap
 ·have p:=run_append_room (P:=P) w t B e i G H g xs.length cap cur r a s.size c (Lib.strCells s) (by rw[b,Lib.strCells_length];omega) f (Lib.strCells_oneCell s) m (by rw[b,Lib.strCells_length];omega);rw[b,Nat.mul_one,Lib.strCells_length]at p;refine⟨_,_,p,.inr ⟨g,cap,_,by rw[C],setRow_heap w g cur _ e _ r,by omega,L,?_,?_⟩,⟨rfl,rfl,rfl,by simp,λk _ d=>vF w g k _ (λe=>d (by simp[Value.ownBlock,e]))⟩,by simp,.inl rfl,λk c2 R S d=>?_⟩
  ·simp only[rn,au,mv,bW,tQ,Lib.strCells_length];omega
  ·rw[h];exact vK
  by_cases z:k=g
  ·subst z;rw[r]at d;cases d;refine⟨_,setRow_heap w k _ _ e _ r,?_⟩;simp only[rn,au,mv,bW,tQ,Lib.strCells_length];omega
  exact⟨c2,by rw[vF w g k _ z];exact d,rfl⟩
 have holds:∀(j:Nat) u,xs[j]?=some u->w.cell? ((⟨g,0,none⟩:Addr).add j)=some u:=λj u J=>by
  have N:j<xs.length:=(aL.1 J).1;rw[<-h,gN,Z N]at J;have T:((⟨g,0,none⟩:Addr).add j)=⟨g,j,none⟩:=by cases j<;>simp[Addr.add]
  rw[T];simp only[World.cell?,r];simpa using J
 have p:=run_append_grow (P:=P) w t B e i (.int .u8 0) G H Q ⟨g,0,none⟩ xs.length cap xs (by rw[b];simp) holds a s.size c (Lib.strCells s) (by rw[b,Lib.strCells_length];omega) f (by omega) (by omega) (by rw[x];exact growslice_fits (by omega) (by omega));have M:=grownCap_ge w (xs.length+s.size) cap e;have hm:grownCap w (xs.length+s.size) cap e<=maxLen:=zJ w (xs.length+s.size) cap e (by simp only[maxLen];omega);refine⟨_,_,p,.inr ⟨w.heap.size,_,_,by rw[C],vI w.drew _,by omega,hm,?_,?_⟩,⟨rfl,rfl,rfl,by simp,λk d _=>heap_alloc_old w.drew _ d⟩,by simp,.inr rfl,λk c2 R S d=>⟨c2,by rw[heap_alloc_old w.drew _ (gR d)];exact d,rfl⟩⟩
 ·simp only[zM,rn,size_zeroCells,y,Lib.strCells_length];omega
 simp only[zI,gr];rw[<-gr];exact vK
theorem vS{l:Array Oper}{iX:List Oper}{a:Act}{Q:Exit->Act->World->Prop}(q:o.guard=none)(z x:Operand)(t:TypeId)
  (A:o.op =.call { callee:=.builtin .append,args:= #[z,x],argTypes:= #[t,t] })
  (e:TypeId) (i:TypeInfo) (B:P.underlying t=some (.slice e)) (C:P.info? e=some i) (G:i.zero=some (.int .u8 0))
  (g:i.size=1) (r:i.bytes=1) (v:Value) (xs:List Value) (H:a.eval z=v) (p:fc e v xs w) (s:ByteArray) (y:0<s.size) (b:Addr) (m c:Nat) (J:a.eval x =.slice (some b) m c) (L:m=s.size)
  (k:∀j u,(Lib.strCells s)[j]?=some u->w.cell? (b.add j)=some u) (d:xs.length+s.size<=140737488355328)
  (h:∀f w',fc e f (xs++Lib.strCells s) w'->w.grownBy w' v.ownBlock->f ≠ .slice none 0 0->(f.ownBlock=v.ownBlock\/f.ownBlock=some w.heap.size)->Shp w w'->wpList P l Q iX (a.put o.dst f) w'):wpList P l Q (o::iX) a w:=by
 subst L;refine wpList_plain q λK M=>?_
 obtain⟨f,w',N,h2,R,S,T,U⟩:=m? (P:=P) (w:=w) t o.type e i B C G g r v xs p s y b c k d;unfold Oper.wp execOp;simp only[A,resolve,invoke,builtin,dy,fC,ey,List.map_toArray,da,h_,H,J,N];exact M _ _ (h f w' h2 R S T U)
theorem Shp.alloc(w:World)(o:Obj):Shp w (w.alloc o):=λk cur e b a=>⟨cur,by rw[heap_alloc_old w o (gR a)];exact a,rfl⟩
end
end Go.Eng
end
noncomputable section
namespace Go.St
open Go.Eng
open Go.Lib
def qL(n:Int):Prop:=0<=n/\(n<55296\/(57344<=n/\n<=1114111))
theorem toN(a:Nat)(h:a<256):(UInt8.ofNat a).toNat=a:=by
 rw[UInt8.toNat_ofNat'];omega
variable {n:Int}
theorem ac6(e:qL n)(iX:List UInt8):decodeL (e_ n++iX)=(n.toNat,(e_ n).length):=by
 obtain⟨m,rfl⟩:=kL e.1;have i:=e.2;rw[decodeL_N,nR];unfold encodeRune;rw[pU];by_cases f:m<128
 ·rw[encodeRuneZ_one (by omega) (by omega)];have g:=toN m (by omega);simp[g,decodeN,f]
 by_cases h2:m<2048
 ·rw[encodeRuneZ_two (by omega) (by omega)];have a:((192:Int)+(m:Int)/64).toNat=192+m/64:=by omega
  have a2:((128:Int)+(m:Int)%64).toNat=128+m%64:=by omega
  have b:=toN (192+m/64) (by omega);have c:=toN (128+m%64) (by omega);simp only[da,h_,a,a2,Nat.toUInt8,cp,cD,List.getD_cons_zero,List.getD_cons_succ,b,c,aF,bz];generalize List.getD iX 0 0=x;generalize List.getD iX 1 0=y;unfold decodeN;rw[O (by omega),Z (by omega),Z (by omega)];congr 1
  omega
 by_cases j:m<65536
 ·rw[encodeRuneZ_three (by omega)];have a:((224:Int)+(m:Int)/4096).toNat=224+m/4096:=by omega
  have a2:((128:Int)+(m:Int)/64%64).toNat=128+m/64%64:=by omega
  have a3:((128:Int)+(m:Int)%64).toNat=128+m%64:=by omega
  have b:=toN (224+m/4096) (by omega);have c:=toN (128+m/64%64) (by omega);have d:=toN (128+m%64) (by omega);simp only[da,h_,a,a2,a3,Nat.toUInt8,cp,cD,List.getD_cons_zero,List.getD_cons_succ,b,c,d,aF,bz];generalize List.getD iX 0 0=x;unfold decodeN;rw[O (by omega),O (by omega),Z (by omega),Z (by omega)];congr 1
  omega
 rw[encodeRuneZ_four (by omega) (by omega)];have a:((240:Int)+(m:Int)/262144).toNat=240+m/262144:=by omega
 have a2:((128:Int)+(m:Int)/4096%64).toNat=128+m/4096%64:=by omega
 have a3:((128:Int)+(m:Int)/64%64).toNat=128+m/64%64:=by omega
 have a4:((128:Int)+(m:Int)%64).toNat=128+m%64:=by omega
 have b:=toN (240+m/262144) (by omega);have c:=toN (128+m/4096%64) (by omega);have d:=toN (128+m/64%64) (by omega);have h:=toN (128+m%64) (by omega);simp only[da,h_,a,a2,a3,a4,Nat.toUInt8,cp,cD,List.getD_cons_zero,List.getD_cons_succ,b,c,d,h,aF,bz];unfold decodeN;rw[O (by omega),O (by omega),O (by omega),Z (by omega),Z (by omega)];congr 1
 omega
theorem PO(a:qL n):e_ n≠[]:=by
 intro e;have:=ac6 a [];have hw:=decodeL_width (e_ n++[]);rw[this,e]at hw;simp at hw
