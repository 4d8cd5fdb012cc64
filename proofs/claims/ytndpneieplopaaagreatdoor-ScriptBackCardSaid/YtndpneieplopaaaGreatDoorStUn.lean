/- utf8.AppendRune, walked. -/
import Derived.Test.YtndpneieplopaaaGreatDoorStTd
import Derived.Test.YtndpneieplopaaaGreatDoorStUf
set_option linter.unusedSimpArgs false
set_option linter.unusedVariables false
noncomputable section
namespace Go.Proofs
open Go.Eng
open Go.RowKit Tryz
theorem aph{e:TypeId}{v:Value}{xs:List Value}{w:World}(h:RA e v xs w)(o:Obj):RA e v xs (w.alloc o):=by
 refine h.other λg hv=>?_
 rcases h with⟨rfl,_⟩|⟨g',cap,cur,rfl,h3,_⟩
 ·simp[Value.ownBlock]at hv
 ·have:g'=g:=by simpa[Value.ownBlock]using hv
  subst this;exact heap_alloc_old w o (gg h3)
structure arK(v:Value)(bs:List Value)(s:ByteArray)(w:World)(v':Value)(w':World):Prop where
 row:RA 5 v' (bs++Lib.strCells s) w'
 nn:v' ≠ .slice none 0 0
 ob:v'.ownBlock=v.ownBlock\/∃g,v'.ownBlock=some g/\w.heap.size<=g
 os:w'.os=w.os
 tape:w'.tape=w.tape
 out:w'.output=w.output
 size:w.heap.size<=w'.heap.size
 du:∀k,k<w.heap.size->some k≠v.ownBlock->w'.heap[k]?=w.heap[k]?
 shp:Shp w w'
theorem arK.of{v:Value}{bs:List Value}{s:ByteArray}{w:World}{o:Obj}{v':Value}{w':World}(h1:RA 5 v' (bs++Lib.strCells s) w')(h2:(w.alloc o).grownBy w' v.ownBlock)(h3:v' ≠ .slice none 0 0)(h4:v'.ownBlock=v.ownBlock\/v'.ownBlock=some (w.heap.size+1))(h5:Shp (w.alloc o) w'):arK v bs s w v' w':=by
 have hs:(w.alloc o).heap.size=w.heap.size+1:=by simp
 refine⟨h1,h3,h4.imp_right λh=>⟨_,h,by omega⟩,h2.os,h2.tape,h2.output,by have:=h2.size;omega,λk hk hv=>?_,(Shp.alloc w o).trans h5⟩;rw[h2.block k (by omega) hv];exact heap_alloc_old w o hk
def VW(r:Int):ByteArray:=⟨(Lib.encodeRune r).toArray⟩
theorem apa(r:Int):Lib.strCells (VW r)=Lib.runeCells r:=by
 rw[<-Lib.byteCells_encodeRune];rfl
theorem avz(r:Int):(VW r).size=(Lib.runeCells r).length:=by
 rw[<-apa,Lib.strCells_length]
set_option maxHeartbeats 4000000 in
set_option maxRecDepth 100000 in
theorem azj(v:Value)(bs:List Value)(r:Int)(h0:128<=r)(h1:r<=2047)(w:World)(ajo:RA 5 v bs w)(hlen:bs.length+(VW r).size<=140737488355328):
  Calls prog 176 #[v,.int .i32 r] w λe w'=>∃v',e =.returned v'/\arK v bs (VW r) w v' w':=by
 obtain⟨i0,hi,hz0,hz1,hz2⟩:=info_parts Tryz.wh.infoByte;have hsc:Lib.strCells (VW r)=[.int .u8 (192+r/64),.int .u8 (128+r%64)]:=by rw[apa];simp[Lib.runeCells,Lib.encodeRuneZ_two h0 h1]
 have hss:(VW r).size=2:=by rw[<-Lib.strCells_length,hsc];rfl
 go_enter func176,Tryz.ntmps176
 go_wp2_with (at_builtin;refine RC rfl _ _ 80 rfl 5 i0 Tryz.underlying80 hi hz0 hz1 hz2 _ _ rfl (aph ajo _) (VW r) (by omega) ⟨w.heap.size,0,none⟩ 2 2 rfl hss.symm ?c1 ?c2 ?_)
 case c1=>
  rw[hsc];intro j u hj;match j,hj with
  |0,hj=>simp at hj;subst hj;simp[Addr.add]
  |1,hj=>simp at hj;subst hj;simp[Addr.add]
  |(j+2),hj=>simp at hj
 case c2=>omega
 intro v' w2 apG apq hnn hob hsh;go_wp2
 go_ret
 exact⟨v',rfl,.of (by rw[hsc];exact apG) apq hnn hob hsh⟩
set_option maxHeartbeats 4000000 in
set_option maxRecDepth 100000 in
theorem azO(v:Value)(bs:List Value)(r:Int)(h0:2048<=r)(h1:r<55296)(w:World)(ajo:RA 5 v bs w)(hlen:bs.length+(VW r).size<=140737488355328):
  Calls prog 176 #[v,.int .i32 r] w λe w'=>∃v',e =.returned v'/\arK v bs (VW r) w v' w':=by
 obtain⟨i0,hi,hz0,hz1,hz2⟩:=info_parts Tryz.wh.infoByte;have hsc:Lib.strCells (VW r)=[.int .u8 (224+r/4096),.int .u8 (128+r/64%64),.int .u8 (128+r%64)]:=by rw[apa];simp[Lib.runeCells,Lib.encodeRuneZ_three (Or.inl ⟨h0,h1⟩)]
 have hss:(VW r).size=3:=by rw[<-Lib.strCells_length,hsc];rfl
 go_enter func176,Tryz.ntmps176
 go_wp2_with (at_builtin;refine RC rfl _ _ 80 rfl 5 i0 Tryz.underlying80 hi hz0 hz1 hz2 _ _ rfl (aph ajo _) (VW r) (by omega) ⟨w.heap.size,0,none⟩ 3 3 rfl hss.symm ?c1 ?c2 ?_)
 case c1=>
  rw[hsc];intro j u hj;match j,hj with
  |0,hj=>simp at hj;subst hj;simp[Addr.add]
  |1,hj=>simp at hj;subst hj;simp[Addr.add]
  |2,hj=>simp at hj;subst hj;simp[Addr.add]
  |(j+3),hj=>simp at hj
 case c2=>omega
 intro v' w2 apG apq hnn hob hsh;go_wp2
 go_ret
 exact⟨v',rfl,.of (by rw[hsc];exact apG) apq hnn hob hsh⟩
set_option maxHeartbeats 4000000 in
set_option maxRecDepth 100000 in
theorem aAp(v:Value)(bs:List Value)(r:Int)(h0:57343<r)(h1:r<=65535)(w:World)(ajo:RA 5 v bs w)(hlen:bs.length+(VW r).size<=140737488355328):
  Calls prog 176 #[v,.int .i32 r] w λe w'=>∃v',e =.returned v'/\arK v bs (VW r) w v' w':=by
 obtain⟨i0,hi,hz0,hz1,hz2⟩:=info_parts Tryz.wh.infoByte;have hsc:Lib.strCells (VW r)=[.int .u8 (224+r/4096),.int .u8 (128+r/64%64),.int .u8 (128+r%64)]:=by rw[apa];simp[Lib.runeCells,Lib.encodeRuneZ_three (Or.inr ⟨h0,h1⟩)]
 have hss:(VW r).size=3:=by rw[<-Lib.strCells_length,hsc];rfl
 go_enter func176,Tryz.ntmps176
 go_wp2_with (at_builtin;refine RC rfl _ _ 80 rfl 5 i0 Tryz.underlying80 hi hz0 hz1 hz2 _ _ rfl (aph ajo _) (VW r) (by omega) ⟨w.heap.size,0,none⟩ 3 3 rfl hss.symm ?c1 ?c2 ?_)
 case c1=>
  rw[hsc];intro j u hj;match j,hj with
  |0,hj=>simp at hj;subst hj;simp[Addr.add]
  |1,hj=>simp at hj;subst hj;simp[Addr.add]
  |2,hj=>simp at hj;subst hj;simp[Addr.add]
  |(j+3),hj=>simp at hj
 case c2=>omega
 intro v' w2 apG apq hnn hob hsh;go_wp2
 go_ret
 exact⟨v',rfl,.of (by rw[hsc];exact apG) apq hnn hob hsh⟩
set_option maxHeartbeats 4000000 in
set_option maxRecDepth 100000 in
theorem axO(v:Value)(bs:List Value)(r:Int)(h0:65536<=r)(h1:r<=1114111)(w:World)(ajo:RA 5 v bs w)(hlen:bs.length+(VW r).size<=140737488355328):
  Calls prog 176 #[v,.int .i32 r] w λe w'=>∃v',e =.returned v'/\arK v bs (VW r) w v' w':=by
 obtain⟨i0,hi,hz0,hz1,hz2⟩:=info_parts Tryz.wh.infoByte;have hsc:Lib.strCells (VW r)=[.int .u8 (240+r/262144),.int .u8 (128+r/4096%64),.int .u8 (128+r/64%64),.int .u8 (128+r%64)]:=by rw[apa];simp[Lib.runeCells,Lib.encodeRuneZ_four h0 h1]
 have hss:(VW r).size=4:=by rw[<-Lib.strCells_length,hsc];rfl
 go_enter func176,Tryz.ntmps176
 go_wp2_with (at_builtin;refine RC rfl _ _ 80 rfl 5 i0 Tryz.underlying80 hi hz0 hz1 hz2 _ _ rfl (aph ajo _) (VW r) (by omega) ⟨w.heap.size,0,none⟩ 4 4 rfl hss.symm ?c1 ?c2 ?_)
 case c1=>
  rw[hsc];intro j u hj;match j,hj with
  |0,hj=>simp at hj;subst hj;simp[Addr.add]
  |1,hj=>simp at hj;subst hj;simp[Addr.add]
  |2,hj=>simp at hj;subst hj;simp[Addr.add]
  |3,hj=>simp at hj;subst hj;simp[Addr.add]
  |(j+4),hj=>simp at hj
 case c2=>omega
 intro v' w2 apG apq hnn hob hsh;go_wp2
 go_ret
 exact⟨v',rfl,.of (by rw[hsc];exact apG) apq hnn hob hsh⟩
set_option maxHeartbeats 4000000 in
set_option maxRecDepth 100000 in
theorem azb(v:Value)(bs:List Value)(r:Int)(h0:0<=r)(h1:r<=127)(w:World)(ajo:RA 5 v bs w)(hlen:bs.length+(VW r).size<=140737488355328):
  Calls prog 153 #[v,.int .i32 r] w λe w'=>∃v',e =.returned v'/\arK v bs (VW r) w v' w':=by
 obtain⟨i0,hi,hz0,hz1,hz2⟩:=info_parts Tryz.wh.infoByte;have hsc:Lib.strCells (VW r)=[.int .u8 (r)]:=by rw[apa];simp[Lib.runeCells,Lib.encodeRuneZ_one h0 h1]
 have hss:(VW r).size=1:=by rw[<-Lib.strCells_length,hsc];rfl
 go_enter func153,Tryz.ntmps153
 go_wp2_with (at_builtin;refine RC rfl _ _ 80 rfl 5 i0 Tryz.underlying80 hi hz0 hz1 hz2 _ _ rfl (aph ajo _) (VW r) (by omega) ⟨w.heap.size,0,none⟩ 1 1 rfl hss.symm ?c1 ?c2 ?_)
 case c1=>
  rw[hsc];intro j u hj;match j,hj with
  |0,hj=>simp at hj;subst hj;simp[Addr.add]
  |(j+1),hj=>simp at hj
 case c2=>omega
 intro v' w2 apG apq hnn hob hsh;go_wp2
 go_ret
 exact⟨v',rfl,.of (by rw[hsc];exact apG) apq hnn hob hsh⟩
set_option maxHeartbeats 4000000 in
set_option maxRecDepth 100000 in
theorem ayJ(v:Value)(bs:List Value)(r:Int)(hv:St.apk r)(w:World)(ajo:RA 5 v bs w)(hlen:bs.length+(VW r).size<=140737488355328):
  Calls prog 153 #[v,.int .i32 r] w λe w'=>∃v',e =.returned v'/\arK v bs (VW r) w v' w':=by
 obtain⟨v0,v1⟩:=hv;by_cases c1:r<=127
 ·exact azb v bs r v0 c1 w ajo hlen
 have aA8:Calls prog 176 #[v,.int .i32 r] w λe w'=>∃v',e =.returned v'/\arK v bs (VW r) w v' w':=by
  by_cases c2:r<=2047
  ·exact azj v bs r (by omega) c2 w ajo hlen
  by_cases c3:r<55296
  ·exact azO v bs r (by omega) c3 w ajo hlen
  by_cases c4:r<=65535
  ·exact aAp v bs r (by omega) c4 w ajo hlen
  ·exact axO v bs r (by omega) (by omega) w ajo hlen
 have aBP:∀args w,(callFunc 176 args).run prog w =.ok (.enter 176 args) w:=enters_of func176 (by kernel_rfl) rfl;have hr1:r<=2147483647:=by omega
 have hna:128<=r:=by omega
 clear v1;go_enter func153,Tryz.ntmps153
 go_wp2_with (go_at_fn 176;refine aA8.mono ?_;rintro e w1 ⟨v',rfl,h1⟩)
 go_ret
 exact⟨v',rfl,h1⟩
set_option maxHeartbeats 400000 in
set_option maxRecDepth 100000 in
theorem avS{r:Int}(hv:Go.St.apk r):Eng.arF prog 135 85 5 (.int .i32 r) (VW r):=by
 intro b p v bs w hb hp h hlen;have hsz:=(Lib.runeCells_le r);rw[<-avz]at hsz;have har:=fun(v:Value)(w:World)(h:Eng.RA 5 v bs w)=>ayJ v bs r hv w h hlen
 clear hv;generalize VW r=S at*;have e76:∀args w,(callFunc 76 args).run prog w =.ok (.enter 76 args) w:=enters_of func76 (by kernel_rfl) rfl;have aBN:∀args w,(callFunc 153 args).run prog w =.ok (.enter 153 args) w:=enters_of func153 (by kernel_rfl) rfl;go_enter func135,Tryz.ntmps135
 go_wp2_with (go_at_fn 76;refine(awZ b p v bs _ hb hp h).mono ?_)
 rintro e w1 ⟨rfl,hbk,hB1,hg1,azw⟩;have hlt:=Eng.gg hbk;obtain⟨ao,n,cap,rfl,hn⟩:∃ao n cap,v =.slice ao n cap/\n=bs.length:=by
  rcases hB1.own with⟨hv,h0⟩|⟨g,cap,cur,hv,_⟩
  ·exact⟨_,_,_,hv,by rw[h0];rfl⟩
  ·exact⟨_,_,_,hv,rfl⟩
 subst hn;have c0:w1.cell? ⟨b,0,none⟩=some (.pointer (some ⟨b,0,none⟩)):=by rw[Lib.cell_of_heap hbk];rfl
 have c1:w1.cell? ⟨b,1,none⟩=some (.slice ao bs.length cap):=by rw[Lib.cell_of_heap hbk];rfl
 have aA_:∀(v':Value) (w2:World),arK (.slice ao bs.length cap) bs S w1 v' w2->∃ao' asE,v' =.slice ao' (bs.length+S.size) asE/\w2.heap[b]?=some (.cells #[.pointer (some ⟨b,0,none⟩),.slice ao bs.length cap] 85 (0,0))/\w2.cell? ⟨b,0,none⟩=some (.pointer (some ⟨b,0,none⟩))/\w2.cell? ⟨b,1,none⟩=some (.slice ao bs.length cap)/\w2.frozen? ⟨b,1,none⟩=false:=by
  intro v' w2 hq;have hb2:w2.heap[b]?=some (.cells #[.pointer (some ⟨b,0,none⟩),.slice ao bs.length cap] 85 (0,0)):=by
   rw[hq.du b hlt (λe=>hB1.ne e.symm)];exact hbk
  obtain⟨ao',asE,rfl⟩:∃ao' asE,v' =.slice ao' (bs.length+S.size) asE:=by
   rcases hq.row with⟨hv,h0⟩|⟨g,cap,cur,hv,_⟩
   ·exact absurd hv hq.nn
   ·rw[amX,Lib.strCells_length]at hv;exact⟨_,_,hv⟩
  exact⟨ao',asE,rfl,hb2,by rw[Lib.cell_of_heap hb2];rfl,by rw[Lib.cell_of_heap hb2];rfl,Lib.frozen_of_heap hb2 1⟩
 go_wp2_with (go_at_fn 153;refine(har _ _ hB1.own).mono ?_;rintro e w2 ⟨v',rfl,hq⟩;obtain⟨ao',asE,rfl,hb2,d0,d1,f1⟩:=aA_ v' w2 hq)
 go_ret2
 have hg3:w2.grownBy (w2.setCell ⟨b,1,none⟩ (.slice ao' (bs.length+S.size) asE)) (some b):=apz;have ajo:=hq.row;have hne:(Value.slice ao' (bs.length+S.size) asE).ownBlock≠some b:=by
  rcases ajo with⟨hv,_⟩|⟨g,c,cur,hv,hg,_⟩
  ·rw[hv];simp[Value.ownBlock]
  ·rw[hv];intro e;have:g=b:=by simpa[Value.ownBlock]using e
   subst this;rw[hb2]at hg;simp at hg
 have e:((bs.length:Int)+(S.size:Int)-(bs.length:Int))=(S.size:Int):=by omega
 refine⟨by rw[e];rfl,.slice ao' (bs.length+S.size) asE,?_,⟨ajo.other λg hv=>?_,hne⟩,hq.ob.imp_right fun⟨g,h1,h2⟩=>⟨g,h1,ane hg1.size h2⟩,hq.os.trans hg1.os,hq.tape.trans hg1.tape,hq.out.trans hg1.output,ane hg1.size (ane hq.size hg3.size),λk hk hkb hkv=>?_,(azw.trans hq.shp).trans (.setCell _ _ _)⟩
 ·simp only[World.setCell,aCi];rw[hb2];simp
 ·have hgb:g≠b:=λe=>hne (by rw[hv,e])
  exact Deep.blk_setCell_other w2 ⟨b,1,none⟩ _ g hgb
 ·rw[hg3.block k (by have:=hg1.size;have:=hq.size;omega) (by simpa using hkb),hq.du k (by have:=hg1.size;omega) hkv,hg1.block k hk (by simpa using hkb)]
set_option maxHeartbeats 2000000 in
set_option maxRecDepth 100000 in
theorem ayd(b g cap:Nat)(p:Value)(cur:Array Value)(l:List UInt8)(w:World)(hb:w.heap[b]?=some (.cells #[p,.slice (some ⟨g,0,none⟩) l.length cap] 85 (0,0)))(hg:w.heap[g]?=some (.cells cur 5 (0,0)))
  (h0:l≠[]) (hc:l.length<=cap) (hm:cap<=maxLen) (hs:cap<=cur.size) (ht:cur.toList.take l.length=l.map λc=>Value.int .u8 c.toNat):
  Calls Tryz.prog 32 #[.pointer (some ⟨b,0,none⟩)] w λe w'=>e =.returned (.string ⟨l.toArray⟩)/\w'=w.drew.freeze ⟨g,0,none⟩ l.length:=by
 have hl0:l.length≠0:=by simpa using h0
 have c1:w.drew.cell? ⟨b,1,none⟩=some (.slice (some ⟨g,0,none⟩) l.length cap):=by
  have:w.drew.heap[b]?=some (.cells #[p,.slice (some ⟨g,0,none⟩) l.length cap] 85 (0,0)):=hb;rw[Lib.cell_of_heap this];rfl
 have hSD:(Builtin.unsafeSliceData_ #[80] 128 #[.slice (some ⟨g,0,none⟩) l.length cap]).run Tryz.prog w.drew =.ok (.pointer (some ⟨g,0,none⟩)) w.drew:=
  Lib.run_unsafeSliceData_row _ _ _ _ _ _ (by omega)
 have hUS:(Builtin.unsafeString_ #[128,3] 9 #[.pointer (some ⟨g,0,none⟩),.int .i64 l.length]).run Tryz.prog w.drew =.ok (.string ⟨l.toArray⟩) (w.drew.freeze ⟨g,0,none⟩ l.length):=by
  have hg':w.drew.heap[g]?=some (.cells cur 5 (0,0)):=hg;refine Lib.run_unsafeString_row w.drew 128 3 9 5 Tryz.underlying128 Tryz.wh.cellsByte g cur.size (by simp[World.shape?,hg']) l h0 (by omega) (by unfold maxLen at hm;omega) ?_;intro j x hx;have hj:j<l.length:=(amV.1 hx).1;have e1:((⟨g,0,none⟩:Addr).add j)=⟨g,j,none⟩:=by cases j<;>simp[Addr.add]
  rw[e1];have hq:(cur.toList.take l.length)[j]?=some (Value.int .u8 x.toNat):=by rw[ht,anb,hx];rfl
  rw[anZ,am1 hj]at hq;simp only[World.cell?,hg'];simpa using hq
 have mixed:Tryz.prog.follows .mixedOrders=true:=by kernel_rfl
 have u85:=anJ Tryz.underlying85;have u80:=anJ Tryz.underlying80;have aBQ:=anJ Tryz.underlying128;go_enter Tryz.func32,Tryz.ntmps32
 go_wp2
 go_region_o
 all_goals (go_wp2;go_ret;exact⟨rfl,rfl⟩)
theorem aAv:Fex Tryz.prog 31:=⟨_,Tryz.func31,rfl,by decide⟩
theorem ayF:Fex Tryz.prog 32:=⟨_,Tryz.func32,rfl,by decide⟩
theorem aAt:Fex Tryz.prog 69:=⟨_,Tryz.func69,rfl,by decide⟩
theorem aaV:Fex Tryz.prog 123:=⟨_,Tryz.func123,rfl,by decide⟩
theorem Zt:Fex Tryz.prog 164:=⟨_,Tryz.func164,rfl,by decide⟩
theorem Z4(sl:AV)(xl:List (List AV))(l:List (List UInt8))(sep:List UInt8)(h:AH)(he:arl h 1 sl=some xl)(hl:arL xl=some l)(hb:(Lib.join l sep).length<=1000000)(hn:l.length<=1000000):aK Tryz.prog 69 [sl,.str sep] h (.str (Lib.join l sep)) h:=by
 refine aK.lib aAt λown β w cS hs hR=>?_
 obtain⟨u,v,rfl,hu,hv⟩:=arp hR;cases hv;have hx:=arf hl;have hxl:xl.length=l.length:=by rw[hx];simp
 have aA9:sl ≠ .undef:=λe=>by rw[e]at he;simp[arl]at he
 obtain⟨_,h1⟩:=avQ (en:=none) hs hu he;rcases h1 with⟨h0,a,cap,rfl⟩|⟨b',o,cap,rfl,h2⟩
 ·obtain rfl:l=[]:=am8 (by omega);refine(gT a cap ⟨sep.toArray⟩ w).mono ?_;rintro e w' ⟨rfl,rfl⟩;exact⟨_,rfl,.str [],Below.refl _ _⟩
 ·by_cases h0:l=[]
  ·subst h0;have:xl.length=0:=by simpa using hxl
   rw[this];refine(gT _ cap ⟨sep.toArray⟩ w).mono ?_;rintro e w' ⟨rfl,rfl⟩;exact⟨_,rfl,.str [],Below.refl _ _⟩
  ·have ta:=hu.cap aA9;have ot:0<xl.length:=by rw[hxl];exact anI.2 h0
   have tS:∀(j:Nat) x,(l.map λs=>(⟨s.toArray⟩:ByteArray))[j]?=some x->w.cell? ⟨b',o+j,none⟩=some (.string x):=by
    intro j x hj;rw[anb,anm]at hj;obtain⟨s,hs1,rfl⟩:=hj;have hjl:j<l.length:=(amV.1 hs1).1;obtain⟨v,k1,k2⟩:=h2 j (by omega);have k3:=k2 [.str s] (by rw[hx,anb,hs1];rfl);have k4:v =.string ⟨s.toArray⟩:=by
     simp only[elV,List.headD]at k3;cases k3;rfl
    subst k4;simpa[F4]using k1
   have aAG:(l.map λs=>(⟨s.toArray⟩:ByteArray)).map (·.data.toList)=l:=by
    rw[aCC];show List.map (λs:List UInt8=>s) l=l
    exact List.map_id' l
   have hlt:b'<w.heap.size:=by
    obtain⟨s,r,hlr⟩:=List.exists_cons_of_ne_nil h0;have:=tS 0 ⟨s.toArray⟩ (by rw[hlr];rfl);rcases aoi b' w.heap.size with k|k
    ·exact k
    ·simp[World.cell?,Array.getElem?_eq_none k]at this
   have hlen:(l.map λs=>(⟨s.toArray⟩:ByteArray)).length=xl.length:=by rw[hxl];simp
   have hj:=nT b' o cap (l.map λs=>(⟨s.toArray⟩:ByteArray)) ⟨sep.toArray⟩ w tS hlt (by rw[hlen];omega) (by rw[hlen];exact ta) (by rw[aAG];exact ane hb (by omega));rw[hlen,aAG]at hj;refine hj.mono ?_;rintro e w' ⟨rfl,hbl⟩;exact⟨_,rfl,.str _,hbl⟩
end Go.Proofs
end
noncomputable section
namespace Go.St
open Go.Eng
open Go.Lib
def tLe:Ty->Ty->Prop
 |.s a,.s b=>a=b
 |.s a,.l _=>a=4
 |.l a,.l b=>tLe a b
 |.l _,.s _=>False
theorem auO:∀a b c:Ty,tLe a c->tLe b c->∃d,di a b=some d/\tLe d c
 |.s a,.s b,.s k,h1,h2=>by
  have h1:a=k:=h1;have h2:b=k:=h2;subst h1;subst h2;exact⟨.s _,by simp[di],rfl⟩
 |.s a,.s b,.l u,h1,h2=>by
  have h1:a=4:=h1;have h2:b=4:=h2;subst h1;subst h2;exact⟨.s _,by simp[di],rfl⟩
 |.s a,.l t,.l u,h1,h2=>by
  have h1:a=4:=h1;subst h1;exact⟨.l t,by simp[di],h2⟩
 |.l t,.s b,.l u,h1,h2=>by
  have h2:b=4:=h2;subst h2;exact⟨.l t,by simp[di],h1⟩
 |.l a,.l b,.l u,h1,h2=>by
  obtain⟨d,e1,e2⟩:=auO a b u h1 h2;exact⟨.l d,by simp[di,e1],e2⟩
 |.s _,.l _,.s _,_,h2=>h2.elim
 |.l _,_,.s _,h1,_=>h1.elim
theorem asG{τ:Ty}:∀(l:List Ty) (t:Ty),tLe t τ->(∀u∈l,tLe u τ)->∃d,kO l t=some d/\tLe d τ
 |[],t,h,_=>⟨t,rfl,h⟩
 |u::l,t,h,hl=>by
  obtain⟨d,e1,e2⟩:=auO t u τ h (hl u (by simp));obtain⟨c,e3,e4⟩:=asG l d e2 λx hx=>hl x (by simp[hx])
  exact⟨c,by simp[kO,e1,e3],e4⟩
theorem atw{τ:Ty}(l:List Ty)(h:∀u∈l,tLe u τ):∃d,jW l=some d/\tLe d (.l τ):=by
 cases l with
 |nil=>exact⟨.s 4,rfl,rfl⟩
 |cons t l=>
  obtain⟨d,e1,e2⟩:=asG l t (h t (by simp)) λu hu=>h u (by simp[hu])
  exact⟨.l d,by simp[jW,e1],e2⟩
def TV:Ty->Val->Prop
 |.s j,.mk k n s l=>l=[]/\((k=1/\j=1/\(-1099511627776<=n/\n<=1099511627776)/\s=[])\/(k=2/\j=2/\(n=0\/n=1)/\s=[])\/(k=3/\j=3/\n=0/\validD s=true/\s.length<=4))
 |.l σ,.mk k n s l=>k=4/\n=0/\s=[]/\l.length<=3/\∀v∈l,TV σ v
def tH:Ty->Nat
 |.s _=>0
 |.l t=>tH t+1
def tN:Ty->Int
 |.s _=>1
 |.l t=>1+3*tN t
theorem atY:∀t:Ty,1<=tN t
 |.s _=>Int.le_refl _
 |.l t=>by have:=atY t;simp only[tN];omega
def ayy(σ:Ty)(d:Int):Prop:=∀(v:Val) (m:Int),TV σ v->0<=m->m+tN σ<=1000->∃t m',chk d v m=(0,t,m')/\tLe t σ/\m<=m'/\m'<=m+tN σ
theorem auq{σ:Ty}{d:Int}(hc:ayy σ d):∀(l:List Val) (m:Int) (ts:List Ty) (b:Int),(∀v∈l,TV σ v)->0<=m->b=(l.length:Int)*tN σ->m+b<=1000->(∀t∈ts,tLe t σ)->∃ts' m',nR d l m ts=(0,ts',m')/\(∀t∈ts',tLe t σ)/\m<=m'/\m'<=m+b
 |[],m,ts,b,_,hm,hb,hmb,hts=>⟨ts,m,by simp[nR],hts,Int.le_refl _,by simp at hb;omega⟩
 |v::l,m,ts,b,hl,hm,hb,hmb,hts=>by
  have hN:=atY σ;have hb2:b=(l.length:Int)*tN σ+tN σ:=by rw[hb,am6];simp[Int.add_mul]
  have hz:0<=(l.length:Int)*tN σ:=Int.mul_nonneg (by omega) (by omega);obtain⟨t,m1,h1,h2,h3,h4⟩:=hc v m (hl v (by simp)) hm (by omega);obtain⟨ts',m2,g1,g2,g3,g4⟩:=auq hc l m1 (ts++[t]) ((l.length:Int)*tN σ) (λu hu=>hl u (by simp[hu])) (by omega) rfl (by omega) (λu hu=>by
   rcases anP.1 hu with hu|hu
   ·exact hts u hu
   ·rw[anQ.1 hu];exact h2)
  refine⟨ts',m2,?_,g2,by omega,by omega⟩;rw[nR,h1];simp[g1]
theorem aw1:∀(τ:Ty) (d:Int),0<=d->d+tH τ<=16->ayy τ d
 |.s j,d,_,_=>λv m hv hm hmb=>by
  obtain⟨k,n,s,l⟩:=v;obtain⟨rfl,h⟩:=hv;simp only[tN]at hmb;have hm1:¬1000<m+1:=by omega
  refine⟨.s k,m+1,?_,?_,by omega,by simp[tN]⟩
  ·rcases h with⟨rfl,_,hn,rfl⟩|⟨rfl,_,hn,rfl⟩|⟨rfl,_,rfl,hs,hl⟩
   ·have hv0:validD []=true:=by decide
    simp[chk,kl,lY,hn.1,hn.2,hm1,hv0]
   ·have hv0:validD []=true:=by decide
    rcases hn with rfl|rfl
    ·simp[chk,kl,lY,hm1,hv0]
    ·simp[chk,kl,lY,hm1,hv0]
   ·have hl2:¬2000<s.length:=by omega
    simp[chk,kl,lY,hm1,hs,hl2]
  ·rcases h with⟨rfl,rfl,_⟩|⟨rfl,rfl,_⟩|⟨rfl,rfl,_⟩<;>rfl
 |.l σ,d,hd,hdh=>λv m hv hm hmb=>by
  obtain⟨k,n,s,l⟩:=v;obtain⟨rfl,rfl,rfl,hl,hv⟩:=hv;have hN:=atY σ;simp only[tN,tH]at hmb hdh ⊢;have hc:=aw1 σ (d+1) (by omega) (by omega);have hb:(l.length:Int)*tN σ<=3*tN σ:=Int.mul_le_mul_of_nonneg_right (by omega) (by omega);obtain⟨ts,m',h1,h2,h3,h4⟩:=auq hc l (m+1) [] _ hv (by omega) rfl (by omega) (by simp);obtain⟨t,h5,h6⟩:=atw ts h2;refine⟨t,m',?_,h6,by omega,by omega⟩;have hm1:¬1000<m+1:=by omega
  have hd2:¬(16:Int)<=d:=by omega
  have hl2:¬100<l.length:=by omega
  have hv0:validD []=true:=by decide
  simp[chk,kl,lY,hd2,hm1,hl2,hv0,h1,h5]
theorem axN{τ:Ty}{v:Val}(h:TV τ v)(h1:tH τ<=3)(h2:tN τ<=100):mT v=0:=by
 obtain⟨t,m',h3,_⟩:=aw1 τ 0 (by omega) (by omega) v 0 h (by omega) (by omega);unfold mT;rw[h3]
theorem ays:∀(τ:Ty) (k:Nat) (v:Val),TV τ v->tH τ<k->WfV k v
 |_,0,_,_,h=>by omega
 |.s j,k+1,.mk kd n s l,h,_=>by
  obtain⟨rfl,h⟩:=h;have hM:eM=1099511627776:=rfl;rcases h with⟨rfl,_,hn,rfl⟩|⟨rfl,_,hn,rfl⟩|⟨rfl,_,rfl,hs,_⟩
  ·exact .inl ⟨rfl,by omega,rfl,rfl⟩
  ·exact .inr (.inl ⟨rfl,hn,rfl,rfl⟩)
  ·exact .inr (.inr (.inl ⟨rfl,rfl,hs,rfl⟩))
 |.l σ,k+1,.mk kd n s l,h,hk=>by
  obtain⟨rfl,rfl,rfl,_,hv⟩:=h;exact .inr (.inr (.inr ⟨rfl,rfl,rfl,λv hv'=>ays σ k v (hv v hv') (by simp only[tH]at hk;omega)⟩))
end Go.St
end
noncomputable section
namespace Go.Proofs.YtndpneieplopaaaGreatDoor
open Go.Eng Go.St
def zA(l:List Int):Str:=p6 (l.map Lib.itoa)
def apJ(l:List Str)(i:Int):Str:=if 0<=i/\i<l.length then l.getD i.toNat []else []
def DD(p:Int×Bool):Int:=if p.2=true then ng p.1 else p.1
def wl1(i:Inp):Str:=((([112,111,105,110,116,101,114,32]++apJ k_ (i.pk-1))++[32])++zA [i.pid,i.px,i.py,i.pt,i.pw])
def wl2(i:Inp):Str:=(([107,101,121,32]++(chF i.key i.mM).1)++[32])++zA [i.time]
def wl3(i:Inp):Str:=[116,105,109,101,32]++zA [i.time]
def wl4(i:Inp):Str:=[115,105,122,101,32]++zA [i.sw,i.sh]
def wl5(i:Inp):Str:=(((([109,111,100,101,32]++(if i.nP=true then jP else nu))++[32])++(if i.high=true then jx else ji))++[32])++zA [i.scale]
def wl6(i:Inp):Str:=p6 (gS::kS i.args)
def wl7(i:Inp):Str:=(((((([97,99,99,101,115,115,32]++zA [i.ver,i.node])++[32])++yi i.act 9)++[32])++zA [i.frm,i.too])++[32])++wQ i.rt
def aqA(i:Inp):Str:=if i.tk=14 then jV else if i.tk=17 then ga else if i.tk=16 then [99,111,109,109,105,116,32]++wQ (cC i.t)else(([117,112,100,97,116,101,32]++wQ (cC i.t))++[32])++zA (i.oa::i.cls.map DD)
def wl8(i:Inp):Str:=[99,111,109,112,111,115,101,32]++aqA i
def p8(i:Inp):Str:=
 if i.kind=1 then wl1 i else if i.kind=2 then wl2 i else if i.kind=3 then wl3 i else if i.kind=4 then wl4 i else if i.kind=5 then wl5 i else if i.kind=6 then wl6 i else if i.kind=7 then wl7 i else if i.kind=8 then wl8 i else []
theorem at6{i:Inp}(h:i.kind=1):p8 i=wl1 i:=by unfold p8;simp[h]
theorem atj{i:Inp}(h:i.kind=2):p8 i=wl2 i:=by unfold p8;simp[h]
theorem atz{i:Inp}(h:i.kind=3):p8 i=wl3 i:=by unfold p8;simp[h]
theorem atl{i:Inp}(h:i.kind=4):p8 i=wl4 i:=by unfold p8;simp[h]
theorem atX{i:Inp}(h:i.kind=5):p8 i=wl5 i:=by unfold p8;simp[h]
theorem auf{i:Inp}(h:i.kind=7):p8 i=wl7 i:=by unfold p8;simp[h]
theorem axp(t:List Int)(n:Int)(c:List (Int×Bool)):aqA (z7A 16 t n c)=[99,111,109,109,105,116,32]++wQ (cC t):=by simp[aqA,z7A]
theorem av_(t:List Int)(n:Int)(c:List (Int×Bool)):aqA (z7A 15 t n c)=(([117,112,100,97,116,101,32]++wQ (cC t))++[32])++zA (n::c.map DD):=by simp[aqA,z7A]
theorem aq8(k:Nat):ij.getD (k+1) []=pkN.getD k []:=by
 unfold pkN;rw[anh,anh,anl,Nat.add_comm]
theorem as4(i:Nat)(r:Str)(m:Nat):wE i (r,m)=(r,m)\/∃r',r=(dB.getD i []++[43])++r'/\wE i (r,m)=(r',m+2^i):=by
 unfold wE;split
 ·rename_i h;right;refine⟨r.drop ((dB.getD i [])++[43]).length,?_,rfl⟩;simp only at h;rw[<-h];conv=>lhs;rw[<-an9 ((dB.getD i [])++[43]).length r]
  rw[h]
 ·exact .inl rfl
theorem awX:∀i,i<4->∀m,m<2^i->vM ((m+2^i:Nat):Int) i=vM (m:Int) i/\Wn ((m+2^i:Nat):Int) i=true/\Wn (m:Int) i=false:=by decide
theorem asS(w:Str):∀i,i<=4->w=vM ((fu w i).2:Int) i++(fu w i).1/\(fu w i).2<2^i
 |0,_=>⟨rfl,by simp[fu]⟩
 |i+1,hi=>by
  obtain⟨h1,h2⟩:=asS w i (by omega);obtain⟨b1,b2,b3⟩:=awX i (by omega) _ h2;have hp:2^(i+1)=2^i*2:=Nat.pow_succ 2 i;have e:fu w (i+1)=wE i (fu w i):=rfl;rw[e];generalize fu w i=x at*;obtain⟨r,m⟩:=x;simp only at h1 h2 b1 b2 b3;rcases as4 i r m with h|⟨r',h3,h⟩
  ·rw[h];refine⟨?_,by simp only;omega⟩;simp only[vM,b3,am7,ans,am5];exact h1
  ·rw[h];refine⟨?_,by simp only;omega⟩;simp only[vM,b2,anH];rw[b1,h1,h3];simp
theorem ax3(w:Str):w=vM ((fu w 4).2:Int) 4++(fu w 4).1/\(fu w 4).2<16:=asS w 4 (amY _)
theorem avU{w:Str}(h:(cz w).2.2=true):fa (cz w).1 (cz w).2.1=true/\lQ (cz w).1 (cz w).2.1=w:=by
 obtain⟨h1,h2⟩:=ax3 w;unfold cz at h ⊢;generalize fu w 4=x at*;obtain⟨r,m⟩:=x;simp only at h h1 h2 ⊢;have hm:(0:Int)<=m/\(m:Int)<=15:=by omega
 by_cases hk:0<=idx pkN r
 ·rw[am1 hk];obtain⟨k1,k2⟩:=awr hk;have hl:pkN.length=23:=rfl;refine⟨by rw[jJ];simp;omega,?_⟩;obtain⟨k,hk'⟩:=anu hk;rw[hk']at k1 k2 ⊢;unfold lQ gU;simp only[aou]at k1 k2 ⊢;rw[am1 (by omega),show((1:Int)+(k:Int)).toNat=k+1 by omega,aq8,<-k1];exact h1.symm
 rw[amU hk]at h ⊢;by_cases hs:r=iI
 ·rw[am1 hs];refine⟨by rw[jJ];simp;omega,?_⟩;show vM (m:Int) 4++gU 32=w
  rw[show gU 32=iI from rfl,<-hs];exact h1.symm
 rw[amU hs]at h ⊢;by_cases hd:l9 r=true
 ·rw[am1 hd];unfold l9 ph iT at hd;by_cases hr:r=[]
  ·rw[am1 hr]at hd;simp at hd
  ·simp only[amU hr]at hd;simp only[amZ,ana]at hd;obtain⟨⟨d1,d2,d3,d4⟩,d5⟩:=hd;have he:=Lib.encode_decode r hr d3;unfold iT;rw[amU hr];refine⟨by rw[jJ];simp;omega,?_⟩;unfold lQ gU;simp only;rw[amU (by omega),amU (by omega),pQ,he,d1,aCg];exact h1.symm
 ·rw[amU hd]at h;cases h
theorem ao4{t:PS}(h:t.first=false):spW t=[32]:=by unfold spW;rw[h];rfl
theorem ayl(i:Inp)(h1:i.args=[])(h2:i.t=[])(h3:i.ct=[])(h4:i.cr=[])(h5:i.cls=[]):InC i (inG i .aa .aa .aa .aa .aa)/\InB i:=by
 refine⟨⟨_,_,_,_,_,rfl,.inr ⟨rfl,by rw[h1];simp[vCs]⟩,.inr ⟨rfl,by rw[h2];rfl⟩,.inr ⟨rfl,by rw[h3];rfl⟩,.inr ⟨rfl,by rw[h4];rfl⟩,.inr ⟨rfl,by rw[h5];rfl⟩⟩,?_⟩;exact⟨by rw[h1];simp,by rw[h1];simp,by rw[h2];simp,by rw[h3];simp,by rw[h4];simp,by rw[h5];simp⟩
inductive WW:Val->Prop
 |mk (k n:Int) (s:Str) (l:List Val):(-9223372036854775808<=n/\n<=9223372036854775807)->s.length<=400000->l.length<=20000->(∀v∈l,WW v)->(MP (.mk k n s l)).length<=900000->WW (.mk k n s l)
def i64(n:Int):Prop:= -9223372036854775808<=n/\n<=9223372036854775807
structure WB8(i:Inp):Prop where
 t:(cC i.t).length<=400000
 nc:i.cls.length<=19000
 cl:∀p∈i.cls,i64 p.1
 ct:i64 i.oa
structure LB(i:Inp):Prop where
 pk : -1000<=i.pk/\i.pk<=1000
 n1:∀n∈[i.pid,i.px,i.py,i.pt,i.pw],i64 n
 tm:i64 i.time
 sz:∀n∈[i.sw,i.sh],i64 n
 sc:i64 i.scale
 ac:∀n∈[i.ver,i.node],i64 n
 ft:∀n∈[i.frm,i.too],i64 n
 aw:∀v∈i.args,WW v
 al:i.args.length<=40000
 aj:(p6 (gS::kS i.args)).length<=900000
 rt:i.rt.length<=400000
 b8:WB8 i
def azL(s:Str)(cs:LA):Prop:=∃i,InC i cs/\InB i/\p8 i=s/\(∀v∈i.args,Go.St.mT v=0)/\LB i
theorem apO{s:Str}{cs:LA}(i:Inp)(hc:cs=inG i .aa .aa .aa .aa .aa)(hw:p8 i=s)(h1:i.args=[])(h2:i.t=[])(h3:i.ct=[])(h4:i.cr=[])(h5:i.cls=[])(hl:LB i):azL s cs:=by
 obtain⟨a,b⟩:=ayl i h1 h2 h3 h4 h5;exact⟨i,hc▸a,b,hw,by rw[h1];simp,hl⟩
theorem pk0:(-1000:Int)<=0/\(0:Int)<=1000:=by omega
def nb(x:Int):Prop:= -eM<=x/\x<=eM
theorem nb0:nb 0:=by unfold nb eM;omega
theorem ao1{x:Int}(h:nb x):i64 x:=by unfold nb eM at h;unfold i64;omega
def NB(i:Inp):Prop:=(nb i.pid/\nb i.px/\nb i.py/\nb i.pt/\nb i.pw)/\nb i.time/\(nb i.sw/\nb i.sh)/\nb i.scale/\(nb i.ver/\nb i.node)/\(nb i.frm/\nb i.too)
theorem lb1(i:Inp)(hp : -1000<=i.pk/\i.pk<=1000)(hn:NB i)(h1:∀v∈i.args,WW v)(h2:i.args.length<=40000)(h3:(p6 (gS::kS i.args)).length<=900000)(h4:i.rt.length<=400000)(h5:WB8 i):LB i:=by
 obtain⟨⟨a1,a2,a3,a4,a5⟩,a6,⟨a7,a8⟩,a9,⟨b1,b2⟩,b3,b4⟩:=hn;refine⟨hp,?_,ao1 a6,?_,ao1 a9,?_,?_,h1,h2,h3,h4,h5⟩
 ·simp only[aCq];exact⟨ao1 a1,ao1 a2,ao1 a3,ao1 a4,ao1 a5,by simp⟩
 ·simp only[aCq];exact⟨ao1 a7,ao1 a8,by simp⟩
 ·simp only[aCq];exact⟨ao1 b1,ao1 b2,by simp⟩
 ·simp only[aCq];exact⟨ao1 b3,ao1 b4,by simp⟩
theorem lb0(i:Inp)(hp : -1000<=i.pk/\i.pk<=1000)(hn:NB i)(h1:i.args=[])(h4:i.rt.length<=400000)(h2:i.t=[])(h3:i.cls=[])(h5:i.oa=0):LB i:=by
 refine lb1 i hp hn (by rw[h1];simp) (by rw[h1];simp) (by rw[h1];show(p6 [gS]).length<=_;simp[p6,kI,gS]) h4 ⟨by rw[h2];simp[cC],by rw[h3];simp,by rw[h3];simp,by rw[h5];unfold i64;omega⟩
theorem ase{l:List Str}{k:Int}(h:0<=k/\k.toNat<l.length):apJ l k=l.getD k.toNat []:=by
 unfold apJ;rw[am1 (by omega)]
theorem au4{s:Str}:∀(n:Nat) (acc:List Int) (t:PS),t.first=false->(qQ s n acc t).2.ok=true->t.ok=true/\∃l,(qQ s n acc t).1=acc++l/\s.drop t.pos=kI (l.map Lib.itoa)++s.drop (qQ s n acc t).2.pos/\∀x∈l, -eM<=x/\x<=eM
 |0,acc,t,hf,h=>⟨h,[],by simp[qQ],by simp[qQ,kI],by simp⟩
 |n+1,acc,t,hf,h=>by
  unfold qQ at h ⊢;by_cases hm:bB s t=true
  ·rw[am1 hm]at h ⊢;obtain⟨h1,l,h2,h3,h4⟩:=au4 n _ _ (apC s t) h;obtain⟨g1,g2,g3,g4⟩:=QF h1;refine⟨g1,cQ s t::l,by rw[h2];simp,?_,λv hv=>?_⟩
   ·rw[g2,h3,ao4 hf];simp[kI]
   ·rcases anT.1 hv with rfl|hv
    ·exact⟨g3,g4⟩
    ·exact h4 v hv
  ·rw[amU hm]at h ⊢;exact⟨h,[],by simp,by simp[kI],by simp⟩
theorem avD{n:Int}(h : -eM<=n/\n<=eM):DD (max n (ng n),decide (n<0))=n:=by
 unfold eM at h;have e:ng n = -n:=by unfold ng;rw[amU (by omega)]
 unfold DD;simp only[ana];rw[e];by_cases hn:n<0
 ·rw[am1 hn,Int.max_eq_right (by omega)];unfold ng;rw[amU (by omega)];omega
 ·rw[amU hn,Int.max_eq_left (by omega)]
theorem awa:∀k,k<9->yi ((2:Int)^k) 9=dI.getD k []:=by decide
mutual
theorem awC:∀(v:Val) (d m:Int),(Go.St.chk d v m).1=0->WB v
 |.mk k n s l,d,m,h=>by
  rw[Go.St.chk]at h;by_cases c1:k=4/\16<=d
  ·rw[am1 c1]at h;simp at h
  rw[amU c1]at h;by_cases c2:kl k n s l=false
  ·rw[am1 c2]at h;simp at h
  rw[amU c2]at h;by_cases c3:lY k n=true
  ·rw[am1 c3]at h;simp at h
  rw[amU c3]at h;by_cases c4:2000<s.length\/100<l.length\/1000<m+1
  ·rw[am1 c4]at h;simp at h
  rw[amU c4]at h;by_cases c5:Go.Lib.validD s=false
  ·rw[am1 c5]at h;simp at h
  rw[amU c5]at h;by_cases c6:k≠4
  ·refine .mk k n s l (by omega) ?_;have:l=[]:=by
    unfold kl at c2;by_cases k1:k=1\/k=2
    ·rw[am1 k1]at c2;simp at c2;exact c2.2
    ·rw[amU k1]at c2;by_cases k3:k=3
     ·rw[am1 k3]at c2;simp at c2;exact c2.2
     ·rw[amU k3,amU c6]at c2;exact absurd rfl c2
   subst this;simp
  rw[amU c6]at h;by_cases c7:(Go.St.nR (d+1) l (m+1) []).1≠0
  ·rw[am1 c7]at h;exact absurd h c7
  ·exact .mk k n s l (by omega) (auR l (d+1) (m+1) [] (by simpa using c7))
theorem auR:∀(l:List Val) (d m:Int) (ts:List Ty),(Go.St.nR d l m ts).1=0->∀v∈l,WB v
 |[],_,_,_,_=>by simp
 |v::l,d,m,ts,h=>by
  rw[Go.St.nR]at h;by_cases c:(Go.St.chk d v m).1≠0
  ·rw[am1 c]at h;exact absurd h c
  ·rw[amU c]at h;intro u hu;rcases anT.1 hu with he|hu
   ·rw[he];exact awC v d m (by simpa using c)
   ·exact auR l d _ _ h u hu
end
theorem auN(v:Val)(h:Go.St.mT v=0):WB v:=awC v 0 0 h
theorem aqB(l:List Str)(w:Str)(h:w∈l):w.length<=(p6 l).length:=by
 have h2:∀(l:List Str),w∈l->w.length<=(kI l).length:=λl=>by
  induction l with
  |nil=>simp
  |cons a l ih=>
   intro h;simp only[kI,am6,amX];rcases anT.1 h with rfl|h
   ·omega
   ·have:=ih h;omega
 cases l with
 |nil=>simp at h
 |cons a l=>
  simp only[p6,amX];rcases anT.1 h with rfl|h
  ·omega
  ·have:=h2 l h;omega
theorem ap_{v:Val}:∀ {l:List Val},v∈l->MP v∈kS l
 |a::l,h=>by
  simp only[kS];rcases anT.1 h with rfl|h
  ·simp
  ·simp[ap_ h]
mutual
theorem axd:∀(v:Val) (d m:Int),(Go.St.chk d v m).1=0->(MP v).length<=900000->WW v
 |.mk k n s l,d,m,h,hl=>by
  rw[Go.St.chk]at h;by_cases c1:k=4/\16<=d
  ·rw[am1 c1]at h;simp at h
  rw[amU c1]at h;by_cases c2:kl k n s l=false
  ·rw[am1 c2]at h;simp at h
  rw[amU c2]at h;by_cases c3:lY k n=true
  ·rw[am1 c3]at h;simp at h
  rw[amU c3]at h;by_cases c4:2000<s.length\/100<l.length\/1000<m+1
  ·rw[am1 c4]at h;simp at h
  rw[amU c4]at h;by_cases c5:Go.Lib.validD s=false
  ·rw[am1 c5]at h;simp at h
  rw[amU c5]at h;have hn : -9223372036854775808<=n/\n<=9223372036854775807:=by
   unfold kl at c2;unfold lY at c3;simp only[anV,amZ,ana,anX,an_,ano]at c3;by_cases q1:k=1
   ·by_cases q : -1099511627776<=n/\n<=1099511627776
    ·omega
    ·exact absurd (.inl ⟨q1,by omega⟩) c3
   by_cases q2:k=2
   ·by_cases q:n=0\/n=1
    ·omega
    ·exact absurd (.inr ⟨⟨q2,by omega⟩,by omega⟩) c3
   rw[amU (by omega)]at c2;by_cases q3:k=3
   ·rw[am1 q3]at c2;simp at c2;omega
   rw[amU q3]at c2;by_cases q4:k=4
   ·rw[am1 q4]at c2;simp at c2;omega
   rw[amU q4]at c2;exact absurd rfl c2
  by_cases c6:k≠4
  ·refine .mk k n s l hn (by omega) (by omega) ?_ hl;have:l=[]:=by
    unfold kl at c2;by_cases k1:k=1\/k=2
    ·rw[am1 k1]at c2;simp at c2;exact c2.2
    ·rw[amU k1]at c2;by_cases k3:k=3
     ·rw[am1 k3]at c2;simp at c2;exact c2.2
     ·rw[amU k3,amU c6]at c2;exact absurd rfl c2
   subst this;simp
  rw[amU c6]at h;by_cases c7:(Go.St.nR (d+1) l (m+1) []).1≠0
  ·rw[am1 c7]at h;exact absurd h c7
  ·refine .mk k n s l hn (by omega) (by omega) (auC l (d+1) (m+1) [] (by simpa using c7) λv hv=>?_) hl;have h2:=aqB _ _ (ap_ hv);have k4:k=4:=by omega
   simp[MP,k4]at hl;omega
theorem auC:∀(l:List Val) (d m:Int) (ts:List Ty),(Go.St.nR d l m ts).1=0->(∀v∈l,(MP v).length<=900000)->∀v∈l,WW v
 |[],_,_,_,_,_=>by simp
 |v::l,d,m,ts,h,hl=>by
  rw[Go.St.nR]at h;by_cases c:(Go.St.chk d v m).1≠0
  ·rw[am1 c]at h;exact absurd h c
  ·rw[amU c]at h;intro u hu;rcases anT.1 hu with he|hu
   ·rw[he];exact axd v d m (by simpa using c) (hl v (by simp))
   ·exact auC l d _ _ h (λx hx=>hl x (by simp[hx])) u hu
end
theorem auH(v:Val)(h:Go.St.mT v=0)(hl:(MP v).length<=900000):WW v:=axd v 0 0 h hl
theorem lb7{k:Int}(t:List Int)(n:Int)(c:List (Int×Bool))(h1:(cC t).length<=400000)(h2:c.length<=19000)(h3:∀p∈c,i64 p.1)(h4:nb n):LB (z7A k t n c):=
 lb1 (z7A k t n c) pk0 ⟨⟨nb0,nb0,nb0,nb0,nb0⟩,nb0,⟨nb0,nb0⟩,nb0,⟨nb0,nb0⟩,nb0,nb0⟩ (by simp[z7A]) (by simp[z7A]) (by show(p6 [gS]).length<=_;simp[p6,kI,gS]) (aoo _) ⟨h1,h2,h3,ao1 h4⟩
theorem awe{s x a r:Str}{p:Nat}(h:s.drop p=a++(wQ x++r)):x.length<=s.length:=by
 have h1:=congrArg List.length h;have h2:=aqF x;simp only[wQ,am3,amX,am6]at h1;omega
theorem awz{s:Str}(hs:PI s)(hl:s.length<=38000)(h:nj s=true):azL s (iM s).1:=by
 unfold nj at h;simp only[amZ,ana]at h;obtain⟨h,hp⟩:=h;have ajP:s.drop (iM s).2.pos=[]:=by rw[hp];exact aoM
 clear hp;have hf:=ao6 s cF ⟨0,true,true⟩;have hkr:(aL s cF ⟨0,true,true⟩).ok=true->0<=bf s cF ⟨0,true,true⟩/\(bf s cF ⟨0,true,true⟩).toNat<8:=λho=>(ao2 ho).2.2
 have ot:(aL s cF ⟨0,true,true⟩).pos<=s.length:=(eY s cF _ (aoo _)).lt;have hk:(aL s cF ⟨0,true,true⟩).ok=true->s=cF.getD (bf s cF ⟨0,true,true⟩).toNat []++s.drop (aL s cF ⟨0,true,true⟩).pos:=λho=>(ao2 ho).2.1
 unfold iM at h ajP ⊢;simp only at h ajP ⊢;generalize aL s cF ⟨0,true,true⟩=t at*;generalize bf s cF ⟨0,true,true⟩=k at*;by_cases k0:k=0
 ·subst k0;simp only[anH]at h ajP ⊢;unfold Na at h ajP ⊢;simp only at h ajP ⊢;obtain⟨o7,e7,b7⟩:=QF h;obtain⟨o6,e6,b6⟩:=QF o7;obtain⟨o5,e5,b5⟩:=QF o6;obtain⟨o4,e4,b4⟩:=QF o5;obtain⟨o3,e3,b3⟩:=QF o4;obtain⟨o2,e2,c1,c2⟩:=ao2 o3;have hcl:k_.length=6:=rfl;have e1:=hk o2;rw[ao4 (apC _ _)]at e7 e6 e5 e4;rw[ao4 (ao6 _ _ _)]at e3;rw[ao4 hf]at e2;rw[ajP]at e7;rw[e7]at e6;rw[e6]at e5;rw[e5]at e4;rw[e4]at e3;rw[e3]at e2;rw[e2]at e1;refine apO {Inp.z with kind:=1,pk:=_,pid:=_,px:=_,py:=_,pt:=_,pw:=_} rfl ?_ rfl rfl rfl rfl rfl (lb0 _ (by simp only;omega) ⟨⟨b3,b4,b5,b6,b7⟩,nb0,⟨nb0,nb0⟩,nb0,⟨nb0,nb0⟩,nb0,nb0⟩ rfl (aoo _) rfl rfl rfl);conv=>rhs;rw[e1]
  rw[at6 rfl];unfold wl1;simp only;rw[show ∀x:Int,1+x-1=x by intro x;omega,ase ⟨c1,c2⟩];simp[zA,p6,kI,cF,de]<;>rfl
 rw[amU k0]at h ajP ⊢;by_cases k1:k=1
 ·subst k1;simp only[anH]at h ajP ⊢;unfold FK at h ajP ⊢;simp only at h ajP ⊢;obtain⟨o3,e3,b3⟩:=QF h;unfold od at o3;simp only[amZ]at o3;obtain⟨o3,o4⟩:=o3;obtain⟨o2,e2,_⟩:=ara o3;have e1:=hk o2;have hf3:(od s t).first=false:=atp s t
  have hp3:(od s t).pos=(bq s t).pos:=rfl;rw[ao4 hf3,ajP,hp3]at e3;rw[ao4 hf,e3]at e2;rw[e2]at e1;have o5:=o4;unfold iY at o5;simp only[amZ]at o5;obtain⟨v1,v2⟩:=avU o5.2;unfold tV;rw[am1 o4];refine apO {Inp.z with kind:=2,key:=_,mM:=_,time:=_} rfl ?_ rfl rfl rfl rfl rfl (lb0 _ pk0 ⟨⟨nb0,nb0,nb0,nb0,nb0⟩,b3,⟨nb0,nb0⟩,nb0,⟨nb0,nb0⟩,nb0,nb0⟩ rfl (aoo _) rfl rfl rfl);conv=>rhs;rw[e1]
  rw[atj rfl];unfold wl2 chF;simp only;rw[am1 v1];simp only;rw[v2];simp[zA,p6,kI,cF,kh]<;>rfl
 rw[amU k1]at h ajP ⊢;by_cases k2:k=2
 ·subst k2;simp only[anH]at h ajP ⊢;unfold yp at h ajP ⊢;simp only at h ajP ⊢;obtain⟨o2,e2,b2⟩:=QF h;have e1:=hk o2;rw[ao4 hf,ajP]at e2;rw[e2]at e1;refine apO {Inp.z with kind:=3,time:=_} rfl ?_ rfl rfl rfl rfl rfl (lb0 _ pk0 ⟨⟨nb0,nb0,nb0,nb0,nb0⟩,b2,⟨nb0,nb0⟩,nb0,⟨nb0,nb0⟩,nb0,nb0⟩ rfl (aoo _) rfl rfl rfl);conv=>rhs;rw[e1]
  rw[atz rfl];unfold wl3;simp[zA,p6,kI,cF,gQ]<;>rfl
 rw[amU k2]at h ajP ⊢;by_cases k3:k=3
 ·subst k3;simp only[anH]at h ajP ⊢;unfold yA at h ajP ⊢;simp only at h ajP ⊢;obtain⟨o3,e3,b3⟩:=QF h;obtain⟨o2,e2,b2⟩:=QF o3;have e1:=hk o2;rw[ao4 (apC _ _),ajP]at e3;rw[ao4 hf,e3]at e2;rw[e2]at e1;refine apO {Inp.z with kind:=4,sw:=_,sh:=_} rfl ?_ rfl rfl rfl rfl rfl (lb0 _ pk0 ⟨⟨nb0,nb0,nb0,nb0,nb0⟩,nb0,⟨b2,b3⟩,nb0,⟨nb0,nb0⟩,nb0,nb0⟩ rfl (aoo _) rfl rfl rfl);conv=>rhs;rw[e1]
  rw[atl rfl];unfold wl4;simp[zA,p6,kI,cF,gK]<;>rfl
 rw[amU k3]at h ajP ⊢;by_cases k4:k=4
 ·subst k4;simp only[anH]at h ajP ⊢;unfold zz at h ajP ⊢;simp only at h ajP ⊢;obtain⟨o4,e4,b4⟩:=QF h;obtain⟨o3,e3,c3,c4⟩:=ao2 o4;obtain⟨o2,e2,c1,c2⟩:=ao2 o3;have e1:=hk o2;rw[ao4 (ao6 _ _ _)]at e4 e3;rw[ao4 hf]at e2;rw[ajP]at e4;rw[e4]at e3;rw[e3]at e2;rw[e2]at e1;refine apO {Inp.z with kind:=5,nP:=_,high:=_,scale:=_} rfl ?_ rfl rfl rfl rfl rfl (lb0 _ pk0 ⟨⟨nb0,nb0,nb0,nb0,nb0⟩,nb0,⟨nb0,nb0⟩,b4,⟨nb0,nb0⟩,nb0,nb0⟩ rfl (aoo _) rfl rfl rfl);conv=>rhs;rw[e1]
  rw[atX rfl];unfold wl5;simp only;have b1:∀x:Int,0<=x->x.toNat<ie.length->ie.getD x.toNat []=if(x==1)=true then jP else nu:=λx x1 x2=>by
   have:ie.length=2:=rfl;have:x=0\/x=1:=by omega
   rcases this with rfl|rfl<;>rfl
  have b2:∀x:Int,0<=x->x.toNat<jE.length->jE.getD x.toNat []=if(x==1)=true then jx else ji:=λx x1 x2=>by
   have:jE.length=2:=rfl;have:x=0\/x=1:=by omega
   rcases this with rfl|rfl<;>rfl
  rw[b1 _ c1 c2,b2 _ c3 c4];simp[zA,p6,kI,cF,RQ]<;>rfl
 rw[amU k4]at h ajP ⊢;by_cases k5:k=5
 ·subst k5;simp only[anH]at h ajP ⊢;unfold wT kL at h ajP ⊢;simp only at h ajP ⊢;obtain⟨o2,l,e3,e2,c1⟩:=atb hs _ _ _ hf h;have e1:=hk o2;rw[ajP,am5]at e2;rw[e2]at e1;rw[e3,anx];refine⟨z5A l,⟨_,_,_,_,_,rfl,.inl rfl,.inr ⟨rfl,rfl⟩,.inr ⟨rfl,rfl⟩,.inr ⟨rfl,rfl⟩,.inr ⟨rfl,rfl⟩⟩,⟨?_,λv hv=>auN v (c1 v hv),by simp[z5A],by simp[z5A],by simp[z5A],by simp[z5A]⟩,?_,c1,?_⟩
  ·have hll:(kI (kS l)).length<=s.length:=by rw[<-e2,am3];omega
   have:∀l:List Val,l.length<=(kI (kS l)).length:=λl=>by
    induction l with
    |nil=>simp
    |cons v l ih=>simp only[kS,kI,am6,amX];omega
   have:=this l;show l.length<=_
   omega
  ·conv=>rhs;rw[e1]
   rfl
  ·have hll:(kI (kS l)).length<=s.length:=by rw[<-e2,am3];omega
   have:∀l:List Val,l.length<=(kI (kS l)).length:=λl=>by
    induction l with
    |nil=>simp
    |cons v l ih=>simp only[kS,kI,am6,amX];omega
   have h2:=this l;have hj:(p6 (kS l)).length<=(kI (kS l)).length:=by
    cases l with
    |nil=>simp[kS,p6]
    |cons a l=>simp[kS,p6,kI]
   refine lb1 (z5A l) pk0 ⟨⟨nb0,nb0,nb0,nb0,nb0⟩,nb0,⟨nb0,nb0⟩,nb0,⟨nb0,nb0⟩,nb0,nb0⟩ (λv hv=>auH v (c1 v hv) ?_) (by show l.length<=_;omega) ?_ (aoo _) ⟨by simp[z5A,cC],by simp[z5A],by simp[z5A],by simp[z5A,i64]⟩
   ·have:=aqB _ _ (ap_ (show v∈l from hv));omega
   ·show(p6 (gS::kS l)).length<=_
    simp only[p6,amX];have:gS.length=4:=rfl;omega
 rw[amU k5]at h ajP ⊢;by_cases k6:k=6
 ·subst k6;simp only[anH]at h ajP ⊢;unfold Dr at h ajP ⊢;simp only at h ajP ⊢;obtain⟨o7,e7,_⟩:=arj hs h;obtain⟨o6,e6,b6⟩:=QF o7;obtain⟨o5,e5,b5⟩:=QF o6;obtain⟨o4,e4,c1,c2⟩:=ao2 o5;obtain⟨o3,e3,b3⟩:=QF o4;obtain⟨o2,e2,b2⟩:=QF o3;have hrt:=awe e7;have e1:=hk o2;rw[ao4 (apC _ _)]at e7 e6 e4 e3;rw[ao4 (ao6 _ _ _)]at e5;rw[ao4 hf]at e2;rw[ajP]at e7;rw[e7]at e6;rw[e6]at e5;rw[e5]at e4;rw[e4]at e3;rw[e3]at e2;rw[e2]at e1;refine apO {Inp.z with kind:=7,ver:=_,node:=_,act:=_,frm:=_,too:=_,rt:=_} rfl ?_ rfl rfl rfl rfl rfl (lb0 _ pk0 ⟨⟨nb0,nb0,nb0,nb0,nb0⟩,nb0,⟨nb0,nb0⟩,nb0,⟨b2,b3⟩,b5,b6⟩ rfl (ane hrt (by omega)) rfl rfl rfl);conv=>rhs;rw[e1]
  rw[auf rfl];unfold wl7;simp only;rw[Int.max_eq_left c1,awa _ c2];simp[zA,p6,kI,cF,dN]<;>rfl
 rw[amU k6]at h ajP ⊢;by_cases k7:k=7
 ·subst k7;simp only[anH]at h ajP ⊢;have hT:∀u:PS,u.pos<=s.length->(aD (iJ s u)).length<=1000000:=λu hu=>by
   have h1:=Hf (iJ s u);have h2:=zq s u hu (by omega);omega
  have hk2:=eY s h_ t ot;unfold gC at h ajP ⊢;simp only at h ajP ⊢;have hcf:=ao6 s h_ t;have hca:(aL s h_ t).ok=true->t.ok=true/\s.drop t.pos=spW t++(h_.getD (bf s h_ t).toNat []++s.drop (aL s h_ t).pos)/\0<=bf s h_ t/\(bf s h_ t).toNat<4:=λho=>ao2 ho
  generalize aL s h_ t=t1 at*;generalize bf s h_ t=c at*;have fc:∀x:Str,Go.Lib.validD x=true->cC (aD x)=x:=λx hx=>by
   have:=Qe x;rw[hx]at this;simpa using this
  by_cases c2:c=2
  ·subst c2;simp only[anH]at h ajP ⊢;obtain⟨o1,e3,hv⟩:=arj hs h;obtain⟨o2,e2,_⟩:=hca o1;have hrt:=awe e3;have e1:=hk o2;rw[ao4 hcf,ajP]at e3;rw[ao4 hf,e3]at e2;rw[e2]at e1;refine⟨z7A 16 (aD (iJ s t1)) 0 [],⟨_,_,_,_,_,rfl,.inr ⟨rfl,by simp[z7A,vCs]⟩,.inl rfl,.inr ⟨rfl,rfl⟩,.inr ⟨rfl,rfl⟩,.inr ⟨rfl,rfl⟩⟩,⟨by simp[z7A],by simp[z7A],hT t1 hk2.lt,by simp[z7A],by simp[z7A],by simp[z7A]⟩,?_,by simp[z7A],lb7 _ _ _ (by rw[fc _ hv];omega) (by simp) (by simp) nb0⟩;have e4:=fc _ hv;conv=>rhs;rw[e1]
   generalize iJ s t1=x at*;show wl8 _=_
   unfold wl8;rw[axp,e4];simp[cF,db,h_,OB]
  rw[amU c2]at h ajP ⊢;by_cases c1:c=1
  ·subst c1;simp only[anH]at h ajP ⊢;unfold tv at h ajP ⊢;obtain⟨o4,L,e5,e4,hL⟩:=au4 _ _ _ (apC _ _) h;obtain⟨o3,e3,n1,n2⟩:=QF o4;obtain⟨o1,e6,hv⟩:=arj hs o3;have hrt:=awe e6;obtain⟨o2,e2,_⟩:=hca o1;have e1:=hk o2;rw[ajP,am5]at e4;rw[ao4 (atG _ _),e4]at e3;rw[ao4 hcf,e3]at e6;rw[ao4 hf,e6]at e2;rw[e2]at e1;rw[e5,anx];have e7:oh L=cbC (L.map λn=>(max n (ng n),decide (n<0))):=by
    simp only[oh,cbC,aCC];rfl
   have e8:2*L.length<=s.length:=by
    have:(kI (L.map Lib.itoa)).length<=s.length:=by rw[<-e4,am3];omega
    have h2:∀l:List Int,2*l.length<=(kI (l.map Lib.itoa)).length:=λl=>by
     induction l with
     |nil=>simp
     |cons v l ih=>
      have:=anI.2 (Go.St.yC true v).1;simp only[anO,kI,am6,amX];omega
    have:=h2 L;omega
   refine⟨z7A 15 (aD (iJ s t1)) (cQ s (dW s t1)) (L.map λn=>(max n (ng n),decide (n<0))),⟨_,_,_,_,_,rfl,.inr ⟨rfl,by simp[z7A,vCs]⟩,.inl rfl,.inr ⟨rfl,rfl⟩,.inr ⟨rfl,rfl⟩,.inl (by rw[e7];rfl)⟩,⟨by simp[z7A],by simp[z7A],hT t1 hk2.lt,by simp[z7A],by simp[z7A],?_⟩,?_,by simp[z7A],lb7 _ _ _ (by rw[fc _ hv];omega) (by simp;omega) (λp hp=>by
    obtain⟨n,hn,rfl⟩:=an0.1 hp;have:=hL n hn;unfold eM at this;unfold i64;simp only;have e:ng n = -n:=by unfold ng;rw[amU (by omega)]
    rw[e];omega) ⟨n1,n2⟩⟩
   ·show(L.map _).length<=_
    rw[aor];omega
   ·have e9:=fc _ hv;have e10:(L.map λn=>(max n (ng n),decide (n<0))).map DD=L:=by
     rw[aCC];conv=>rhs;rw[<-List.map_id L]
     exact List.map_congr_left λn hn=>avD (hL n hn)
    conv=>rhs;rw[e1]
    generalize iJ s t1=x at*;generalize cQ s (dW s t1)=cn at*;show wl8 _=_
    unfold wl8;rw[av_];rw[e9,e10];simp[cF,db,h_,iw,zA,p6]
  rw[amU c1]at h ajP ⊢;obtain⟨o2,e2,q1,q2⟩:=hca h;have e1:=hk o2;simp only at ajP;rw[ao4 hf,ajP]at e2;rw[e2]at e1;have hc:c=0\/c=3:=by omega
  rcases hc with rfl|rfl
  ·refine apO (z7A 14 [] 0 []) rfl ?_ rfl rfl rfl rfl rfl (lb7 _ _ _ (by simp[cC]) (by simp) (by simp) nb0);conv=>rhs;rw[e1]
   rfl
  ·refine apO (z7A 17 [] 0 []) rfl ?_ rfl rfl rfl rfl rfl (lb7 _ _ _ (by simp[cC]) (by simp) (by simp) nb0);conv=>rhs;rw[e1]
   rfl
 rw[amU k7]at h ajP;have:=hkr h;omega
open Go.Eng Go.St
structure BR(h h':AH)(X Y:LA)(k:Nat):Prop where
 bx:BX h h' X
 c:h'.ab k=some Y
 k1:h.nx+1<=k
 k2:k<h'.nx
theorem BR.bump{h h':AH}{X Y:LA}{k:Nat}(g:BR h h' X Y k){m:Nat}(hk:h'.nx<=m):BR h ⟨h'.H,m⟩ X Y k:=⟨g.bx.bump hk,g.c,g.k1,ant g.k2 hk⟩
theorem BR.set{h h':AH}{X Y:LA}{k:Nat}(g:BR h h' X Y k){q:Nat}(hq:h.nx+1<=q)(hqk:q≠k)(o:dx):BR h (h'.set q o) X Y k:=⟨g.bx.set hq o,by rw[ak _ _ _ _ (Ne.symm hqk)];exact g.c,g.k1,g.k2⟩
theorem as_(act:Int):∀k,(yi act k).length<=100
 |0=>by simp[yi]
 |k+1=>by
  unfold yi;split
  ·by_cases h:k<dI.length
   ·have:=am9 (gr h);exact(by decide:∀w∈dI,w.length<=100) _ this
   ·rw[anh,aoa (by omega)];simp
  ·exact as_ act k
theorem Y3{T:AV}{t:List Int}(hT:Sl (rnC t) T)(h:AH):kX h .r2s [T]=some (.str (cC t),h):=by
 rcases hT with rfl|⟨rfl,h0⟩
 ·exact wU h t
 ·have:t=[]:=by cases t with|nil=>rfl|cons a b=>simp[rnC]at h0
  subst this;rfl
open Tryz
structure Lst(h:AH)(A:AV)(css:List (LA)):Prop where
 len:∀h',bh h' A=some (I css.length,h')
 at_:∀(i:Nat) (c:LA),css[i]?=some c->∃p,∀h',Fr h h'->aF h' 37 A (I i)=some (p,h')/\bj h' 37 p=some (.agg c,h')
theorem aao{h:AH}{A:AV}{css:List (LA)}(hA:Sl css A)(hz:∀c∈css,c.length=37):Lst h A css:=by
 refine⟨λh'=>gW hA,λi c hc=>⟨.lz c,λh' _=>⟨gY hA hc (hz c (am9 hc)),?_⟩⟩⟩;have k1:cut c 0 37=some c:=by
  have:=aM (α:=c) (b:=[]) (n:=37) (hz c (am9 hc));rwa [am5]at this
 simp[k1]
theorem Dm{α:Type}{z:Nat}:∀(ys:List (List α)),(∀y∈ys,y.length=z)->∀(i:Nat) (y:List α),ys[i]?=some y->(ys.flatten.drop (i*z)).take z=y/\i*z+z<=ys.flatten.length
 |[],_,i,y,h=>by simp at h
 |x::ys,hz,0,y,h=>by
  simp at h;subst h;have hx:=hz x (by simp);simp only[an6,Nat.zero_mul,List.drop_zero,amX];exact⟨by rw[List.take_append_of_le_length (by omega),anc (by omega)],by omega⟩
 |x::ys,hz,i+1,y,h=>by
  simp at h;have hx:=hz x (by simp);have ih:=Dm ys (λy hy=>hz y (by simp[hy])) i y h;simp only[an6,anY,aoH,amX];refine⟨?_,by omega⟩;rw[List.drop_append,anf (by omega),anx,show i*z+z-x.length=i*z by omega];exact ih.1
theorem aay{hb h:AH}{lv:AV}{css:List (LA)}(o:OL 37 hb h lv css.length css.flatten)(hz:∀c∈css,c.length=37):Lst h lv css:=by
 rcases o with⟨rfl,h2,h3⟩|⟨k,rfl,hn0,hk0,hk,hcs,hlen⟩
 ·have:css=[]:=am8 h2;subst this;exact aao (.inr ⟨rfl,rfl⟩) (by simp)
 ·refine⟨λh'=>by simp,λi c hc=>⟨.ptr k (0+i*37),λh' fr=>?_⟩⟩;have hi:=(amV.1 hc).1;have hx:=dY (h:=h') (z:=37) (id:=k) (off:=0) (len:=css.length) (i:=i) (by omega) (by omega);have hcf:=Dm css hz i c hc;have tS:h'.ab k=some css.flatten:=by rw[ay (fr.get k hk)];exact hcs
  refine⟨hx,SG tS ?_⟩;unfold cut;rw[aoe,am1 hcf.2,hcf.1]
def spC:Str:=[32,48,45,34,92,91,93,97,110,116,120,10,255]
def spB(n:Nat):UInt8:=spC.getD n 0
def spV(x:Sr)(t:Str):Str:=
 if t=[]then [120]else
 if nV (nS (nS x t.length) 13) 3=0 then t.take (nV x t.length).toNat++t.drop ((nV x t.length).toNat+1)
 else if nV (nS (nS x t.length) 13) 3=1 then(t.take (nV x t.length).toNat++[spB (nV (nS x t.length) 13).toNat])++t.drop (nV x t.length).toNat
 else(t.take (nV x t.length).toNat++[spB (nV (nS x t.length) 13).toNat])++t.drop ((nV x t.length).toNat+1)
def spS(x:Sr)(t:Str):Sr:=if t=[]then x else nS (nS (nS x t.length) 13) 3
theorem ay6{x:Sr}(h:x.Ok)(t:Str):(spS x t).Ok:=by
 unfold spS;split
 ·exact h
 ·exact bn (bn (bn h _) _) _
theorem uT(x:Sr)(t:Str):(spV x t).length<=t.length+1:=by
 unfold spV;split
 ·simp
 split
 ·simp only[amX,anN,am3];omega
 split
 ·simp only[amX,anN,am3,am2];omega
 ·simp only[amX,anN,am3,am2];omega
theorem PG(h:AH)(id:Nat)(x:Sr)(t:Str)(hc:h.ab id=some (srC x))(hid:id<h.nx)(hx:x.Ok/\t.length<=1000000):aK prog 11 [.ptr id 0,.str t] h (.str (spV x t)) (h.set id (.cells (srC (spS x t)))):=by
 refine bm (R:=λv h'=>v =.str (spV x t)/\Ob h h' id (srC (spS x t))) hid (dR _) (C11 (aW [e8]) ?_) λv' h' ⟨h1,h2⟩=>⟨by rw[h1];exact .str _,h2⟩
 obtain⟨hx,ht⟩:=hx;by_cases h0:t=[]
 ·subst h0;simp[g11,spV,spS];exact Ob.start hc
 ·have hV:spV x t=if nV (nS (nS x t.length) 13) 3=0 then t.take (nV x t.length).toNat++t.drop ((nV x t.length).toNat+1)
   else if nV (nS (nS x t.length) 13) 3=1 then(t.take (nV x t.length).toNat++[spB (nV (nS x t.length) 13).toNat])++t.drop (nV x t.length).toNat
   else(t.take (nV x t.length).toNat++[spB (nV (nS x t.length) 13).toNat])++t.drop ((nV x t.length).toNat+1):=by unfold spV;rw[amU h0]
  have hS:spS x t=nS (nS (nS x t.length) 13) 3:=by unfold spS;rw[amU h0]
  rw[hV,hS];have htl:0<t.length:=anI.2 h0;simp[g11,h0];refine gD t.length hc hid ⟨hx,by omega⟩ ?_;have ho:=(Ob.start hc).set (srC (nS x t.length));have hx1:=bn hx t.length;have n1:=eG x t.length;have n2:=eu x (show(1:Int)<=t.length by omega);generalize h.set id (.cells (srC (nS x t.length)))=h1 at*;generalize nV x t.length=kk at*;generalize nS x t.length=x1 at*;obtain⟨k,rfl⟩:=anu n1;have hk:k<t.length:=by omega
  rw[show((k:Nat):Int).toNat=k by omega];refine gD 13 ho.c (ho.lt hid) ⟨hx1,by omega⟩ ?_;have ho:=ho.set (srC (nS x1 13));have hx2:=bn hx1 13;have m1:=eG x1 13;have m2:=eu x1 (show(1:Int)<=13 by omega);generalize h1.set id (.cells (srC (nS x1 13)))=h2 at*;generalize nV x1 13=cc at*;generalize nS x1 13=x2 at*;obtain⟨c,rfl⟩:=anu m1;have agY:c<spC.length:=by show c<13;omega
  rw[show((c:Nat):Int).toNat=c by omega];have hix:dH h2 (.str spC) (I c)=some (.int .u8 (spB c).toNat,h2):=bC (by unfold spB;rw[am0 agY,anh,am0 agY];rfl);have ai7:spC=[32,48,45,34,92,91,93,97,110,116,120,10,255]:=rfl;generalize spB c=b at*;unfold Pd;rw[<-ai7];have haf:bW [.int .u8 0] [(0,1,.int .u8 b.toNat)]=some (aR [b]):=rfl;have hcb:(h2.add (.cells (aR [b]))).ab h2.nx=some (aR [b]):=bd _ _ _ rfl;have hbs:kX (h2.add (.cells (aR [b]))) .b2s [.rsl h2.nx 0 1 1]=some (.str [b],h2.add (.cells (aR [b]))):=Co hcb;simp(disch:=first|go_size|fail)[hix,haf,hbs];have ho:=ho.new hid (h2:=h2.add (.cells (aR [b]))) (by simp) λi hi=>by rw[az,amU (by omega)]
  generalize h2.add (.cells (aR [b]))=h3 at*;refine gD 3 ho.c (ho.lt hid) ⟨hx2,by omega⟩ ?_;have ho:=ho.set (srC (nS x2 3));generalize h3.set id (.cells (srC (nS x2 3)))=h4 at*;generalize nV x2 3=w at*;generalize nS x2 3=x3 at*;have s1:=λh=>Cq (h:=h) (s:=t) (b:=k) (by omega)
  have s2:=λh=>pL (h:=h) (s:=t) (a:=k) (by omega)
  have s3:∀h:AH,gI h (.str t) (some (I ((k:Int)+1))) none=some (.str (t.drop (k+1)),h):=λh=>pL (h:=h) (s:=t) (a:=k+1) (by omega)
  have a1:=λh=>bQ (h:=h) (a:=t.take k) (b:=t.drop (k+1)) (by simp only[anN,am3];omega)
  have a2:=λh=>bQ (h:=h) (a:=t.take k) (b:=[b]) (by simp only[anN,am2];omega)
  have a3:=λh=>bQ (h:=h) (a:=t.take k++[b]) (b:=t.drop k) (by simp only[amX,anN,am3,am2];omega)
  have a4:=λh=>bQ (h:=h) (a:=t.take k++[b]) (b:=t.drop (k+1)) (by simp only[amX,anN,am3,am2];omega)
  generalize t.take k=T1 at*;generalize t.drop k=T2 at*;generalize t.drop (k+1)=T3 at*;by_cases w0:w=0
  ·simp(disch:=first|go_size|fail)[w0,s1];simp(disch:=first|go_size|fail)[Oq,s3,a1];refine ho.bump _ ?_;omega
  ·by_cases w1:w=1
   ·simp[w0,w1];simp[OG,s1,s2,a2,a3];refine ho.bump _ ?_;omega
   ·simp(disch:=first|go_size|fail)[w0,w1];simp(disch:=first|go_size|fail)[R0,s1,s3,a2,a4];simp(disch:=first|go_size|fail)[Qh];refine ho.bump _ ?_;omega
def e11:QE prog:=QE.obj 11 (λ_ _=>True) srC (fun(t:Str)=>[.str t]) (fun(x:Sr)(y:Str)=>match y with|t=>x.Ok/\t.length<=1000000) (fun(x:Sr)(y:Str)=>match y with|t=>.str (spV x t)) (fun(x:Sr)(y:Str)=>match y with|t=>spS x t) (λh id x y hj hc hid hx=>match y,hx with|t,hx=>PG h id x t hc hid hx)
theorem JL{tl h}{id:Nat}{x:Sr}(t:Str){Q:QT}(hc:h.ab id=some (srC x))(hid:id<h.nx)(hx:x.Ok/\t.length<=1000000)(hq:Q (.str (spV x t)) (h.set id (.cells (srC (spS x t))))):tb (e11::tl) 11 (.ptr id 0::[.str t]) h Q:=bF t trivial hc hid hx hq
@[simp ↓] theorem aj2:TbT e11 11:=aH e11
def kT:Str:=[107,101,121,32,99,116,114,108,43,115,32,53,10]
def jq:LA:=stN (stN (stN zIn 0 [I 2]) 7 [I 115,I 1]) 9 [I 5]
set_option maxRecDepth 100000 in
theorem Pe:qG kT=(some [jq],1,0):=by
 kernel_rfl
theorem VT(h:AH)(hg:GJ h)(_:True):aK prog 15 [] h (.bool true) h:=by
 refine kM (λ_=>.bool _) (C15 (aW [e12]) ?_);have hP:yk (qG kT) =.tup [.psl [jq],I 1,I 0]:=by rw[Pe];rfl
 have hix:∀h:AH,aF h 37 (.psl [jq]) (I 0)=some (.lz jq,h):=λh=>da (i:=0) rfl rfl
 have c0:jq[0]?=some (I 2):=rfl;have f7:∀h:AH,ah h 7 (.lz jq)=some (.lz (jq.drop 7),h):=λh=>rfl
 have f9:∀h:AH,ah h 9 (.lz jq)=some (.lz (jq.drop 9),h):=λh=>rfl
 have c7:cut (jq.drop 7) 0 2=some [I 115,I 1]:=rfl;have c9:(jq.drop 9)[0]?=some (I 5):=rfl;have hkT:kT=[107,101,121,32,99,116,114,108,43,115,32,53,10]:=rfl;unfold g15;rw[<-hkT];simp[];refine XU kT hg (by decide) ?_;rw[hP];generalize jq.drop 7=X7 at*;generalize jq.drop 9=X9 at*;generalize jq=X at*;simp[TN];simp[Tp,hix,c0];simp[Tv,hix,f7,c7,bA,gn];simp[OK,hix,f9,c9];exact Fr.refl h
def e15:QE prog:=QE.fn 15 GJ (fun(_:Unit)=>[]) (fun(_:Unit)(h:AH)=>True) (fun(_:Unit)=>.bool true) (λh _ hj hx=>VT h hj hx)
theorem aeK{tl h}{Q:QT}(hj:GJ h)(hx:True)(hq:Q (.bool true) h):tb (e15::tl) 15 [] h Q:=aV () hj hx hq
@[simp ↓] theorem aBF:TbT e15 15:=aH e15
def gB:Nat->Nat
 |0=>0
 |d+1=>3*(gB d+1)+30
theorem Ti(x:Sr)(n:Int):(vdV x n).length<=n.toNat:=by
 unfold vdV;rw[anN];omega
theorem ZD{x:Sr}(h:x.Ok):(plS x).Ok:=by
 have h1:=bn h 1003;have h2:=bn h1 8;unfold plS;generalize nS (nS x 1003) 8=y at*;generalize nV (nS x 1003) 8=c at*;generalize rgV x (-3) 999=n at*;unfold plC;split
 ·exact bn (bn (bn (bn h2 _) _) _) _
 split
 ·exact bn (Q7 h2) _
 split
 ·exact h2
 split
 ·exact bn h2 _
 split
 ·exact aa_ h2
 split
 ·exact pc (λy hy=>Kw 2 y hy) _ _ (bn h2 _)
 split
 ·exact GX (bn (bn (bn (bn h2 _) _) _) _) _
 ·have hS:∀(k:Int) {z:Sr},z.Ok->(mU k z).Ok:=λk z hz=>by
   unfold mU;split
   ·exact GX hz _
   ·exact hz
  unfold pl7;split
  ·exact pc WU _ _ (bn (bn (hS _ (bn h2 _)) _) _)
  ·exact hS _ (bn h2 _)
theorem GJ.fr{h h1:AH}(hg:GJ h)(f:Fr h h1):GJ h1:=
 hg.me (λi hi=>f.get i (by have:=hg.2;omega)) f.nx
def e7:QE prog:=
 ⟨7,λargs h Q=>∃L,args=[jO L]/\Q (.ptr h.nx 0) (h.add (.cells (srC (sL L)))),λargs h Q ⟨L,h1,h2⟩=>by
  subst h1;exact⟨_,_,ae8 h L trivial,h2⟩⟩
theorem ahr{tl h}(L:List Int){Q:QT}(hq:Q (.ptr h.nx 0) (h.add (.cells (srC (sL L))))):tb (e7::tl) 7 [jO L] h Q:=by
 rw[dJ _ tl 7 _ _ _ rfl];exact⟨L,rfl,hq⟩
@[simp ↓] theorem alj:TbT e7 7:=aH e7
theorem Uo(acc:List Inp):wi acc (acc.map inC):=
 ⟨by simp,λk i c h1 h2=>by
  rw[anb,h1]at h2;simp at h2;subst h2;exact Zx i⟩
open Go.RowKit
def WS(h:AH)(x:AV)(l:List Str):Prop:=(x =.aa/\l=[])\/∃k,x =.rsl k 0 l.length 1/\h.ab k=some (l.map λs=>.str s)/\l≠[]
theorem av3(l:List Str):Lib.join l [32]=p6 l:=by
 cases l with
 |nil=>rfl
 |cons a r=>
  rw[Lib.join_cons];unfold p6;congr 1
  unfold Lib.joinTail;induction r with
  |nil=>rfl
  |cons b r ih=>simp only[anO,an6,kI,ih];simp
theorem awD:∀(l:List Str),aqj 1 l.length (l.map λs=>AV.str s)=l.map λs=>[AV.str s]
 |[]=>rfl
 |a::l=>by
  rw[am6,aqj];simp only[anO,List.take_succ_cons,List.take_zero,aox,List.drop_zero];rw[awD l]
theorem arT:∀l:List Str,arL (l.map λs=>[AV.str s])=some l
 |[]=>rfl
 |a::l=>by simp only[anO,arL,arT l]
theorem avB(l:List Str):dj (l.map λs=>AV.str s)=true:=by
 unfold dj;rw[anK];intro x hx;obtain⟨s,_,rfl⟩:=an0.1 hx;rfl
theorem awo(h:AH)(x:AV)(l:List Str)(hx:WS h x l/\(p6 l).length<=1000000/\l.length<=1000000):aK prog 69 [x,.str [32]] h (.str (p6 l)) h:=by
 obtain⟨hx,h1,h2⟩:=hx;rw[<-av3]at h1 ⊢;refine Go.Proofs.Z4 x (l.map λs=>[AV.str s]) l [32] h ?_ (arT l) h1 h2;rcases hx with⟨rfl,rfl⟩|⟨k,rfl,hc,_⟩
 ·rfl
 ·have fk:cut (l.map λs=>AV.str s) 0 (l.length*1)=some (l.map λs=>.str s):=by
   have:=aM (α:=l.map λs=>AV.str s) (b:=[]) (n:=l.length*1) (by simp);rwa [am5]at this
  simp only[arl,anH,hc,fk,avB,awD]
def e69:QE prog:=QE.fn 69 (λ_=>True) (fun(y:AV×List Str)=>match y with|⟨x,l⟩=>[x,.str [32]]) (fun(y:AV×List Str)(h:AH)=>match y with|⟨x,l⟩=>WS h x l/\(p6 l).length<=1000000/\l.length<=1000000) (fun(y:AV×List Str)=>match y with|⟨x,l⟩=>.str (p6 l)) (λh y hj hx=>match y,hx with|⟨x,l⟩,hx=>awo h x l hx)
theorem au7{tl h}(x:AV)(l:List Str){Q:QT}(hx:WS h x l/\(p6 l).length<=1000000/\l.length<=1000000)(hq:Q (.str (p6 l)) h):tb (e69::tl) 69 [x,.str [32]] h Q:=aV (x,l) trivial hx hq
@[simp ↓] theorem aBC:TbT e69 69:=aH e69
theorem azk:Fex prog 102:=⟨_,func102,rfl,by decide⟩
theorem azM:Fex prog 29:=⟨_,func29,rfl,by decide⟩
theorem axK(h:AH)(b:Bool)(_:True):aK prog 102 [.bool b] h (.str (if b=true then d_ else LM)) h:=by
 refine aK.lib azk λown β wd cS hs hR=>?_
 obtain⟨u,rfl,hu⟩:=uv hR;cases hu;refine(apK b wd).mono ?_;rintro e w' ⟨rfl,rfl⟩;refine⟨_,rfl,?_,Below.refl _ _⟩;cases b
 ·exact .str LM
 ·exact .str d_
def axX:QE prog:=QE.fn 102 (λ_=>True) (fun(b:Bool)=>[.bool b]) (fun(b:Bool)(h:AH)=>True) (fun(b:Bool)=>.str (if b=true then d_ else LM)) (λh b hj hx=>axK h b hx)
theorem ay_{tl h}(b:Bool){Q:QT}(hx:True)(hq:Q (.str (if b=true then d_ else LM)) h):tb (axX::tl) 102 [.bool b] h Q:=aV b trivial hx hq
@[simp ↓] theorem aAL:TbT axX 102:=aH axX
theorem atT(h:AH)(s:Str)(_:True):aK prog 29 [.str s,.str [10]] h (.bool (decide (0<=Lib.indexByte s 10))) h:=by
 refine aK.lib azM λown β wd cS hs hR=>?_
 have:=wF hR;subst this;refine(apB ⟨s.toArray⟩ 10 wd).mono ?_;rintro e w' ⟨rfl,rfl⟩;exact⟨_,rfl,.bool _,Below.refl _ _⟩
def e29:QE prog:=QE.fn 29 (λ_=>True) (fun(s:Str)=>[.str s,.str [10]]) (fun(s:Str)(h:AH)=>True) (fun(s:Str)=>.bool (decide (0<=Lib.indexByte s 10))) (λh s hj hx=>atT h s hx)
theorem aAe{tl h}(s:Str){Q:QT}(hx:True)(hq:Q (.bool (decide (0<=Lib.indexByte s 10))) h):tb (e29::tl) 29 [.str s,.str [10]] h Q:=aV s trivial hx hq
@[simp ↓] theorem aBx:TbT e29 29:=aH e29
theorem av8(h:AH)(b:Bool)(x y:Str)(_:True):aK prog 67 [.bool b,.str x,.str y] h (.str (if b=true then y else x)) h:=by
 refine kM (λ_=>.str _) (C67 (aW []) ?_);cases b
 ·simp[g67];exact Fr.refl h
 ·simp[g67];exact Fr.refl h
def e67:QE prog:=QE.fn 67 (λ_=>True) (fun(y:Bool×Str×Str)=>match y with|⟨b,x,y⟩=>[.bool b,.str x,.str y]) (fun(y:Bool×Str×Str)(h:AH)=>match y with|⟨b,x,y⟩=>True) (fun(y:Bool×Str×Str)=>match y with|⟨b,x,y⟩=>.str (if b=true then y else x)) (λh y hj hx=>match y,hx with|⟨b,x,y⟩,hx=>av8 h b x y hx)
theorem ayr{tl h}(b:Bool)(x:Str)(y:Str){Q:QT}(hx:True)(hq:Q (.str (if b=true then y else x)) h):tb (e67::tl) 67 [.bool b,.str x,.str y] h Q:=aV (b,x,y) trivial hx hq
@[simp ↓] theorem aBB:TbT e67 67:=aH e67
theorem ay0(h:AH)(l:List Str)(i:Int)(hl:l.length<=1000):aK prog 64 [bU l,I i] h (.str (apJ l i)) h:=by
 refine kM (λ_=>.str _) (C64 (aW []) ?_);have hln:∀h:AH,bh h (bU l)=some (I l.length,h):=λh=>by simp[bU]
 have azx:∀h:AH,0<=i->i<l.length->∃s,l[i.toNat]?=some s/\aF h 1 (bU l) (I i)=some (.lz [.str s],h):=λh h0 h1=>by
  have hlt:i.toNat<l.length:=by omega
  refine⟨l[i.toNat],am0 hlt,?_⟩;have hg:(l.map λs=>[AV.str s])[i.toNat]?=some [.str l[i.toNat]]:=by rw[anb,am0 hlt];rfl
  have:=da (h:=h) (i:=i.toNat) hg rfl;rwa [show((i.toNat:Nat):Int)=i by omega]at this
 generalize bU l=L at*;simp[g64];refine⟨λvs h'=>vs=[L,I i,.bool (decide (i<0\/(l.length:Int)<=i))]/\h'=h,?_,?_⟩
 ·by_cases h0:i<0
  ·simp[asA,h0]
  ·by_cases h1:(l.length:Int)<=i
   ·simp[asA,h0,hln,h1]
   ·simp[asA,h0,hln,h1]
 ·rintro vs h' ⟨rfl,rfl⟩;unfold apJ;by_cases hb:i<0\/(l.length:Int)<=i
  ·rw[anA hb,amU (by omega)];simp[atn];exact Fr.refl h'
  ·rw[anw hb,am1 (by omega)];obtain⟨s,hs,hx⟩:=azx h' (by omega) (by omega);simp(disch:=first|go_size|fail)[atn,hx];obtain⟨hlt,he⟩:=amV.1 hs;exact⟨he.symm,Fr.refl h'⟩
def e64:QE prog:=QE.fn 64 (λ_=>True) (fun(y:List Str×Int)=>match y with|⟨l,i⟩=>[bU l,I i]) (fun(y:List Str×Int)(h:AH)=>match y with|⟨l,i⟩=>l.length<=1000) (fun(y:List Str×Int)=>match y with|⟨l,i⟩=>.str (apJ l i)) (λh y hj hx=>match y,hx with|⟨l,i⟩,hx=>ay0 h l i hx)
theorem ayt{tl h}(l:List Str)(i:Int){Q:QT}(hx:l.length<=1000)(hq:Q (.str (apJ l i)) h):tb (e64::tl) 64 [bU l,I i] h Q:=aV (l,i) trivial hx hq
@[simp ↓] theorem aBz:TbT e64 64:=aH e64
theorem aus{hb h:AH}{lv:AV}{n:Nat}{L:List Str}(o:OL 1 hb h lv n (L.map λs=>.str s))(hn:n=L.length):WS h lv L:=by
 subst hn;rcases o with⟨h1,h2,h3⟩|⟨k,h1,h2,h3,h4,h5,h6⟩
 ·exact .inl ⟨h1,am8 h2⟩
 ·exact .inr ⟨k,h1,h5,λe=>h2 (by rw[e];rfl)⟩
theorem aqy(l:List Int)(h:∀n∈l, -9223372036854775808<=n/\n<=9223372036854775807):(kI (l.map Lib.itoa)).length<=22*l.length:=by
 induction l with
 |nil=>simp[kI]
 |cons n l ih=>
  have ih:=ih λm hm=>h m (by simp[hm])
  have hn:=h n (by simp);have hi:(Lib.itoa n).length<=21:=by
   have e:(10:Nat)^(18+2)=100000000000000000000:=by decide
   unfold Lib.itoa;split
   ·have:=sC 19 n.natAbs (by rw[show(10:Nat)^(19+1)=100000000000000000000 by decide];omega);simp;omega
   ·have:=sC 19 n.toNat (by rw[show(10:Nat)^(19+1)=100000000000000000000 by decide];omega);omega
  simp only[anO,kI,am6,amX];omega
theorem apE(l:List Str):(p6 l).length<=(kI l).length:=by
 cases l with
 |nil=>simp[p6]
 |cons a l=>simp[p6,kI]
inductive Q65(h:AH)(A:AV)(L:List Int):Nat->List AV->AH->Prop
 |mk {m:Nat} {h':AH} (i:Nat) (lv:AV):i+m=L.length->Fr h h'->OL 1 h h' lv i (((L.take i).map Lib.itoa).map λs=>.str s)->Q65 h A L m [lv,A,I L.length,I i] h'
theorem axa(h:AH)(A:AV)(L:List Int)(hg:GJ h)(hx:NSl h A L/\L.length<=20000/\∀n∈L, -9223372036854775808<=n/\n<=9223372036854775807):aK prog 65 [A] h (.str (zA L)) h:=by
 obtain⟨⟨k,rfl,hc,hk⟩,hL,hn⟩:=hx;refine kM (λ_=>.str _) (C65 (aW [e99,e69]) ?_);have hwl:=aqy L hn;have hjl:=apE (L.map Lib.itoa);simp[g65];refine⟨Q65 h (.rsl k 0 L.length 1) L,L.length,.mk 0 .aa (by omega) (Fr.refl h) (OL.start _ _ _),?_⟩;rintro m vs h' ⟨i,lv,him,fr,o⟩;have hg':=hg.fr fr;have hc':h'.ab k=some (L.map λn=>I n):=(ay (fr.get k hk)).trans hc;cases m with
 |zero=>
  obtain rfl:i=L.length:=by omega
  rw[aCg]at o;have hws:=aus o (by simp);simp[atV];simp[awq];unfold atk;simp[];refine au7 lv (L.map Lib.itoa) ⟨hws,by omega,by simp;omega⟩ ?_;exact⟨rfl,fr⟩
 |succ m=>
  have hi:i<L.length:=by omega
  have hlt:(i:Int)<L.length:=by omega
  have hix:aF h' 1 (.rsl k 0 L.length 1) (I i)=some (.ptr k i,h'):=by
   have:=dY (h:=h') (z:=1) (id:=k) (off:=0) (len:=L.length) (i:=(i:Int)) (by omega) (by omega);simpa using this
  have hgt:(L.map λn=>I n)[i]?=some (I L[i]):=by rw[anb,am0 hi];rfl
  have htk:(L.take (i+1)).map Lib.itoa=(L.take i).map Lib.itoa++[Lib.itoa L[i]]:=by rw[aCh,am0 hi,aoC];rfl
  have hni:=hn L[i] (anL hi);generalize L[i]=n at*;simp[atV,hlt,hix,hc',hgt];refine afI n hg' hni ?_;have haf:bW [AV.str []] [(0,1,.str (Lib.itoa n))]=some [.str (Lib.itoa n)]:=rfl;obtain⟨lv',h2,k1,o2,hn2,hg2⟩:=mI (bytes:=16) (tc:=[.str (Lib.itoa n)]) o fr.nx rfl rfl (by omega) (by omega);simp[av1,haf];rw[k1];simp(disch:=first|go_size|fail)[];refine⟨m,by omega,.mk (i+1) lv' (show i+1+m=L.length by omega) ⟨by have:=fr.nx;omega,λj hj=>by rw[hg2 j hj];exact fr.get j hj⟩ ?_⟩;rw[htk,aoC];exact o2
def e65:QE prog:=QE.fn 65 GJ (fun(y:AV×List Int)=>match y with|⟨A,L⟩=>[A]) (fun(y:AV×List Int)(h:AH)=>match y with|⟨A,L⟩=>NSl h A L/\L.length<=20000/\∀n∈L, -9223372036854775808<=n/\n<=9223372036854775807) (fun(y:AV×List Int)=>match y with|⟨A,L⟩=>.str (zA L)) (λh y hj hx=>match y,hx with|⟨A,L⟩,hx=>axa h A L hj hx)
theorem aqM{tl h}(A:AV)(L:List Int){Q:QT}(hj:GJ h)(hx:NSl h A L/\L.length<=20000/\∀n∈L, -9223372036854775808<=n/\n<=9223372036854775807)(hq:Q (.str (zA L)) h):tb (e65::tl) 65 [A] h Q:=aV (A,L) hj hx hq
@[simp ↓] theorem aBv:TbT e65 65:=aH e65
def avR(v:Val):Prop:=∀(h:AH),GJ h->aK prog 68 [.agg (vC v)] h (.str (MP v)) h
def eWk(l:List Val)(hv:∀v∈l,avR v):QE prog:=
 ⟨68,λargs h Q=>∃v,args=[.agg (vC v)]/\v∈l/\GJ h/\Q (.str (MP v)) h,λargs h Q ⟨v,h1,h2,h3,h4⟩=>by
  subst h1;exact⟨_,_,hv v h2 h h3,h4⟩⟩
theorem azS{l:List Val}{hv:∀v∈l,avR v}{tl h}(v:Val){Q:QT}(hm:v∈l)(hg:GJ h)(hq:Q (.str (MP v)) h):tb (eWk l hv::tl) 68 [.agg (vC v)] h Q:=by
 rw[dJ _ tl 68 _ _ _ rfl];exact⟨v,rfl,hm,hg,hq⟩
@[simp ↓] theorem aBr{l:List Val}{hv:∀v∈l,avR v}(tl:List (QE prog))(f:Nat)(args:LA)(h:AH)(Q:QT)(hf:68≠f):tb (eWk l hv::tl) f args h Q=tb tl f args h Q:=aH _ tl f args h Q hf
inductive Q68(h:AH)(l:List Val):Nat->List AV->AH->Prop
 |mk {m:Nat} {h':AH} (i:Nat) (lv:AV):i+m=l.length->Fr h h'->OL 1 h h' lv i ((kS (l.take i)).map λs=>.str s)->Q68 h l m [lv,.psl (vCs l),I l.length,I i] h'
theorem apv:∀l:List Val,(kS l).length=l.length
 |[]=>rfl
 |v::l=>by simp[kS,apv l]
theorem axZ(k n:Int)(s:Str)(l:List Val)(hn : -9223372036854775808<=n/\n<=9223372036854775807)(hs:s.length<=400000)(hl:l.length<=20000)(hv:∀v∈l,avR v)(hT:(MP (.mk k n s l)).length<=900000):avR (.mk k n s l):=by
 intro h hg;refine kM (λ_=>.str _) (C68 (aW [e70,e99,axX,eWk l hv,e69]) ?_);have hv0:(vC (.mk k n s l))[0]?=some (I k):=by simp[vC]
 have hv1:(vC (.mk k n s l))[1]?=some (I n):=by simp[vC]
 have hv2:(vC (.mk k n s l))[2]?=some (.str s):=by simp[vC]
 have hv3:(vC (.mk k n s l))[3]?=some (.psl (vCs l)):=by simp[vC]
 have c1:(h.add (.cells (vC (.mk k n s l)))).ab h.nx=some (vC (.mk k n s l)):=bd _ _ _ rfl;have fr:=(Fr.refl h).add (.cells (vC (.mk k n s l)));have iC:dj (vC (.mk k n s l))=true:=iH _;generalize vC (.mk k n s l)=X at*;have hg1:=hg.fr fr;simp only[MP]at hT ⊢;by_cases k1:k=1
 ·rw[am1 k1]at hT ⊢;subst k1;simp[g68,hv0,hv1];refine afI n hg1 hn ?_;exact⟨rfl,fr⟩
 rw[amU k1]at hT ⊢;by_cases k2:k=2
 ·rw[am1 k2]at hT ⊢;subst k2;simp[g68,hv0,hv1];simp[avX];refine ay_ (n==1) trivial ?_;simp[];exact fr
 rw[amU k2]at hT ⊢;by_cases k3:k=3
 ·rw[am1 k3]at hT ⊢;subst k3;simp[g68,hv0,hv2];simp[axf];refine au3 s (by omega) ?_;exact⟨rfl,fr⟩
 rw[amU k3]at hT ⊢;by_cases k4:k=4
 ·rw[am1 k4]at hT ⊢;subst k4;have aBj:=dr l;simp[g68,hv0];simp[axb,hv3,aBj];have hn1:h.nx+1<=(h.add (.cells X)).nx:=by simp
  generalize h.add (.cells X)=h1 at*;refine⟨Q68 h1 l,l.length,.mk 0 .aa (by omega) (Fr.refl h1) (OL.start _ _ _),?_⟩;rintro m vs h' ⟨i,lv,him,fr2,o⟩;have hg2:=hg1.fr fr2;have hjw:=apE (kS l);simp only[am6,amX,anr]at hT;cases m with
  |zero=>
   obtain rfl:i=l.length:=by omega
   rw[aCg]at o;have hws:=aus o (apv l).symm;simp[atI];simp[axo];unfold at0;simp[];refine au7 lv (kS l) ⟨hws,by omega,by rw[apv];omega⟩ ?_;have q1:=bQ (h:=h') (a:=[91]) (b:=p6 (kS l)) (by simp;omega);have q2:=bQ (h:=h') (a:=[91]++p6 (kS l)) (b:=[93]) (by simp;omega);simp only[anB,anx]at q1 q2;simp[avZ,q1,q2];exact fr.trans fr2
  |succ m=>
   have hi:i<l.length:=by omega
   have hlt:(i:Int)<l.length:=by omega
   have i1:∀h:AH,aF h 4 (.psl (vCs l)) (I i)=some (.lz (vC l[i]),h):=λh=>da (nD hi) (cH _)
   have ab2:=anL hi;have htk:kS (l.take (i+1))=kS (l.take i)++[MP l[i]]:=by rw[aCh,am0 hi,aCu,arX];rfl
   have fk:cut (vC l[i]) 0 4=some (vC l[i]):=by
    have:=aM (α:=vC l[i]) (b:=[]) (n:=4) (cH _);rwa [am5]at this
   generalize l[i]=v at*;have hvl:=cH v;have hvo:=iH v;have xY:fi [I 0,I 0,.str [],.aa] 0 (vC v)=some (vC v):=dG hvl.symm;simp[atI,hlt,i1,fk,hvl,hvo,xY];have fr3:Fr h1 ((h'.add (.cells [I 0,I 0,.str [],.aa])).set h'.nx (.cells (vC v))):=(fr2.add _).set (by have:=fr2.nx;omega) _;have o3:OL 1 h1 ((h'.add (.cells [I 0,I 0,.str [],.aa])).set h'.nx (.cells (vC v))) lv i ((kS (l.take i)).map λs=>.str s):=o.du (by simp) λj _ hj=>by rw[au,amU (by omega),az,amU (by omega)]
   generalize(h'.add (.cells [I 0,I 0,.str [],.aa])).set h'.nx (.cells (vC v))=h3 at*;have hg3:=hg1.fr fr3;refine azS v ab2 hg3 ?_;have haf:bW [AV.str []] [(0,1,.str (MP v))]=some [.str (MP v)]:=rfl;obtain⟨lv',h4,kk,o4,hn4,hg4⟩:=mI (bytes:=16) (tc:=[.str (MP v)]) o3 fr3.nx rfl rfl (by omega) (by omega);simp[awc,haf];rw[kk];simp(disch:=first|go_size|fail)[];refine⟨m,by omega,.mk (i+1) lv' (show i+1+m=l.length by omega) ⟨by have:=fr3.nx;omega,λj hj=>by rw[hg4 j hj];exact fr3.get j hj⟩ ?_⟩;rw[htk,aoC];exact o4
 ·rw[amU k4]at hT ⊢;simp(disch:=first|go_size|fail)[g68,hv0,k1,k2,k3,k4];exact fr
theorem az6:∀ {v:Val},WW v->avR v:=λhv=>by
 induction hv with
 |mk k n s l h1 h2 h3 _ h5 ih=>exact axZ k n s l h1 h2 h3 ih h5
theorem avF(h:AH)(v:Val)(hg:GJ h)(hv:WW v):aK prog 68 [.agg (vC v)] h (.str (MP v)) h:=az6 hv h hg
def e68:QE prog:=QE.fn 68 GJ (fun(v:Val)=>[.agg (vC v)]) (fun(v:Val)(h:AH)=>WW v) (fun(v:Val)=>.str (MP v)) (λh v hj hx=>avF h v hj hx)
theorem azN{tl h}(v:Val){Q:QT}(hj:GJ h)(hx:WW v)(hq:Q (.str (MP v)) h):tb (e68::tl) 68 [.agg (vC v)] h Q:=aV v hj hx hq
@[simp ↓] theorem aBH:TbT e68 68:=aH e68
theorem atU(h:AH)(k m:Int)(_:True):aK prog 100 [.agg [I k,I m]] h (.bool (fa k m)) h:=by
 refine kM (λ_=>.bool _) (aA2 (aW [Vg]) ?_);have c1:(h.add (.cells [I k,I m])).ab h.nx=some [I k,I m]:=bd _ _ _ rfl;have fr:=(Fr.refl h).add (.cells [I k,I m]);have e:fa k m=(decide (0<=m/\m<=15)&&(decide (1<=k/\k<=23)||ph k)):=by
  rw[jJ];unfold ph;by_cases h1:0<=m/\m<=15<;>by_cases h2:1<=k/\k<=23<;>simp[h1,h2]<;>omega
 rw[e];by_cases m0:0<=m
 ·by_cases m1:m<=15
  ·by_cases k0:1<=k
   ·by_cases k1:k<=23
    ·simp[avI,m0,m1];simp[ap8,k0,k1];simp[ap7];exact fr
    ·simp[avI,m0,m1];simp[ap8,k0,k1];simp[ap7];refine PA k trivial ?_;simp[];exact fr
   ·simp[avI,m0,m1];simp[ap8,k0];simp[ap7];refine PA k trivial ?_;simp[];exact fr
  ·simp[avI,m0,m1];simp[ap8];simp[ap7];exact fr
 ·simp[avI,m0];simp[ap8];simp[ap7];exact fr
def axB:QE prog:=QE.fn 100 (λ_=>True) (fun(y:Int×Int)=>match y with|⟨k,m⟩=>[.agg [I k,I m]]) (fun(y:Int×Int)(h:AH)=>match y with|⟨k,m⟩=>True) (fun(y:Int×Int)=>match y with|⟨k,m⟩=>.bool (fa k m)) (λh y hj hx=>match y,hx with|⟨k,m⟩,hx=>atU h k m hx)
theorem ayT{tl h}(k:Int)(m:Int){Q:QT}(hx:True)(hq:Q (.bool (fa k m)) h):tb (axB::tl) 100 [.agg [I k,I m]] h Q:=aV (k,m) trivial hx hq
@[simp ↓] theorem aAJ:TbT axB 100:=aH axB
structure BD(h h':AH)(id:Nat)(bs:Str):Prop where
 fr:Fr h h'
 ge:h.nx<=id
 lt:id<h'.nx
 st:∃p bv og,h'.H.get id=some (.typ 171 [p,bv])/\(p =.dS\/p =.ptr id 0)/\arC h' id 5 bv (aoY bs) og/\∀g,og=some g->h.nx<=g/\g<h'.nx
theorem BD.start{h h':AH}(fr:Fr h h'):BD h (h'.add (.typ 171 [.dS,.aa])) h'.nx []:=
 ⟨fr.add _,fr.nx,by simp,.dS,.aa,none,by rw[az,am1 rfl],.inl rfl,.inl ⟨rfl,rfl,rfl⟩,λg e=>by cases e⟩
theorem BD.du{h h' h2:AH}{id:Nat}{bs:Str}(b:BD h h' id bs)(hn:h'.nx<=h2.nx)(hg:∀i,i<h'.nx->h2.H.get i=h'.H.get i):BD h h2 id bs:=by
 obtain⟨p,bv,og,h1,h2',h3,h4⟩:=b.st;refine⟨⟨ane b.fr.nx hn,λi hi=>by rw[hg i (by have:=b.fr.nx;omega)];exact b.fr.get i hi⟩,b.ge,ant b.lt hn,p,bv,og,by rw[hg id b.lt];exact h1,h2',?_,λg e=>⟨(h4 g e).1,ant (h4 g e).2 hn⟩⟩;rcases h3 with h3|⟨g,g1,g2,g3,g4,g5⟩
 ·exact .inl h3
 ·exact .inr ⟨g,g1,g2,g3,g4,by rw[hg g (h4 g g1).2];exact g5⟩
theorem BD.wrote{h h':AH}{id:Nat}{bs s:Str}{p bv:AV}{og:Option Nat}(b:BD h h' id bs)(hs:s≠[])(h4:∀g,og=some g->h.nx<=g/\g<h'.nx):BD h (apb h' id og 85 5 (aoY bs) s) id (bs++s):=by
 have hge:=b.ge;have hlt:=b.lt;have hfr:=b.fr.nx;have hg:=aro h' id og 85 5 (aoY bs) s;have hnx:(apb h' id og 85 5 (aoY bs) s).nx=h'.nx+1:=rfl;have hl:(aoY bs).length+s.length=(aoY (bs++s)).length:=by simp[aoY]
 refine⟨⟨by omega,λi hi=>?_⟩,b.ge,by omega,.ptr id 0,.rsl h'.nx 0 ((aoY bs).length+s.length) 1,some h'.nx,?_,.inr rfl,.inr ⟨h'.nx,rfl,by omega,?_,by rw[hl],?_⟩,λg e=>by cases e;omega⟩
 ·rw[hg,amU (by omega),amU (by omega),amU (λe=>by have:=h4 i e;omega)];exact b.fr.get i hi
 ·rw[hg,amU (by omega),am1 rfl]
 ·intro e;have:=congrArg List.length e;simp[aoY]at this;exact hs this.2
 ·rw[hg,am1 rfl];simp[aoY]
theorem ard(s:Str):(aoY s).all ap3=true:=by
 unfold aoY;rw[anK];intro x hx;obtain⟨c,_,rfl⟩:=an0.1 hx;rfl
def e31:QE prog:=
 ⟨31,λargs h Q=>∃id p bv og bs s,args=[.ptr id 0,.str s]/\h.H.get id=some (.typ 171 [p,bv])/\(p =.dS\/p =.ptr id 0)/\arC h id 5 bv (aoY bs) og/\s≠[]/\bs.length+s.length<=140737488355328/\Q (.tup [I s.length,.gf]) (apb h id og 85 5 (aoY bs) s),
  λargs h Q ⟨id,p,bv,og,bs,s,h1,h2,h3,h4,h5,h6,h7⟩=>by
  subst h1;exact⟨_,_,ax5 Go.Proofs.azo Go.Proofs.aAv h2 h3 h4 (ard _) h5 (by simpa[aoY]using h6),h7⟩⟩
theorem auB{tl:List (QE prog)}{h0 h:AH}{id:Nat}{bs:Str}(s:Str){Q:QT}(b:BD h0 h id bs)(hs:s≠[])(hl:bs.length+s.length<=140737488355328)(hq:∀h2,h.nx<=h2.nx->BD h0 h2 id (bs++s)->Q (.tup [I s.length,.gf]) h2):tb (e31::tl) 31 [.ptr id 0,.str s] h Q:=by
 obtain⟨p,bv,og,h1,h2,h3,h4⟩:=b.st;rw[dJ _ tl 31 _ _ _ rfl];exact⟨id,p,bv,og,bs,s,rfl,h1,h2,h3,hs,hl,hq _ (Nat.le_succ _) (b.wrote (p:=p) (bv:=bv) hs h4)⟩
@[simp ↓] theorem aBw:TbT e31 31:=aH e31
theorem ayR:Fex prog 135:=⟨_,func135,rfl,by decide⟩
theorem ay5{r:Int}(hv:apk r):arF prog 135 85 5 (.int .i32 r) ⟨(oe r).toArray⟩:=by
 have:=Go.Proofs.avS hv;unfold Go.Proofs.VW at this;rwa [<-pQ]at this
def axV:QE prog:=
 ⟨135,λargs h Q=>∃id p bv og bs r,args=[.ptr id 0,.int .i32 r]/\h.H.get id=some (.typ 171 [p,bv])/\(p =.dS\/p =.ptr id 0)/\arC h id 5 bv (aoY bs) og/\apk r/\bs.length+(oe r).length<=140737488355328/\Q (.tup [I (oe r).length,.gf]) (apb h id og 85 5 (aoY bs) (oe r)),
  λargs h Q ⟨id,p,bv,og,bs,r,h1,h2,h3,h4,h5,h6,h7⟩=>by
  subst h1;exact⟨_,_,aur (arg:=.int .i32 r) (λ_ _ _ u hu=>by cases hu;rfl) (ay5 h5) ayR h2 h3 h4 (ard _) (asr h5) (by simpa[aoY]using h6),h7⟩⟩
theorem ayK{tl:List (QE prog)}{h0 h:AH}{id:Nat}{bs:Str}(r:Int){Q:QT}(b:BD h0 h id bs)(hv:apk r)(hl:bs.length+(oe r).length<=140737488355328)(hq:∀h2,h.nx<=h2.nx->BD h0 h2 id (bs++oe r)->Q (.tup [I (oe r).length,.gf]) h2):tb (axV::tl) 135 [.ptr id 0,.int .i32 r] h Q:=by
 obtain⟨p,bv,og,h1,h2,h3,h4⟩:=b.st;rw[dJ _ tl 135 _ _ _ rfl];exact⟨id,p,bv,og,bs,r,rfl,h1,h2,h3,hv,hl,hq _ (Nat.le_succ _) (b.wrote (p:=p) (bv:=bv) (asr hv) h4)⟩
@[simp ↓] theorem aA4:TbT axV 135:=aH axV
def e32:QE prog:=
 ⟨32,λargs h Q=>∃id g p l,args=[.ptr id 0]/\h.H.get id=some (.typ 171 [p,.rsl g 0 l.length 1])/\h.H.get g=some (.typ 10 (aoY l))/\g≠id/\l≠[]/\Q (.str l) ((h.kill g).kill id),λargs h Q ⟨id,g,p,l,h1,h2,h3,h4,h5,h6⟩=>by
  subst h1;exact⟨_,_,axt Go.Proofs.ayd Go.Proofs.ayF h2 h3 h4 h5,h6⟩⟩
theorem ayo{tl:List (QE prog)}{h0 h:AH}{id:Nat}{bs:Str}{Q:QT}(b:BD h0 h id bs)(hs:bs≠[])(hq:∀h2,Fr h0 h2->Q (.str bs) h2):tb (e32::tl) 32 [.ptr id 0] h Q:=by
 obtain⟨p,bv,og,h1,h2,h3,h4⟩:=b.st;have hge:=b.ge;rcases h3 with⟨_,h5,_⟩|⟨g,g1,g2,g3,g4,g5⟩
 ·exact absurd h5 (by intro e;exact hs (by simpa[aoY]using e))
 ·rw[dJ _ tl 32 _ _ _ rfl];have hl:(aoY bs).length=bs.length:=by simp[aoY]
  rw[hl]at g4;subst g4;refine⟨id,g,p,bs,rfl,h1,g5,g2,hs,hq _ ⟨b.fr.nx,λi hi=>?_⟩⟩;have:=h4 g g1;rw[ri,amU (by omega),ri,amU (by omega)];exact b.fr.get i hi
theorem aAm{m:Int}(h0:0<=m)(h1:m<=15){i:Nat}(hi:i<4):∃t y:Int,(∀h:AH,ae h .shl (I 1) (I i)=some (I t,h))/\(∀h:AH,ae h .and (I m) (I t)=some (I y,h))/\(y=0↔Wn m i=false):=by
 have hm:m=0\/m=1\/m=2\/m=3\/m=4\/m=5\/m=6\/m=7\/m=8\/m=9\/m=10\/m=11\/m=12\/m=13\/m=14\/m=15:=by omega
 have hi':i=0\/i=1\/i=2\/i=3:=by omega
 rcases hm with rfl|rfl|rfl|rfl|rfl|rfl|rfl|rfl|rfl|rfl|rfl|rfl|rfl|rfl|rfl|rfl<;>rcases hi' with rfl|rfl|rfl|rfl<;>exact⟨_,_,λ_=>rfl,λ_=>rfl,by decide⟩
inductive axH(h:AH)(k m:Int)(id:Nat):Nat->List AV->AH->Prop
 |mk {n:Nat} {h':AH} (i:Nat):i+n=4->BD h h' id (vM m i)->axH h k m id n [.ptr (h.nx-1) 0,.ptr id 0,bU dB,I 4,I i] h'
theorem atH(h:AH)(k m:Int)(hv:fa k m=true):aK prog 101 [.agg [I k,I m]] h (.str (lQ k m)) h:=by
 refine kM (λ_=>.str _) (aAP (aW [e31,Vr,WJ,axV,e32]) ?_);have hne:=MY hv;have hlen:=vW k m;rw[jJ]at hv;simp only[ana]at hv;have c1:(h.add (.cells [I k,I m])).ab h.nx=some [I k,I m]:=bd _ _ _ rfl;have fr:=(Fr.refl h).add (.cells [I k,I m]);have n1:(h.add (.cells [I k,I m])).nx=h.nx+1:=by simp
 have hnt:∀h:AH,kX h (.NU 85 [.dS,.aa]) []=some (.ptr h.nx 0,h.add (.typ 171 [.dS,.aa])):=λh=>rfl
 simp[aAn];generalize h.add (.cells [I k,I m])=hb at*;rw[hnt];simp[];have b0:=BD.start (Fr.refl hb);generalize hb.add (.typ 171 [.dS,.aa])=h1 at*;refine abr trivial ?_;have hln:∀h:AH,bh h (bU dB)=some (I 4,h):=λh=>rfl
 rw[hln];simp[];have hbx:hb.nx-1=h.nx:=by omega
 have q0:=axH.mk (h:=hb) (k:=k) (m:=m) (id:=hb.nx) (n:=4) 0 (by omega) b0;rw[hbx]at q0;refine⟨axH hb k m hb.nx,4,q0,?_⟩;rintro n vs h2 ⟨i,hin,b⟩;rw[hbx];have c2:h2.ab h.nx=some [I k,I m]:=(ay (b.fr.get _ (by omega))).trans c1;have hml:=rS m i;cases n with
 |zero=>
  obtain rfl:i=4:=by omega
  simp[ar3];simp(disch:=first|go_size|fail)[auw];simp(disch:=first|go_size|fail)[asq];refine⟨λvs h3=>vs=[.ptr hb.nx 0]/\BD hb h3 hb.nx (lQ k m),?_,?_⟩
  ·by_cases k23:k<=23
   ·have hk1:1<=k:=by omega
    have hks:lQ k m=vM m 4++pkN.getD (k.toNat-1) []:=by
     unfold lQ gU;rw[am1 k23];have:=aq8 (k.toNat-1);rw[show k.toNat-1+1=k.toNat by omega]at this;rw[this]
    rw[hks];have hxk:∀h:AH,aF h 1 (bU pkN) (I (k-1))=some (.lz [.str (pkN.getD (k.toNat-1) [])],h):=λh=>by
     have:=eU h pkN (k.toNat-1) _ (gr (show k.toNat-1<pkN.length by show _<23;omega));rwa [show((k.toNat-1:Nat):Int)=k-1 by omega]at this
    have hwn:pkN.getD (k.toNat-1) []≠[]/\(pkN.getD (k.toNat-1) []).length<=1000:=by
     have ab2:=am9 (gr (l:=pkN) (i:=k.toNat-1) (by show _<23;omega));exact(by decide:∀w∈pkN,w≠[]/\w.length<=1000) _ ab2
    generalize pkN.getD (k.toNat-1) []=W at*;simp(disch:=first|go_size|fail)[aq5,c2,k23];refine aa4 trivial ?_;generalize bU pkN=PN at*;simp(disch:=first|go_size|fail)[c2,hxk];simp(disch:=first|go_size|fail)[auE];have bb:=b.du (h2:=⟨h2.H,h2.nx+7⟩) (by simp) λ_ _=>rfl
    refine auB W bb hwn.1 (by omega) λh5 hn5 b5=>?_
    exact⟨hn5,b5⟩
   ·by_cases k32:k=32
    ·subst k32;simp[aq5,c2];refine auB iI b (by decide) (by show _+5<=_;omega) λh5 hn5 b5=>?_
     exact b5
    ·have hvr:apk k:=⟨by omega,by omega⟩;have hks:lQ k m=vM m 4++oe k:=by
      unfold lQ gU;rw[amU k23,amU k32]
     have hel:=rf k;have hcv:∀h:AH,cB h .i32 (I k)=some (.int .i32 k,h):=λh=>by
      have:IntKind.i32.wrap k=k:=by
       simp only[IntKind.wrap,IntKind.bits,IntKind.signed];simp;omega
      simp[cB,this]
     rw[hks];simp[aq5,c2,k23,k32];simp[auu,hcv];refine ayK k b hvr (by omega) λh5 hn5 b5=>?_
     exact b5
  ·rintro vs h3 ⟨rfl,b3⟩;simp[auS];refine ayo b3 hne λh4 f4=>?_
   exact⟨rfl,fr.trans f4⟩
 |succ n=>
  have hi:i<4:=by omega
  have hlt:(i:Int)<4:=by omega
  obtain⟨t,y,s1,s2,s3⟩:=aAm hv.1 hv.2.1 hi;have hx:=eU h2 dB i _ (gr (show i<dB.length by show i<4;omega));have hmm:vM m (i+1)=vM m i++(if Wn m i=true then dB.getD i []++[43]else []):=rfl;have hwl:= @D9 i;generalize dB.getD i []=W at*;generalize hMN:bU dB=MN at*;simp(disch:=first|go_size|fail)[ar3,hlt];refine⟨λvs h3=>vs=[.ptr h.nx 0,.ptr hb.nx 0,MN,I 4,I i]/\BD hb h3 hb.nx (vM m (i+1)),?_,?_⟩
  ·have bb:=b.du (h2:=⟨h2.H,h2.nx+6⟩) (by simp) λ_ _=>rfl
   cases hbit:Wn m i with
   |false=>
    have y0:=s3.2 hbit;rw[hmm,hbit];simp(disch:=first|go_size|fail)[asy,hx,c2,s1,s2,y0];exact bb
   |true=>
    have y0:¬y=0:=λe=>by rw[s3.1 e]at hbit;cases hbit
    rw[hmm,hbit];simp(disch:=first|go_size|fail)[asy,hx,c2,s1,s2,y0];have k1:=bQ (h:=⟨h2.H,h2.nx+6⟩) (a:=W) (b:=[43]) (by simp;omega);simp(disch:=first|go_size|fail)[aul,k1];refine auB (W++[43]) bb (by simp) (by simp;omega) λh5 hn5 b5=>?_
    exact b5
  ·rintro vs h3 ⟨rfl,b3⟩;simp(disch:=first|go_size|fail)[avg];refine⟨n,by omega,?_⟩;have q:=axH.mk (h:=hb) (k:=k) (m:=m) (id:=hb.nx) (n:=n) (i+1) (by omega) b3;rw[hbx,hMN]at q;exact q
def axP:QE prog:=QE.fn 101 (λ_=>True) (fun(y:Int×Int)=>match y with|⟨k,m⟩=>[.agg [I k,I m]]) (fun(y:Int×Int)(h:AH)=>match y with|⟨k,m⟩=>fa k m=true) (fun(y:Int×Int)=>match y with|⟨k,m⟩=>.str (lQ k m)) (λh y hj hx=>match y,hx with|⟨k,m⟩,hx=>atH h k m hx)
theorem ay8{tl h}(k:Int)(m:Int){Q:QT}(hx:fa k m=true)(hq:Q (.str (lQ k m)) h):tb (axP::tl) 101 [.agg [I k,I m]] h Q:=aV (k,m) trivial hx hq
@[simp ↓] theorem aAK:TbT axP 101:=aH axP
inductive Q66(h:AH)(kk:Nat)(k m:Int):Nat->List AV->AH->Prop
 |zero {h':AH}:Fr h h'->Q66 h kk k m 1 [.aa,.rsl kk 0 1 2,I 1,I 0] h'
 |one {h':AH} (lv:AV):fa k m=true->Fr h h'->OL 1 h h' lv 1 [.str (lQ k m)]->Q66 h kk k m 0 [lv,.rsl kk 0 1 2,I 1,I 1] h'
theorem atB(h:AH)(kk:Nat)(k m:Int)(hx:h.ab kk=some [I k,I m]/\kk<h.nx):aK prog 66 [.rsl kk 0 1 2] h (.tup [.str (chF k m).1,I (chF k m).2]) h:=by
 obtain⟨hc,hkk⟩:=hx;refine kM (λH=>gP (.str _) (.int _ _)) (C66 (aW [axB,axP,e69]) ?_);simp[g66];refine⟨Q66 h kk k m,1,.zero (Fr.refl h),?_⟩;rintro n vs h' hq;cases hq with
 |zero fr=>
  have hc':h'.ab kk=some [I k,I m]:=by rw[ay (fr.get kk hkk)];exact hc
  have hix:∀h:AH,aF h 2 (.rsl kk 0 1 2) (I 0)=some (.ptr kk 0,h):=λh=>dY (i:=0) (by omega) (by omega)
  simp[ato,hix,hc'];have fr3:Fr h ((h'.add (.cells [I 0,I 0])).set h'.nx (.cells [I k,I m])):=(fr.add _).set (by have:=fr.nx;omega) _;have c3:((h'.add (.cells [I 0,I 0])).set h'.nx (.cells [I k,I m])).ab h'.nx=some [I k,I m]:=eD _ _ _ _ rfl;generalize(h'.add (.cells [I 0,I 0])).set h'.nx (.cells [I k,I m])=h3 at*;refine ayT k m trivial ?_;cases hv:fa k m
  ·simp[];simp[awK];simp[atM];unfold chF;rw[hv];exact⟨⟨rfl,rfl⟩,fr3⟩
  ·simp[];simp[awJ,c3];refine ay8 k m hv ?_;have haf:bW [AV.str []] [(0,1,.str (lQ k m))]=some [.str (lQ k m)]:=rfl;obtain⟨lv',h4,kk2,o4,hn4,hg4⟩:=mI (bytes:=16) (tc:=[.str (lQ k m)]) (OL.start 1 h h3) fr3.nx rfl rfl (by omega) (by omega);simp[awW,haf];simp[]at kk2;obtain⟨rfl,rfl⟩:=kk2;exact .one _ hv ⟨by have:=fr3.nx;omega,λj hj=>by rw[hg4 j hj];exact fr3.get j hj⟩ o4
 |one lv hv fr o=>
  have hws:WS h' lv [lQ k m]:=aus (L:=[lQ k m]) o rfl;have hl:=vW k m;simp[ato];simp[atM];unfold aud;simp[];refine au7 lv [lQ k m] ⟨hws,by simp[p6,kI];omega,by simp⟩ ?_;unfold chF;rw[hv];simp[p6,kI];exact fr
def e66:QE prog:=QE.fn 66 (λ_=>True) (fun(y:Nat×Int×Int)=>match y with|⟨kk,k,m⟩=>[.rsl kk 0 1 2]) (fun(y:Nat×Int×Int)(h:AH)=>match y with|⟨kk,k,m⟩=>h.ab kk=some [I k,I m]/\kk<h.nx) (fun(y:Nat×Int×Int)=>match y with|⟨kk,k,m⟩=>.tup [.str (chF k m).1,I (chF k m).2]) (λh y hj hx=>match y,hx with|⟨kk,k,m⟩,hx=>atB h kk k m hx)
theorem azI{tl h}(kk:Nat)(k:Int)(m:Int){Q:QT}(hx:h.ab kk=some [I k,I m]/\kk<h.nx)(hq:Q (.tup [.str (chF k m).1,I (chF k m).2]) h):tb (e66::tl) 66 [.rsl kk 0 1 2] h Q:=aV (kk,k,m) trivial hx hq
@[simp ↓] theorem aBG:TbT e66 66:=aH e66
theorem ayU(h:AH){n:Int}(h0 : -9223372036854775808<=n)(h1:n<=9223372036854775807):kUn h .neg (I n)=some (I (ng n),h):=by
 have e:IntKind.i64.wrap (-n)=ng n:=by
  unfold ng;by_cases hn:n = -9223372036854775808
  ·subst hn;rfl
  ·rw[amU hn];simp only[IntKind.wrap,IntKind.bits,IntKind.signed];simp;omega
 simp[kUn,aun,e]
theorem arN{p:Int×Bool}(h:i64 p.1):i64 (DD p):=by
 obtain⟨n,b⟩:=p;unfold i64 at*;unfold DD ng;simp only at h ⊢
 (repeat' split)<;>omega
inductive Q71(h:AH)(Y:List AV)(C:AV)(ct:Int)(L:List (Int×Bool)):Nat->List AV->AH->Prop
 |mk {m:Nat} {h':AH} (i:Nat) (lv:AV):i+m=L.length->Fr (h.add (.cells Y)) h'->OL 1 (h.add (.cells Y)) h' lv (i+1) ((ct::(L.take i).map DD).map λn=>I n)->Q71 h Y C ct L m [.ptr h.nx 0,lv,C,I L.length,I i] h'
theorem azK{hb h:AH}{lv:AV}{n:Nat}{L:List Int}(o:OL 1 hb h lv n (L.map λn=>I n))(hn:n=L.length)(h0:n≠0):NSl h lv L:=by
 rcases o with⟨h1,h2,h3⟩|⟨k,h1,h2,h3,h4,h5,h6⟩
 ·exact absurd h2 h0
 ·exact⟨k,by rw[h1,hn],h5,h4⟩
theorem asY(h:AH)(i:Inp)(T CT CR C:AV)(hg:GJ h)(hx:Sl (rnC i.t) T/\Sl (cbC i.cls) C/\WB8 i):aK prog 71 [.agg (txG i T CT CR C)] h (.str (aqA i)) h:=by
 obtain⟨hT,hC,hB⟩:=hx;refine kM (λ_=>.str _) (C71 (aW [e70,e65]) ?_);have t0:(txG i T CT CR C)[0]?=some (I i.tk):=rfl;have t1:(txG i T CT CR C)[1]?=some T:=rfl;have t12:(txG i T CT CR C)[12]?=some (I i.oa):=rfl;have t13:(txG i T CT CR C)[13]?=some C:=rfl;have agF:=Y3 hT;have hSl:=hB.t;have hnc:=hB.nc;have hcl:=hB.cl;have hct:=hB.ct;have hkl:∀h:AH,bh h C=some (I i.cls.length,h):=λh=>by rw[gW hC];simp[cbC]
 have hfr:=(Fr.refl h).add (.cells (txG i T CT CR C));have hc1:(h.add (.cells (txG i T CT CR C))).ab h.nx=some (txG i T CT CR C):=bd _ _ _ rfl;have hn1:(h.add (.cells (txG i T CT CR C))).nx=h.nx+1:=by simp
 unfold aqA;generalize txG i T CT CR C=Y at*;generalize cC i.t=S at*;have hwq:(wQ S).length<=900000:=by
  have:=ao9 S;have:=apA S;simp only[wQ,am6,amX,anr];omega
 have hg1:=hg.fr hfr;by_cases k14:i.tk=14
 ·rw[am1 k14];simp[g71,t0,k14];exact⟨rfl,hfr⟩
 rw[amU k14];by_cases k17:i.tk=17
 ·rw[am1 k17];simp[g71,t0,k14,k17];exact⟨rfl,hfr⟩
 rw[amU k17];by_cases k16:i.tk=16
 ·rw[am1 k16];simp[g71,t0,k14,k17,k16,t1];generalize h.add (.cells Y)=h1 at*;unfold aw7;rw[agF];simp[];refine au3 S (by omega) ?_;have ka:=bQ (h:=h1) (a:=[99,111,109,109,105,116,32]) (b:=wQ S) (by simp;omega);simp only[anB,anx]at ka;simp[ka];exact hfr
 rw[amU k16];simp[g71,t0,k14,k17,k16,t12];have haf:bW [I 0] [(0,1,I i.oa)]=some [I i.oa]:=rfl;have hnl:∀n∈i.oa::i.cls.map DD,i64 n:=λn hn=>by
  rcases anT.1 hn with rfl|hn
  ·exact hct
  ·obtain⟨p,hp,rfl⟩:=an0.1 hn;exact arN (hcl p hp)
 generalize i.oa=ct at*;generalize i.cls=L at*;generalize hb1:h.add (.cells Y)=h1 at*;have o0:OL 1 h1 (h1.add (.cells [I ct])) (.rsl h1.nx 0 1 1) 1 [I ct]:=.inr ⟨h1.nx,rfl,by omega,by omega,by simp,bd _ _ _ rfl,rfl⟩;have fr0:=(Fr.refl h1).add (.cells [I ct]);rw[hn1]at o0;simp[awG,haf,hc1,t13,hkl,hn1];generalize h1.add (.cells [I ct])=h2 at*;refine⟨Q71 h Y C ct L,L.length,?_,?_⟩
 ·exact .mk 0 _ (by omega) (by rw[hb1];exact fr0) (by rw[hb1];exact o0)
 rintro m vs h3 ⟨i,lv,him,fr,o⟩;rw[hb1]at fr o;have hg3:=hg1.fr fr;have hc3:h3.ab h.nx=some Y:=(ay (fr.get _ (by omega))).trans hc1;cases m with
 |zero=>
  obtain rfl:i=L.length:=by omega
  rw[aCg]at o;have hns:=azK o (by simp) (by omega);have hwl:=aqy (ct::L.map DD) hnl;have hjl:=apE ((ct::L.map DD).map Lib.itoa);have aBK:(zA (ct::L.map DD)).length<=500000:=by
   unfold zA;simp only[am6,aor]at hwl;omega
  simp[ats];simp[axn];simp[atJ,hc3,t1];rw[agF];simp[];refine au3 S (by omega) ?_;have ka:=bQ (h:=h3) (a:=[117,112,100,97,116,101,32]) (b:=wQ S) (by simp;omega);have kb:=bQ (h:=h3) (a:=[117,112,100,97,116,101,32]++wQ S) (b:=[32]) (by simp;omega);have kc:=bQ (h:=h3) (a:=([117,112,100,97,116,101,32]++wQ S)++[32]) (b:=zA (ct::L.map DD)) (by simp;omega);simp only[anB,anx]at ka kb kc ⊢;simp[aw_,ka,kb];refine aqM lv (ct::L.map DD) hg3 ⟨hns,by simp;omega,hnl⟩ ?_;simp[kc];exact hfr.trans fr
 |succ m=>
  have hi:i<L.length:=by omega
  have hlt:(i:Int)<L.length:=by omega
  have i1:∀h:AH,aF h 2 C (I i)=some (.lz [I L[i].1,.bool L[i].2],h):=λh=>gY hC (by simp[cbC,hi]) rfl
  have hpi:=hcl _ (anL hi);have htk:(L.take (i+1)).map DD=(L.take i).map DD++[DD L[i]]:=by rw[aCh,am0 hi,aoC];rfl
  generalize L[i]=p at*;obtain⟨n,tg⟩:=p;simp only at i1 hpi;have hng:=λh=>ayU h hpi.1 hpi.2
  have azy:Fr h1 ((h3.add (.cells [I 0,.bool false])).set h3.nx (.cells [I n,.bool tg])):=(fr.add _).set (by have:=fr.nx;omega) _;have c4:((h3.add (.cells [I 0,.bool false])).set h3.nx (.cells [I n,.bool tg])).ab h3.nx=some [I n,.bool tg]:=eD _ _ _ _ rfl;have o4:OL 1 h1 ((h3.add (.cells [I 0,.bool false])).set h3.nx (.cells [I n,.bool tg])) lv (i+1) ((ct::(L.take i).map DD).map λn=>I n):=o.du (by simp) λj _ hj=>by rw[au,amU (by omega),az,amU (by omega)]
  simp[ats,hlt];obtain⟨sv,hsv⟩:∃sv,sv=DD (n,tg):=⟨_,rfl⟩;rw[<-hsv]at htk;refine⟨λvs h5=>∃lv',vs=[.ptr h.nx 0,lv',C,I L.length,I i]/\Fr h1 h5/\OL 1 h1 h5 lv' (i+1+1) ((ct::(L.take (i+1)).map DD).map λn=>I n),?_,?_⟩
  ·simp[aww,i1];generalize(h3.add (.cells [I 0,.bool false])).set h3.nx (.cells [I n,.bool tg])=h4 at*;have EL:bW [I 0] [(0,1,I sv)]=some [I sv]:=rfl;obtain⟨lv',h6,kk,o6,hn6,hg6⟩:=mI (bytes:=8) (tc:=[I sv]) o4 azy.nx rfl rfl (by omega) (by omega);have aAB:Fr h1 h6:=⟨by have:=azy.nx;omega,λj hj=>by rw[hg6 j hj];exact azy.get j hj⟩;have o6':OL 1 h1 h6 lv' (i+1+1) ((ct::(L.take (i+1)).map DD).map λn=>I n):=by
    rw[htk,<-anB,aoC];exact o6
   cases tg
   ·have e:sv=n:=hsv;subst e;simp[c4];simp[axm,EL];rw[kk];simp[];exact⟨aAB,by simpa using o6'⟩
   ·have e:sv=ng n:=hsv;rw[<-e]at hng;simp[c4];unfold axs;rw[hng];simp(disch:=first|go_size|fail)[EL];rw[kk];simp(disch:=first|go_size|fail)[];exact⟨aAB,by simpa using o6'⟩
  ·rintro vs h5 ⟨lv',rfl,fr5,o5⟩;simp(disch:=first|go_size|fail)[axu];refine⟨m,by omega,.mk (i+1) lv' (show i+1+m=L.length by omega) (by rw[hb1];exact fr5) (by rw[hb1];exact o5)⟩
def e71:QE prog:=
 ⟨71,λargs h Q=>∃i T CT CR C,args=[.agg (txG i T CT CR C)]/\GJ h/\(Sl (rnC i.t) T/\Sl (cbC i.cls) C/\WB8 i)/\Q (.str (aqA i)) h,λargs h Q ⟨i,T,CT,CR,C,h1,h2,h3,h4⟩=>by
  subst h1;exact⟨_,_,asY h i T CT CR C h2 h3,h4⟩⟩
theorem aAj{tl h}(i:Inp){T CT CR C:AV}{Q:QT}(hg:GJ h)(hx:Sl (rnC i.t) T/\Sl (cbC i.cls) C/\WB8 i)(hq:Q (.str (aqA i)) h):tb (e71::tl) 71 [.agg (txG i T CT CR C)] h Q:=by
 rw[dJ _ tl 71 _ _ _ rfl];exact⟨i,T,CT,CR,C,rfl,hg,hx,hq⟩
