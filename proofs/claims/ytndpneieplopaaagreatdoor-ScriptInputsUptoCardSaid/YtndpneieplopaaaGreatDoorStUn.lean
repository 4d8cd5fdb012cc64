/- utf8.AppendRune, walked. -/
import Derived.Test.YtndpneieplopaaaGreatDoorStTd
import Derived.Test.YtndpneieplopaaaGreatDoorStUf
set_option linter.unusedSimpArgs false
set_option linter.unusedVariables false
noncomputable section
namespace Go.Proofs
open Go.Eng
open Go.RowKit Tryz
variable {e:TypeId}{v:Value}{xs:List Value}{w:World}
theorem vW(h:fc e v xs w)(o:Obj):fc e v xs (w.alloc o):=by
 refine h.other λg a=>?_
 rcases h with⟨rfl,_⟩|⟨b,cap,cur,rfl,c,_⟩
 ·simp[Value.ownBlock]at a
 have:b=g:=by simpa[Value.ownBlock]using a
 subst this;exact heap_alloc_old w o (gR c)
structure ot(v:Value)(bs:List Value)(s:ByteArray)(w:World)(v':Value)(w':World):Prop where
 row:fc 5 v' (bs++Lib.strCells s) w'
 nn:v' ≠ .slice none 0 0
 ob:v'.ownBlock=v.ownBlock\/∃g,v'.ownBlock=some g/\w.heap.size<=g
 os:w'.os=w.os
 tape:w'.tape=w.tape
 out:w'.output=w.output
 size:w.heap.size<=w'.heap.size
 aY:∀k,k<w.heap.size->some k≠v.ownBlock->w'.heap[k]?=w.heap[k]?
 shp:Shp w w'
variable {bs:List Value}{s:ByteArray}{o:Obj}{v':Value}{w':World}
theorem ot.of(h1:fc 5 v' (bs++Lib.strCells s) w')(h2:(w.alloc o).grownBy w' v.ownBlock)(a:v' ≠ .slice none 0 0)(b:v'.ownBlock=v.ownBlock\/v'.ownBlock=some (w.heap.size+1))(c:Shp (w.alloc o) w'):ot v bs s w v' w':=by
 have hs:(w.alloc o).heap.size=w.heap.size+1:=by simp
 refine⟨h1,a,b.imp_right λh=>⟨_,h,by omega⟩,h2.os,h2.tape,h2.output,by have:=h2.size;omega,λk g j=>?_,(Shp.alloc w o).trans c⟩;rw[h2.block k (by omega) j];exact heap_alloc_old w o g
def dM(r:Int):ByteArray:=⟨(Lib.encodeRune r).toArray⟩
theorem t_(r:Int):Lib.strCells (dM r)=Lib.runeCells r:=by
 rw[<-Lib.byteCells_encodeRune];rfl
theorem M'(r:Int):(dM r).size=(Lib.runeCells r).length:=by
 rw[<-t_,Lib.strCells_length]
set_option maxHeartbeats 4000000 in
set_option maxRecDepth 100000 in
theorem aeF(v:Value)(bs:List Value)(r:Int)(h0:128<=r)(h1:r<=2047)(w:World)(y:fc 5 v bs w)(P:bs.length+(dM r).size<=140737488355328):
  Calls prog 176 #[v,.int .i32 r] w λe w'=>∃v',e =.returned v'/\ot v bs (dM r) w v' w':=by
 obtain⟨i0,hi,B,G,H⟩:=info_parts Tryz.oP.infoByte;have b:Lib.strCells (dM r)=[.int .u8 (192+r/64),.int .u8 (128+r%64)]:=by rw[t_];simp[Lib.runeCells,Lib.encodeRuneZ_two h0 h1]
 have J:(dM r).size=2:=by rw[<-Lib.strCells_length,b];rfl
 go_enter func176,Tryz.ntmps176
 go_wp2_with (at_builtin;refine vS rfl _ _ 80 rfl 5 i0 Tryz.underlying80 hi B G H _ _ rfl (vW y _) (dM r) (by omega) ⟨w.heap.size,0,none⟩ 2 2 rfl J.symm ?c1 ?c2 ?_)
 case c1=>
  rw[b];intro j u a;match j,a with
  |0,a=>simp at a;subst a;simp[Addr.add]
  |1,a=>simp at a;subst a;simp[Addr.add]
  |(j+2),a=>simp at a
 case c2=>omega
 intro v' R c g K M N;go_wp2
 go_ret
 exact⟨v',rfl,.of (by rw[b];exact c) g K M N⟩
set_option maxHeartbeats 4000000 in
set_option maxRecDepth 100000 in
theorem afS(v:Value)(bs:List Value)(r:Int)(h0:2048<=r)(h1:r<55296)(w:World)(y:fc 5 v bs w)(P:bs.length+(dM r).size<=140737488355328):
  Calls prog 176 #[v,.int .i32 r] w λe w'=>∃v',e =.returned v'/\ot v bs (dM r) w v' w':=by
 obtain⟨i0,hi,B,G,H⟩:=info_parts Tryz.oP.infoByte;have b:Lib.strCells (dM r)=[.int .u8 (224+r/4096),.int .u8 (128+r/64%64),.int .u8 (128+r%64)]:=by rw[t_];simp[Lib.runeCells,Lib.encodeRuneZ_three (Or.inl ⟨h0,h1⟩)]
 have J:(dM r).size=3:=by rw[<-Lib.strCells_length,b];rfl
 go_enter func176,Tryz.ntmps176
 go_wp2_with (at_builtin;refine vS rfl _ _ 80 rfl 5 i0 Tryz.underlying80 hi B G H _ _ rfl (vW y _) (dM r) (by omega) ⟨w.heap.size,0,none⟩ 3 3 rfl J.symm ?c1 ?c2 ?_)
 case c1=>
  rw[b];intro j u a;match j,a with
  |0,a=>simp at a;subst a;simp[Addr.add]
  |1,a=>simp at a;subst a;simp[Addr.add]
  |2,a=>simp at a;subst a;simp[Addr.add]
  |(j+3),a=>simp at a
 case c2=>omega
 intro v' R c g K M N;go_wp2
 go_ret
 exact⟨v',rfl,.of (by rw[b];exact c) g K M N⟩
set_option maxHeartbeats 4000000 in
set_option maxRecDepth 100000 in
theorem agR(v:Value)(bs:List Value)(r:Int)(h0:57343<r)(h1:r<=65535)(w:World)(y:fc 5 v bs w)(P:bs.length+(dM r).size<=140737488355328):
  Calls prog 176 #[v,.int .i32 r] w λe w'=>∃v',e =.returned v'/\ot v bs (dM r) w v' w':=by
 obtain⟨i0,hi,B,G,H⟩:=info_parts Tryz.oP.infoByte;have b:Lib.strCells (dM r)=[.int .u8 (224+r/4096),.int .u8 (128+r/64%64),.int .u8 (128+r%64)]:=by rw[t_];simp[Lib.runeCells,Lib.encodeRuneZ_three (Or.inr ⟨h0,h1⟩)]
 have J:(dM r).size=3:=by rw[<-Lib.strCells_length,b];rfl
 go_enter func176,Tryz.ntmps176
 go_wp2_with (at_builtin;refine vS rfl _ _ 80 rfl 5 i0 Tryz.underlying80 hi B G H _ _ rfl (vW y _) (dM r) (by omega) ⟨w.heap.size,0,none⟩ 3 3 rfl J.symm ?c1 ?c2 ?_)
 case c1=>
  rw[b];intro j u a;match j,a with
  |0,a=>simp at a;subst a;simp[Addr.add]
  |1,a=>simp at a;subst a;simp[Addr.add]
  |2,a=>simp at a;subst a;simp[Addr.add]
  |(j+3),a=>simp at a
 case c2=>omega
 intro v' R c g K M N;go_wp2
 go_ret
 exact⟨v',rfl,.of (by rw[b];exact c) g K M N⟩
set_option maxHeartbeats 4000000 in
set_option maxRecDepth 100000 in
theorem acL(v:Value)(bs:List Value)(r:Int)(h0:65536<=r)(h1:r<=1114111)(w:World)(y:fc 5 v bs w)(P:bs.length+(dM r).size<=140737488355328):
  Calls prog 176 #[v,.int .i32 r] w λe w'=>∃v',e =.returned v'/\ot v bs (dM r) w v' w':=by
 obtain⟨i0,hi,B,G,H⟩:=info_parts Tryz.oP.infoByte;have b:Lib.strCells (dM r)=[.int .u8 (240+r/262144),.int .u8 (128+r/4096%64),.int .u8 (128+r/64%64),.int .u8 (128+r%64)]:=by rw[t_];simp[Lib.runeCells,Lib.encodeRuneZ_four h0 h1]
 have J:(dM r).size=4:=by rw[<-Lib.strCells_length,b];rfl
 go_enter func176,Tryz.ntmps176
 go_wp2_with (at_builtin;refine vS rfl _ _ 80 rfl 5 i0 Tryz.underlying80 hi B G H _ _ rfl (vW y _) (dM r) (by omega) ⟨w.heap.size,0,none⟩ 4 4 rfl J.symm ?c1 ?c2 ?_)
 case c1=>
  rw[b];intro j u a;match j,a with
  |0,a=>simp at a;subst a;simp[Addr.add]
  |1,a=>simp at a;subst a;simp[Addr.add]
  |2,a=>simp at a;subst a;simp[Addr.add]
  |3,a=>simp at a;subst a;simp[Addr.add]
  |(j+4),a=>simp at a
 case c2=>omega
 intro v' R c g K M N;go_wp2
 go_ret
 exact⟨v',rfl,.of (by rw[b];exact c) g K M N⟩
set_option maxHeartbeats 4000000 in
set_option maxRecDepth 100000 in
theorem afB(v:Value)(bs:List Value)(r:Int)(h0:0<=r)(h1:r<=127)(w:World)(y:fc 5 v bs w)(P:bs.length+(dM r).size<=140737488355328):
  Calls prog 153 #[v,.int .i32 r] w λe w'=>∃v',e =.returned v'/\ot v bs (dM r) w v' w':=by
 obtain⟨i0,hi,B,G,H⟩:=info_parts Tryz.oP.infoByte;have a:Lib.strCells (dM r)=[.int .u8 (r)]:=by rw[t_];simp[Lib.runeCells,Lib.encodeRuneZ_one h0 h1]
 have J:(dM r).size=1:=by rw[<-Lib.strCells_length,a];rfl
 go_enter func153,Tryz.ntmps153
 go_wp2_with (at_builtin;refine vS rfl _ _ 80 rfl 5 i0 Tryz.underlying80 hi B G H _ _ rfl (vW y _) (dM r) (by omega) ⟨w.heap.size,0,none⟩ 1 1 rfl J.symm ?c1 ?c2 ?_)
 case c1=>
  rw[a];intro j u g;match j,g with
  |0,g=>simp at g;subst g;simp[Addr.add]
  |(j+1),g=>simp at g
 case c2=>omega
 intro v' R b c K M N;go_wp2
 go_ret
 exact⟨v',rfl,.of (by rw[a];exact b) c K M N⟩
set_option maxHeartbeats 4000000 in
set_option maxRecDepth 100000 in
theorem afv(v:Value)(bs:List Value)(r:Int)(j:St.qL r)(w:World)(a:fc 5 v bs w)(b:bs.length+(dM r).size<=140737488355328):
  Calls prog 153 #[v,.int .i32 r] w λe w'=>∃v',e =.returned v'/\ot v bs (dM r) w v' w':=by
 obtain⟨v0,v1⟩:=j;by_cases c1:r<=127
 ·exact afB v bs r v0 c1 w a b
 have c:Calls prog 176 #[v,.int .i32 r] w λe w'=>∃v',e =.returned v'/\ot v bs (dM r) w v' w':=by
  by_cases c2:r<=2047
  ·exact aeF v bs r (by omega) c2 w a b
  by_cases c3:r<55296
  ·exact afS v bs r (by omega) c3 w a b
  by_cases c4:r<=65535
  ·exact agR v bs r (by omega) c4 w a b
  exact acL v bs r (by omega) (by omega) w a b
 have g:∀args w,(callFunc 176 args).run prog w =.ok (.enter 176 args) w:=enters_of func176 (by kernel_rfl) rfl;have u:r<=2147483647:=by omega
 have y:128<=r:=by omega
 clear v1;go_enter func153,Tryz.ntmps153
 go_wp2_with (go_at_fn 176;refine c.mono ?_;rintro e B ⟨v',rfl,h1⟩)
 go_ret
 exact⟨v',rfl,h1⟩
variable {r:Int}
set_option maxHeartbeats 400000000 in
set_option maxRecDepth 100000 in
theorem aaf(u:Go.St.qL r):Eng.K7 prog 135 85 5 (.int .i32 r) (dM r):=by
 intro b p v bs w hb hp h hlen;have ad:=(Lib.runeCells_le r);rw[<-M']at ad;have af:=fun(v:Value)(w:World)(h:Eng.fc 5 v bs w)=>afv v bs r u w h hlen
 clear u;generalize dM r=S at*;have av:∀args w,(callFunc 76 args).run prog w =.ok (.enter 76 args) w:=enters_of func76 (by kernel_rfl) rfl;have ar:∀args w,(callFunc 153 args).run prog w =.ok (.enter 153 args) w:=enters_of func153 (by kernel_rfl) rfl;go_enter func135,Tryz.ntmps135
 go_wp2_with (go_at_fn 76;refine(Wc b p v bs _ hb hp h).mono ?_)
 rintro e w1 ⟨rfl,J,N,y,V⟩;have aj:=Eng.gR J;obtain⟨M,n,cap,rfl,hn⟩:∃M n cap,v =.slice M n cap/\n=bs.length:=by
  rcases N.own with⟨u,h0⟩|⟨g,cap,cur,u,_⟩
  ·exact⟨_,_,_,u,by rw[h0];rfl⟩
  exact⟨_,_,_,u,rfl⟩
 subst hn;have c0:w1.cell? ⟨b,0,none⟩=some (.pointer (some ⟨b,0,none⟩)):=by rw[Lib.cell_of_heap J];rfl
 have c1:w1.cell? ⟨b,1,none⟩=some (.slice M bs.length cap):=by rw[Lib.cell_of_heap J];rfl
 have W:∀(v':Value) (H:World),ot (.slice M bs.length cap) bs S w1 v' H->∃j a,v' =.slice j (bs.length+S.size) a/\H.heap[b]?=some (.cells #[.pointer (some ⟨b,0,none⟩),.slice M bs.length cap] 85 (0,0))/\H.cell? ⟨b,0,none⟩=some (.pointer (some ⟨b,0,none⟩))/\H.cell? ⟨b,1,none⟩=some (.slice M bs.length cap)/\H.frozen? ⟨b,1,none⟩=false:=by
  intro v' H G;have B:H.heap[b]?=some (.cells #[.pointer (some ⟨b,0,none⟩),.slice M bs.length cap] 85 (0,0)):=by
   rw[G.aY b aj (λe=>N.ne e.symm)];exact J
  obtain⟨j,a,rfl⟩:∃j a,v' =.slice j (bs.length+S.size) a:=by
   rcases G.row with⟨u,h0⟩|⟨g,cap,cur,u,_⟩
   ·exact absurd u G.nn
   rw[au,Lib.strCells_length]at u;exact⟨_,_,u⟩
  exact⟨j,a,rfl,B,by rw[Lib.cell_of_heap B];rfl,by rw[Lib.cell_of_heap B];rfl,Lib.frozen_of_heap B 1⟩
 go_wp2_with (go_at_fn 153;refine(af _ _ N.own).mono ?_;rintro e H ⟨v',rfl,G⟩;obtain⟨j,a,rfl,B,d0,d1,f1⟩:=W v' H G)
 go_ret2
 have P:H.grownBy (H.setCell ⟨b,1,none⟩ (.slice j (bs.length+S.size) a)) (some b):=JC;have K:=G.row;have R:(Value.slice j (bs.length+S.size) a).ownBlock≠some b:=by
  rcases K with⟨u,_⟩|⟨g,c,cur,u,hg,_⟩
  ·rw[u];simp[Value.ownBlock]
  rw[u];intro e;have:g=b:=by simpa[Value.ownBlock]using e
  subst this;rw[B]at hg;simp at hg
 have e:((bs.length:Int)+(S.size:Int)-(bs.length:Int))=(S.size:Int):=by omega
 refine⟨by rw[e];rfl,.slice j (bs.length+S.size) a,?_,⟨K.other λg u=>?_,R⟩,G.ob.imp_right fun⟨g,h1,h2⟩=>⟨g,h1,bf y.size h2⟩,G.os.trans y.os,G.tape.trans y.tape,G.out.trans y.output,bf y.size (bf G.size P.size),λk hk U al=>?_,(V.trans G.shp).trans (.setCell _ _ _)⟩
 ·simp only[World.setCell,tM];rw[B];simp
 ·have an:g≠b:=λe=>R (by rw[u,e])
  exact Deep.blk_setCell_other H ⟨b,1,none⟩ _ g an
 rw[P.block k (by have:=y.size;have:=G.size;omega) (by simpa using U),G.aY k (by have:=y.size;omega) al,y.block k hk (by simpa using U)]
set_option maxHeartbeats 2000000 in
set_option maxRecDepth 100000 in
theorem adY(b g a:Nat)(p:Value)(u:Array Value)(l:List UInt8)(w:World)(hb:w.heap[b]?=some (.cells #[p,.slice (some ⟨g,0,none⟩) l.length a] 85 (0,0)))(J:w.heap[g]?=some (.cells u 5 (0,0)))
  (h0:l≠[]) (hc:l.length<=a) (K:a<=maxLen) (hs:a<=u.size) (M:u.toList.take l.length=l.map λc=>Value.int .u8 c.toNat):
  Calls Tryz.prog 32 #[.pointer (some ⟨b,0,none⟩)] w λe w'=>e =.returned (.string ⟨l.toArray⟩)/\w'=w.drew.freeze ⟨g,0,none⟩ l.length:=by
 have R:l.length≠0:=by simpa using h0
 have c1:w.drew.cell? ⟨b,1,none⟩=some (.slice (some ⟨g,0,none⟩) l.length a):=by
  have:w.drew.heap[b]?=some (.cells #[p,.slice (some ⟨g,0,none⟩) l.length a] 85 (0,0)):=hb;rw[Lib.cell_of_heap this];rfl
 have S:(Builtin.unsafeSliceData_ #[80] 128 #[.slice (some ⟨g,0,none⟩) l.length a]).run Tryz.prog w.drew =.ok (.pointer (some ⟨g,0,none⟩)) w.drew:=
  Lib.run_unsafeSliceData_row _ _ _ _ _ _ (by omega)
 have U:(Builtin.unsafeString_ #[128,3] 9 #[.pointer (some ⟨g,0,none⟩),.int .i64 l.length]).run Tryz.prog w.drew =.ok (.string ⟨l.toArray⟩) (w.drew.freeze ⟨g,0,none⟩ l.length):=by
  have y:w.drew.heap[g]?=some (.cells u 5 (0,0)):=J;refine Lib.run_unsafeString_row w.drew 128 3 9 5 Tryz.underlying128 Tryz.oP.cellsByte g u.size (by simp[World.shape?,y]) l h0 (by omega) (by unfold maxLen at K;omega) ?_;intro j x B;have N:j<l.length:=(aL.1 B).1;have P:((⟨g,0,none⟩:Addr).add j)=⟨g,j,none⟩:=by cases j<;>simp[Addr.add]
  rw[P];have G:(u.toList.take l.length)[j]?=some (Value.int .u8 x.toNat):=by rw[M,cA,B];rfl
  rw[gN,Z N]at G;simp only[World.cell?,y];simpa using G
 have mixed:Tryz.prog.follows .mixedOrders=true:=by kernel_rfl
 have V:=fK Tryz.underlying85;have W:=fK Tryz.underlying80;have H:=fK Tryz.underlying128;go_enter Tryz.func32,Tryz.ntmps32
 go_wp2
 go_region_o
 all_goals (go_wp2;go_ret;exact⟨rfl,rfl⟩)
theorem ag8:Fex Tryz.prog 31:=⟨_,Tryz.func31,rfl,by decide⟩
theorem Yi:Fex Tryz.prog 32:=⟨_,Tryz.func32,rfl,by decide⟩
theorem ahg:Fex Tryz.prog 69:=⟨_,Tryz.func69,rfl,by decide⟩
theorem Wy:Fex Tryz.prog 123:=⟨_,Tryz.func123,rfl,by decide⟩
theorem G0:Fex Tryz.prog 164:=⟨_,Tryz.func164,rfl,by decide⟩
theorem Ik(M:AV)(xl:List (List AV))(l:List (List UInt8))(b:List UInt8)(h:AH)(N:xF h 1 M=some xl)(hl:tf xl=some l)(hb:(Lib.join l b).length<=1000000000)(hn:l.length<=1000000000):ab Tryz.prog 69 [M,.str b] h (.str (Lib.join l b)) h:=by
 refine ab.lib ahg λown β w U hs hR=>?_
 obtain⟨u,v,rfl,hu,hv⟩:=Nv hR;cases hv;have V:=ZY hl;have y:xl.length=l.length:=by rw[V];simp
 have H:M ≠ .undef:=λe=>by rw[e]at N;simp[xF]at N
 obtain⟨_,h1⟩:=aan (en:=none) hs hu N;rcases h1 with⟨h0,a,cap,rfl⟩|⟨K,o,cap,rfl,h2⟩
 ·obtain rfl:l=[]:=fQ (by omega);refine(Zc a cap ⟨b.toArray⟩ w).mono ?_;rintro e w' ⟨rfl,rfl⟩;exact⟨_,rfl,.str [],Below.refl _ _⟩
 by_cases h0:l=[]
 ·subst h0;have:xl.length=0:=by simpa using y
  rw[this];refine(Zc _ cap ⟨b.toArray⟩ w).mono ?_;rintro e w' ⟨rfl,rfl⟩;exact⟨_,rfl,.str [],Below.refl _ _⟩
 have J:=hu.cap H;have ad:0<xl.length:=by rw[y];exact j5.2 h0
 have c:∀(j:Nat) x,(l.map λs=>(⟨s.toArray⟩:ByteArray))[j]?=some x->w.cell? ⟨K,o+j,none⟩=some (.string x):=by
  intro j x B;rw[cA,jy]at B;obtain⟨s,G,rfl⟩:=B;have af:j<l.length:=(aL.1 G).1;obtain⟨v,k1,k2⟩:=h2 j (by omega);have W:=k2 [.str s] (by rw[V,cA,G];rfl);have k4:v =.string ⟨s.toArray⟩:=by
   simp only[elV,List.headD]at W;cases W;rfl
  subst k4;simpa[yr]using k1
 have g:(l.map λs=>(⟨s.toArray⟩:ByteArray)).map (·.data.toList)=l:=by
  rw[List.map_map];show List.map (λs:List UInt8=>s) l=l
  exact List.map_id' l
 have P:K<w.heap.size:=by
  obtain⟨s,r,R⟩:=List.exists_cons_of_ne_nil h0;have:=c 0 ⟨s.toArray⟩ (by rw[R];rfl);rcases nF K w.heap.size with k|k
  ·exact k
  simp[World.cell?,Array.getElem?_eq_none k]at this
 have hlen:(l.map λs=>(⟨s.toArray⟩:ByteArray)).length=xl.length:=by rw[y];simp
 have B:=aiK K o cap (l.map λs=>(⟨s.toArray⟩:ByteArray)) ⟨b.toArray⟩ w c P (by rw[hlen];omega) (by rw[hlen];exact J) (by rw[g];exact bf hb (by omega));rw[hlen,g]at B;refine B.mono ?_;rintro e w' ⟨rfl,S⟩;exact⟨_,rfl,.str _,S⟩
end Go.Proofs
end
noncomputable section
namespace Go.Proofs.YtndpneieplopaaaGreatDoor
open Go.Eng Go.St
def de(l:List Int):Str:=cm (l.map Lib.itoa)
def ll(l:List Str)(i:Int):Str:=if 0<=i/\i<l.length then l.getD i.toNat []else []
def dZ(p:Int×Bool):Int:=if p.2=true then ng p.1 else p.1
def wl1(i:Inp):Str:=((([112,111,105,110,116,101,114,32]++ll fx (i.pk-1))++[32])++de [i.pid,i.px,i.py,i.pt,i.pw])
def wl2(i:Inp):Str:=(([107,101,121,32]++(chF i.key i.cH).1)++[32])++de [i.time]
def wl3(i:Inp):Str:=[116,105,109,101,32]++de [i.time]
def wl4(i:Inp):Str:=[115,105,122,101,32]++de [i.sw,i.sh]
def wl5(i:Inp):Str:=(((([109,111,100,101,32]++(if i.dv=true then iy else kl))++[32])++(if i.high=true then gU else jB))++[32])++de [i.scale]
def wl6(i:Inp):Str:=cm (cK::aR i.args)
def wl7(i:Inp):Str:=(((((([97,99,99,101,115,115,32]++de [i.ver,i.node])++[32])++jv i.act 9)++[32])++de [i.frm,i.too])++[32])++wQ i.rt
def kG(i:Inp):Str:=if i.tk=14 then lN else if i.tk=17 then kj else if i.tk=16 then [99,111,109,109,105,116,32]++wQ (bD i.t)else(([117,112,100,97,116,101,32]++wQ (bD i.t))++[32])++de (i.dE::i.cls.map dZ)
def wl8(i:Inp):Str:=[99,111,109,112,111,115,101,32]++kG i
def bB(i:Inp):Str:=
 if i.kind=1 then wl1 i else if i.kind=2 then wl2 i else if i.kind=3 then wl3 i else if i.kind=4 then wl4 i else if i.kind=5 then wl5 i else if i.kind=6 then wl6 i else if i.kind=7 then wl7 i else if i.kind=8 then wl8 i else []
variable {i:Inp}
theorem Uk(h:i.kind=1):bB i=wl1 i:=by unfold bB;simp[h]
theorem V6(h:i.kind=2):bB i=wl2 i:=by unfold bB;simp[h]
theorem TZ(h:i.kind=3):bB i=wl3 i:=by unfold bB;simp[h]
theorem U8(h:i.kind=4):bB i=wl4 i:=by unfold bB;simp[h]
theorem WH(h:i.kind=5):bB i=wl5 i:=by unfold bB;simp[h]
theorem afh(h:i.kind=6):bB i=wl6 i:=by unfold bB;simp[h]
theorem Uv(h:i.kind=7):bB i=wl7 i:=by unfold bB;simp[h]
theorem afP(t:List Int)(n:Int)(c:List (Int×Bool)):kG (z7A 16 t n c)=[99,111,109,109,105,116,32]++wQ (bD t):=by simp[kG,z7A]
theorem aen(t:List Int)(n:Int)(c:List (Int×Bool)):kG (z7A 15 t n c)=(([117,112,100,97,116,101,32]++wQ (bD t))++[32])++de (n::c.map dZ):=by simp[kG,z7A]
theorem Z9(k:Nat):dS.getD (k+1) []=pkN.getD k []:=by
 unfold pkN;rw[gF,gF,ew,Nat.add_comm]
theorem w!(i:Nat)(r:Str)(m:Nat):mU i (r,m)=(r,m)\/∃a,r=(bl.getD i []++[43])++a/\mU i (r,m)=(a,m+2^i):=by
 unfold mU;split
 ·rename_i h;right;refine⟨r.drop ((bl.getD i [])++[43]).length,?_,rfl⟩;simp only at h;rw[<-h];conv=>lhs;rw[<-pV ((bl.getD i [])++[43]).length r]
  rw[h]
 exact .inl rfl
theorem aaY:∀i,i<4->∀m,m<2^i->ff ((m+2^i:Nat):Int) i=ff (m:Int) i/\oD ((m+2^i:Nat):Int) i=true/\oD (m:Int) i=false:=by decide
theorem M7(w:Str):∀i,i<=4->w=ff ((db w i).2:Int) i++(db w i).1/\(db w i).2<2^i
 |0,_=>⟨rfl,by simp[db]⟩
 |i+1,hi=>by
  obtain⟨h1,h2⟩:=M7 w i (by omega);obtain⟨b1,b2,a⟩:=aaY i (by omega) _ h2;have hp:2^(i+1)=2^i*2:=tP 2 i;have e:db w (i+1)=mU i (db w i):=rfl;rw[e];generalize db w i=x at*;obtain⟨r,m⟩:=x;simp only at h1 h2 b1 b2 a;rcases w! i r m with h|⟨c,b,h⟩
  ·rw[h];refine⟨?_,by simp only;omega⟩;simp only[ff,a,dT,bH,bO];exact h1
  rw[h];refine⟨?_,by simp only;omega⟩;simp only[ff,b2,bt];rw[b1,h1,b];simp
theorem adK(w:Str):w=ff ((db w 4).2:Int) 4++(db w 4).1/\(db w 4).2<16:=M7 w 4 (ay _)
variable {w:Str}
theorem abE(h:(dz w).2.2=true):ga (dz w).1 (dz w).2.1=true/\fF (dz w).1 (dz w).2.1=w:=by
 obtain⟨h1,h2⟩:=adK w;unfold dz at h ⊢;generalize db w 4=x at*;obtain⟨r,m⟩:=x;simp only at h h1 h2 ⊢;have hm:(0:Int)<=m/\(m:Int)<=15:=by omega
 by_cases b:0<=idx pkN r
 ·rw[Z b];obtain⟨k1,k2⟩:=Va b;have j:pkN.length=23:=rfl;refine⟨by rw[kQ];simp;omega,?_⟩;obtain⟨k,g⟩:=kL b;rw[g]at k1 k2 ⊢;unfold fF eQ;simp only[pU]at k1 k2 ⊢;rw[ifp,show((1:Int)+(k:Int)).toNat=k+1 by omega,Z9,<-k1];exact h1.symm
 rw[O b]at h ⊢;by_cases hs:r=jS
 ·rw[Z hs];refine⟨by rw[kQ];simp;omega,?_⟩;show ff (m:Int) 4++eQ 32=w
  rw[show eQ 32=jS from rfl,<-hs];exact h1.symm
 rw[O hs]at h ⊢;by_cases a:jo r=true
 ·rw[Z a];unfold jo mP eY at a;by_cases c:r=[]
  ·rw[Z c]at a;simp at a
  simp only[O c]at a;simp only[aI,ck]at a;obtain⟨⟨d1,d2,d3,d4⟩,d5⟩:=a;have he:=Lib.encode_decode r c d3;unfold eY;rw[O c];refine⟨by rw[kQ];simp;omega,?_⟩;unfold fF eQ;simp only;rw[ifn,ifn,nR,he,d1,oM];exact h1.symm
 rw[O a]at h;cases h
theorem hG{t:PS}(h:t.first=false):spW t=[32]:=by unfold spW;rw[h];rfl
theorem agc(i:Inp)(h1:i.args=[])(h2:i.t=[])(a:i.ct=[])(b:i.cr=[])(c:i.cls=[]):InC i (inG i .D .D .D .D .D)/\InB i:=by
 refine⟨⟨_,_,_,_,_,rfl,.inr ⟨rfl,by rw[h1];simp[vCs]⟩,.inr ⟨rfl,by rw[h2];rfl⟩,.inr ⟨rfl,by rw[a];rfl⟩,.inr ⟨rfl,by rw[b];rfl⟩,.inr ⟨rfl,by rw[c];rfl⟩⟩,?_⟩;exact⟨by rw[h1];simp,by rw[h1];simp,by rw[h2];simp,by rw[a];simp,by rw[b];simp,by rw[c];simp⟩
inductive WW:Val->Prop
 |mk (k n:Int) (s:Str) (l:List Val):(-9223372036854775808<=n/\n<=9223372036854775807)->s.length<=400000000->l.length<=20000000->(∀v∈l,WW v)->(cI (.mk k n s l)).length<=900000000->WW (.mk k n s l)
def i64(n:Int):Prop:= -9223372036854775808<=n/\n<=9223372036854775807
structure WB8(i:Inp):Prop where
 t:(bD i.t).length<=400000000
 nc:i.cls.length<=19000000
 cl:∀p∈i.cls,i64 p.1
 ct:i64 i.dE
structure LB(i:Inp):Prop where
 pk:i64 i.pk
 n1:∀n∈[i.pid,i.px,i.py,i.pt,i.pw],i64 n
 tm:i64 i.time
 sz:∀n∈[i.sw,i.sh],i64 n
 sc:i64 i.scale
 ac:∀n∈[i.ver,i.node],i64 n
 ft:∀n∈[i.frm,i.too],i64 n
 aw:∀v∈i.args,WW v
 al:i.args.length<=40000000
 aj:(cm (cK::aR i.args)).length<=900000000
 rt:i.rt.length<=400000000
 b8:WB8 i
theorem pk0:(-1000:Int)<=0/\(0:Int)<=1000:=by omega
def nb(x:Int):Prop:= -bh<=x/\x<=bh
theorem nb0:nb 0:=by unfold nb bh;omega
variable {x:Int}
theorem jg(h:nb x):i64 x:=by unfold nb bh at h;unfold i64;omega
def NB(i:Inp):Prop:=(nb i.pid/\nb i.px/\nb i.py/\nb i.pt/\nb i.pw)/\nb i.time/\(nb i.sw/\nb i.sh)/\nb i.scale/\(nb i.ver/\nb i.node)/\(nb i.frm/\nb i.too)
theorem lb1(i:Inp)(J : -1000<=i.pk/\i.pk<=1000)(a:NB i)(h1:∀v∈i.args,WW v)(h2:i.args.length<=40000000)(b:(cm (cK::aR i.args)).length<=900000000)(c:i.rt.length<=400000000)(g:WB8 i):LB i:=by
 obtain⟨⟨j,a2,a3,a4,a5⟩,u,⟨y,B⟩,a9,⟨b1,b2⟩,G,H⟩:=a;refine⟨by unfold i64;omega,?_,jg u,?_,jg a9,?_,?_,h1,h2,b,c,g⟩
 ·simp only[lE];exact⟨jg j,jg a2,jg a3,jg a4,jg a5,by simp⟩
 ·simp only[lE];exact⟨jg y,jg B,by simp⟩
 ·simp only[lE];exact⟨jg b1,jg b2,by simp⟩
 simp only[lE];exact⟨jg G,jg H,by simp⟩
theorem lb0(i:Inp)(b : -1000<=i.pk/\i.pk<=1000)(c:NB i)(h1:i.args=[])(g:i.rt.length<=400000000)(h2:i.t=[])(a:i.cls=[])(j:i.dE=0):LB i:=by
 refine lb1 i b c (by rw[h1];simp) (by rw[h1];simp) (by rw[h1];show(cm [cK]).length<=_;simp[cm,aW,cK]) g ⟨by rw[h2];simp[bD],by rw[a];simp,by rw[a];simp,by rw[j];unfold i64;omega⟩
variable {l:List Str}{k:Int}
theorem Ed(h:0<=k/\k.toNat<l.length):ll l k=l.getD k.toNat []:=by
 unfold ll;rw[ifp]
variable {s:Str}
theorem Po:∀(n:Nat) (acc:List Int) (t:PS),t.first=false->(hY s n acc t).2.ok=true->t.ok=true/\∃l,(hY s n acc t).1=acc++l/\s.drop t.pos=aW (l.map Lib.itoa)++s.drop (hY s n acc t).2.pos/\∀x∈l, -bh<=x/\x<=bh
 |0,acc,t,b,h=>⟨h,[],by simp[hY],by simp[hY,aW],by simp⟩
 |n+1,acc,t,b,h=>by
  unfold hY at h ⊢;by_cases hm:aO s t=true
  ·rw[Z hm]at h ⊢;obtain⟨h1,l,h2,c,g⟩:=Po n _ _ (wh s t) h;obtain⟨g1,g2,g3,g4⟩:=jE h1;refine⟨g1,dB s t::l,by rw[h2];simp,?_,λv a=>?_⟩
   ·rw[g2,c,hG b];simp[aW]
   rcases cE.1 a with rfl|a
   ·exact⟨g3,g4⟩
   exact g v a
  rw[O hm]at h ⊢;exact⟨h,[],by simp,by simp[aW],by simp⟩
variable {n:Int}
theorem L7(h : -bh<=n/\n<=bh):dZ (max n (ng n),decide (n<0))=n:=by
 unfold bh at h;have e:ng n = -n:=by unfold ng;rw[ifn]
 unfold dZ;simp only[ck];rw[e];by_cases a:n<0
 ·rw[Z a,Int.max_eq_right (by omega)];unfold ng;rw[ifn];omega
 rw[O a,Int.max_eq_left (by omega)]
theorem aeY:∀k,k<9->jv ((2:Int)^k) 9=dY.getD k []:=by decide
mutual
theorem TJ:∀(v:Val) (d m:Int),(Go.St.chk d v m).1=0->WB v
 |.mk k n s l,d,m,h=>by
  rw[Go.St.chk]at h;by_cases c1:k=4/\16<=d
  ·rw[Z c1]at h;simp at h
  rw[O c1]at h;by_cases c2:iJ k n s l=false
  ·rw[Z c2]at h;simp at h
  rw[O c2]at h;by_cases c3:kZ k n=true
  ·rw[Z c3]at h;simp at h
  rw[O c3]at h;by_cases c4:2000<s.length\/100<l.length\/1000<m+1
  ·rw[Z c4]at h;simp at h
  rw[O c4]at h;by_cases c5:Go.Lib.validD s=false
  ·rw[Z c5]at h;simp at h
  rw[O c5]at h;by_cases c6:k≠4
  ·refine .mk k n s l (by omega) ?_;have:l=[]:=by
    unfold iJ at c2;by_cases k1:k=1\/k=2
    ·rw[Z k1]at c2;simp at c2;exact c2.2
    rw[O k1]at c2;by_cases k3:k=3
    ·rw[Z k3]at c2;simp at c2;exact c2.2
    rw[O k3,O c6]at c2;exact absurd rfl c2
   subst this;simp
  rw[O c6]at h;by_cases c7:(Go.St.ea (d+1) l (m+1) []).1≠0
  ·rw[Z c7]at h;exact absurd h c7
  exact .mk k n s l (by omega) (PX l (d+1) (m+1) [] (by simpa using c7))
theorem PX:∀(l:List Val) (d m:Int) (ts:List Ty),(Go.St.ea d l m ts).1=0->∀v∈l,WB v
 |[],_,_,_,_=>by simp
 |v::l,d,m,ts,h=>by
  rw[Go.St.ea]at h;by_cases c:(Go.St.chk d v m).1≠0
  ·rw[Z c]at h;exact absurd h c
  rw[O c]at h;intro u hu;rcases cE.1 hu with he|hu
  ·rw[he];exact TJ v d m (by simpa using c)
  exact PX l d _ _ h u hu
end
theorem adh(v:Val)(h:Go.St.gE v=0):WB v:=TJ v 0 0 h
theorem J1(l:List Str)(w:Str)(h:w∈l):w.length<=(cm l).length:=by
 have h2:∀(l:List Str),w∈l->w.length<=(aW l).length:=λl=>by
  induction l with
  |nil=>simp
  |cons a l b=>
   intro h;simp only[aW,aF,au];rcases cE.1 h with rfl|h
   ·omega
   have:=b h;omega
 cases l with
 |nil=>simp at h
 |cons a l=>
  simp only[cm,au];rcases cE.1 h with rfl|h
  ·omega
  have:=h2 l h;omega
variable {v:Val}
theorem Ao:∀ {l:List Val},v∈l->cI v∈aR l
 |a::l,h=>by
  simp only[aR];rcases cE.1 h with rfl|h
  ·simp
  simp[Ao h]
mutual
theorem Ub:∀(v:Val) (d m:Int),(Go.St.chk d v m).1=0->(cI v).length<=900000000->WW v
 |.mk k n s l,d,m,h,hl=>by
  rw[Go.St.chk]at h;by_cases c1:k=4/\16<=d
  ·rw[Z c1]at h;simp at h
  rw[O c1]at h;by_cases c2:iJ k n s l=false
  ·rw[Z c2]at h;simp at h
  rw[O c2]at h;by_cases c3:kZ k n=true
  ·rw[Z c3]at h;simp at h
  rw[O c3]at h;by_cases c4:2000<s.length\/100<l.length\/1000<m+1
  ·rw[Z c4]at h;simp at h
  rw[O c4]at h;by_cases c5:Go.Lib.validD s=false
  ·rw[Z c5]at h;simp at h
  rw[O c5]at h;have hn : -9223372036854775808<=n/\n<=9223372036854775807:=by
   unfold iJ at c2;unfold kZ at c3;simp only[iY,aI,ck,j7,pW,jx]at c3;by_cases q1:k=1
   ·by_cases q : -1099511627776<=n/\n<=1099511627776
    ·omega
    exact absurd (.inl ⟨q1,by omega⟩) c3
   by_cases q2:k=2
   ·by_cases q:n=0\/n=1
    ·omega
    exact absurd (.inr ⟨⟨q2,by omega⟩,by omega⟩) c3
   rw[ifn]at c2;by_cases q3:k=3
   ·rw[Z q3]at c2;simp at c2;omega
   rw[O q3]at c2;by_cases q4:k=4
   ·rw[Z q4]at c2;simp at c2;omega
   rw[O q4]at c2;exact absurd rfl c2
  by_cases c6:k≠4
  ·refine .mk k n s l hn (by omega) (by omega) ?_ hl;have:l=[]:=by
    unfold iJ at c2;by_cases k1:k=1\/k=2
    ·rw[Z k1]at c2;simp at c2;exact c2.2
    rw[O k1]at c2;by_cases k3:k=3
    ·rw[Z k3]at c2;simp at c2;exact c2.2
    rw[O k3,O c6]at c2;exact absurd rfl c2
   subst this;simp
  rw[O c6]at h;by_cases c7:(Go.St.ea (d+1) l (m+1) []).1≠0
  ·rw[Z c7]at h;exact absurd h c7
  refine .mk k n s l hn (by omega) (by omega) (SG l (d+1) (m+1) [] (by simpa using c7) λv hv=>?_) hl;have h2:=J1 _ _ (Ao hv);have k4:k=4:=by omega
  simp[cI,k4]at hl;omega
theorem SG:∀(l:List Val) (d m:Int) (ts:List Ty),(Go.St.ea d l m ts).1=0->(∀v∈l,(cI v).length<=900000000)->∀v∈l,WW v
 |[],_,_,_,_,_=>by simp
 |v::l,d,m,ts,h,hl=>by
  rw[Go.St.ea]at h;by_cases c:(Go.St.chk d v m).1≠0
  ·rw[Z c]at h;exact absurd h c
  rw[O c]at h;intro u hu;rcases cE.1 hu with he|hu
  ·rw[he];exact Ub v d m (by simpa using c) (hl v (by simp))
  exact SG l d _ _ h (λx hx=>hl x (by simp[hx])) u hu
end
theorem ac7(v:Val)(h:Go.St.gE v=0)(a:(cI v).length<=900000000):WW v:=Ub v 0 0 h a
theorem lb7(t:List Int)(n:Int)(c:List (Int×Bool))(h1:(bD t).length<=400000000)(h2:c.length<=19000000)(a:∀p∈c,i64 p.1)(b:nb n):LB (z7A k t n c):=
 lb1 (z7A k t n c) pk0 ⟨⟨nb0,nb0,nb0,nb0,nb0⟩,nb0,⟨nb0,nb0⟩,nb0,⟨nb0,nb0⟩,nb0,nb0⟩ (by simp[z7A]) (by simp[z7A]) (by show(cm [cK]).length<=_;simp[cm,aW,cK]) (fJ _) ⟨h1,h2,a,jg b⟩
theorem IZ{x a r:Str}{p:Nat}(h:s.drop p=a++(wQ x++r)):x.length<=s.length:=by
 have h1:=congrArg List.length h;have h2:=Mw x;simp only[wQ,bW,au,aF]at h1;omega
open Go.Eng Go.St
inductive QP1(h:AH)(X:List AV)(fl:Bool):List AV->AH->Prop
 |mk {h':AH}:BX h h' X->QP1 h X fl [.ptr h.nx 0,.bool fl] h'
variable {h h1:AH}{A T CT CR C:AV}
theorem q_1(i:Inp)(g:BX h h1 (inG i A T CT CR C)):qz (xQ (.ptr h.nx 0) h1) λK h2=>yu (aa K 0) (aa K 1) h2 (PRQ h (pr1 i)):=by
 have i1:(inG i A T CT CR C)[1]?=some (I i.pk):=rfl;have i2:(inG i A T CT CR C)[2]?=some (I i.pid):=rfl;have i3:(inG i A T CT CR C)[3]?=some (I i.px):=rfl;have i4:(inG i A T CT CR C)[4]?=some (I i.py):=rfl;have i5:(inG i A T CT CR C)[5]?=some (I i.pt):=rfl;have i6:(inG i A T CT CR C)[6]?=some (I i.pw):=rfl;have hb:=g.b;unfold pr1;generalize inG i A T CT CR C=X at*;generalize i.pk=k at*;generalize i.pid=n1 at*;generalize i.px=a at*;generalize i.py=c at*;generalize i.pt=j at*;generalize i.pw=u at*;obtain⟨B,y⟩:∃B,B=decide (k<1\/7<=k):=⟨_,rfl⟩;have hlen:∀h:AH,bn h (cV gz)=some (I 7,h):=λh=>ag rfl rfl
 refine⟨QP1 h X B,?_,?_⟩
 ·by_cases q1:k<1
  ·simp[xQ,hb,i1,q1,HA];have:B=true:=by rw[y];simp[q1]
   rw[<-this];exact .mk (g.bump (by omega))
  simp[xQ,hb,i1,q1];unfold HA;simp[];refine sD (IA trivial) ?_;have:B=decide (7<=k):=by rw[y];simp[q1]
  simp[hlen];rw[this];exact .mk (g.bump (by omega))
 rintro K h2 ⟨g⟩;have hb:=g.b;have ad:=g.nx;by_cases J:k<1\/7<=k
 ·rw[y,eD J,Z J];simp[yu];exact⟨rfl,g.fr⟩
 rw[y,dx J,O J];have G:k.toNat<gz.length:=by show k.toNat<7;omega
 have S:=λh=>ki h gz k.toNat _ (ik G)
 have e:((k.toNat:Nat):Int)=k:=by omega
 rw[e]at S;have hw:(gz.getD k.toNat []).length<=100:=by
  have:=cQ (ik G);exact(by decide:∀w∈gz,w.length<=100) _ this
 generalize gz.getD k.toNat []=W at*;have U:∀h:AH,aG h .add (.str [112,111,105,110,116,101,114,32]) (.str W)=some (.str ([112,111,105,110,116,101,114,32]++W),h):=λh=>aU (by simp;omega)
 have hl:=fB [n1,a,c,j,u];have V:∀h:AH,aG h .add (.str ([112,111,105,110,116,101,114,32]++W)) (.str (cz [n1,a,c,j,u]))=some (.str (([112,111,105,110,116,101,114,32]++W)++cz [n1,a,c,j,u]),h):=λh=>aU (by simp at hl ⊢; omega)
 have M:aQ [I 0,I 0,I 0,I 0,I 0] [(0,1,I n1),(1,1,I a),(2,1,I c),(3,1,I j),(4,1,I u)]=some [I n1,I a,I c,I j,I u]:=rfl;simp only[cp,cD]at U V ⊢;unfold yu;simp[];refine sD (IA trivial) ?_;have g:=g.bump (k:=h2.nx+26) (by omega);simp[hb,i1,S,U,UH,hb,i2,i3,i4,Tu,hb,i5,i6,M];have g:=g.set (k:=h2.nx+22) (by omega) (.cells [I n1,I a,I c,I j,I u]);have P:((AH.mk h2.H (h2.nx+26)).set (h2.nx+22) (.cells [I n1,I a,I c,I j,I u])).E (h2.nx+22)=some [I n1,I a,I c,I j,I u]:=cse;have R:h2.nx+22<((AH.mk h2.H (h2.nx+26)).set (h2.nx+22) (.cells [I n1,I a,I c,I j,I u])).nx:=by show _<h2.nx+26;omega
 refine sD (oY _ [n1,a,c,j,u] ⟨⟨h2.nx+22,rfl,P,R⟩,by simp⟩) ?_;generalize cz [n1,a,c,j,u]=N at*;simp[Tq,V];refine⟨?_,rfl,g.fr⟩;omega
theorem VW.len(h:VW v):(eU v).length<=1000000000000:=by cases h;assumption
inductive QP6(h:AH)(X:List AV)(L:List Val)(R:Str):Nat->List AV->AH->Prop
 |mk {m:Nat} {h':AH} (i:Nat) (acc:Str):i+m=L.length->prA acc (L.drop i)=R->acc.length<=10+i*1000000000001->BX h h' X->QP6 h X L R m [.ptr h.nx 0,.str acc,I i] h'
theorem q_6{h h1:AH}(i:Inp)(g:BX h h1 (inG i A T CT CR C))(B:Sl (vCs i.args) A)(G:PrB i):nQ (.ptr h.nx 0) (.str []) (I 6) (.bool false) h1 (PRQ h (pr6 i)):=by
 have i15:(inG i A T CT CR C)[15]?=some A:=rfl;have M:=G.na;have y:=G.vw;unfold pr6;generalize inG i A T CT CR C=X at*;generalize i.args=L at*;have H:∀h:AH,bn h A=some (I L.length,h):=λh=>by rw[fS B,gP]
 simp[nQ];refine⟨QP6 h X L (prA [97,114,103,115] L),L.length,.mk 0 _ (by simp) rfl (by simp) g,?_⟩;generalize prA [97,114,103,115] L=R at*;clear g;rintro m S h2 ⟨i,acc,N,c,U,g⟩;have hb:=g.b;cases m with
 |zero=>
  have j:¬(i:Int)<L.length:=by omega
  rw[gp (by omega)]at c;simp[GP,hb,i15,H,j,HL,Hj];exact⟨by rw[<-c];rfl,g.fr⟩
 |succ m=>
  have hi:i<L.length:=by omega
  have j:(i:Int)<L.length:=by omega
  have i1:∀h:AH,aC h 4 A (I i)=some (.ai (vC L[i]),h):=λh=>fW B (mC hi) (ch _)
  have k1:cut (vC L[i]) 0 4=some (vC L[i]):=by
   have:=cS (α:=vC L[i]) (b:=[]) (n:=4) (ch _);rwa [bO]at this
  have J:=y _ (gG hi);rw[ig hi]at c;simp only[prA]at c;generalize L[i]=v at*;simp[GP,hb,i15,H,j,i1,k1];unfold PG;simp[];refine sD (LZ v trivial) ?_;by_cases u:(bM 1 v 0).1=0
  ·rw[O (by simpa using u)]at c;simp[u,hb,i15,i1,k1];refine sD (acb v (J u)) ?_;have P:=(J u).len;have k2:=aU (h:=h2) (a:=[32]) (b:=eU v) (by simp;omega);have hmul:i*1000000000001<=1000*1000000000001:=kJ _ (by omega);have K:=aU (h:=h2) (a:=acc) (b:=[32]++eU v) (by simp;omega);simp only[cp,cD]at k2 K;simp[RD,k2];rw[K];simp(disch:=first|go_size|fail)[];refine⟨m,by omega,?_⟩;exact .mk (i+1) (acc++32::eU v) (show i+1+m=L.length by omega) c (by simp only[au,aF,ie];omega) g
  rw[Z u]at c;subst c;simp[u,HL];exact⟨rfl,g.fr⟩
structure BR(h h':AH)(X Y:LA)(k:Nat):Prop where
 bx:BX h h' X
 c:h'.E k=some Y
 k1:h.nx+1<=k
 k2:k<h'.nx
variable {h':AH}{X Y:LA}{m:Nat}
theorem BR.bump{k:Nat}(g:BR h h' X Y k)(a:h'.nx<=m):BR h ⟨h'.H,m⟩ X Y k:=⟨g.bx.bump a,g.c,g.k1,gq g.k2 a⟩
variable {q:Nat}
theorem BR.set{k:Nat}(g:BR h h' X Y k)(b:h.nx+1<=q)(a:q≠k)(o:bg):BR h (h'.set q o) X Y k:=⟨g.bx.set b o,by rw[csn (lI a)];exact g.c,g.k1,g.k2⟩
inductive QP7(h:AH)(X Y:List AV)(k:Nat)(act:Int):Nat->List AV->AH->Prop
 |mk {m:Nat} {h':AH} (i:Nat):i+m=9->BR h h' X Y k->QP7 h X Y k act m [.str (jv act i),.ptr k 0,I i] h'
theorem uo(a:Int):∀k,(jv a k).length<=100
 |0=>by simp[jv]
 |k+1=>by
  unfold jv;split
  ·by_cases h:k<dY.length
   ·have:=cQ (ik h);exact(by decide:∀w∈dY,w.length<=100) _ this
   rw[gF,j_ (by omega)];simp
  exact uo a k
theorem q_7{h h1:AH}(i:Inp)(g:BX h h1 (inG i A T CT CR C))(hB:PrB i):nQ (.ptr h.nx 0) (.str []) (I 7) (.bool false) h1 (PRQ h (pr7 i)):=by
 have ic:cut (inG i A T CT CR C) 16 6=some [I i.ver,I i.node,I i.act,I i.frm,I i.too,.str i.rt]:=rfl;have ad:=hB.rt;have hb:=g.b;unfold pr7;generalize inG i A T CT CR C=X at*;generalize i.ver=n1 at*;generalize i.node=u at*;generalize i.act=act at*;generalize i.frm=y at*;generalize i.too=B at*;generalize i.rt=rt at*;simp[nQ,hb,ic];have g7:BR h ((h1.add (.cells [I 0,I 0,I 0,I 0,I 0,.str []])).set h1.nx (.cells [I n1,I u,I act,I y,I B,.str rt])) X [I n1,I u,I act,I y,I B,.str rt] h1.nx:=
  ⟨(g.add _).set g.nx _,cse,g.nx,by simp⟩
 generalize(h1.add (.cells [I 0,I 0,I 0,I 0,I 0,.str []])).set h1.nx (.cells [I n1,I u,I act,I y,I B,.str rt])=h2 at*;generalize h1.nx=k at*;refine⟨QP7 h X [I n1,I u,I act,I y,I B,.str rt] k act,9,.mk 0 rfl g7,?_⟩;clear g7 g hb ic;rintro m vs j ⟨i,ar,g⟩;have hc:=g.c;have hlen:∀h:AH,bn h (cV dY)=some (I 9,h):=λh=>ag rfl rfl
 cases m with
 |succ m=>
  have af:(i:Int)<9:=by omega
  simp[Dr];refine sD (yZ trivial) ?_;simp[hlen,af];refine⟨λvs K=>vs=[.str (jv act (i+1)),.ptr k 0,I i]/\K=j,?_,?_⟩
  ·have N:=Wd j (q:=i) (by omega);have V:jv act (i+1)=if act=2^i then dY.getD i []else jv act i:=rfl
   have hw:IntKind.u64.wrap (i:Int)=i:=sS i (by omega);by_cases he:act=2^i
   ·rw[Z he]at V;simp[Ch,hc,hw,N,he];refine sD (yZ trivial) ?_;have hx:=ki j dY i _ (ik (show i<dY.length by show i<9;omega));rw[<-he,V];generalize dY.getD i []=W at*;unfold Sv;simp only[lp,sC,iT];rw[hx];simp[]
   rw[O he]at V;simp[Ch,hc,hw,N,he];rw[V]
  rintro vs K ⟨rfl,rfl⟩;simp(disch:=first|go_size|fail)[OU];exact⟨m,by omega,.mk (i+1) (show i+1+m=9 by omega) g⟩
 |zero=>
  obtain rfl:i=9:=by omega
  simp[Dr];refine sD (yZ trivial) ?_;simp[hlen];unfold Pm;have av:=uo act 9;generalize jv act 9=a1 at*;have l1:=fB [n1,u];have l2:=fB [y,B];have lq:=rE rt;have P:aQ [I 0,I 0] [(0,1,I n1),(1,1,I u)]=some [I n1,I u]:=rfl;have R:aQ [I 0,I 0] [(0,1,I y),(1,1,I B)]=some [I y,I B]:=rfl;have aw:=g.k1;have aS:=g.k2;obtain⟨G,J⟩:∃G:Str,G=[97,99,99,101,115,115]:=⟨_,rfl⟩;have ao:G.length=6:=by rw[J];rfl
  unfold Cs;rw[<-J];have hg:=g.bump (m:=j.nx+23) (by omega);simp[hc,P];have g1:=hg.set (q:=j.nx+4) (by omega) (by omega) (.cells [I n1,I u]);have S:((AH.mk j.H (j.nx+23)).set (j.nx+4) (.cells [I n1,I u])).E (j.nx+4)=some [I n1,I u]:=cse;have aj:((AH.mk j.H (j.nx+23)).set (j.nx+4) (.cells [I n1,I u])).nx=j.nx+23:=rfl;generalize(AH.mk j.H (j.nx+23)).set (j.nx+4) (.cells [I n1,I u])=K at*;refine sD (oY _ [n1,u] ⟨⟨j.nx+4,rfl,S,by omega⟩,by simp⟩) ?_;generalize cz [n1,u]=M at*;simp only[aF,bz]at l1 l2;have ka:=λh=>aU (h:=h) (a:=G) (b:=M) (by omega)
  have kb:=λh=>aU (h:=h) (a:=G++M) (b:=[32]) (by simp;omega)
  have al:=g1.c;simp[ka,kb];have kc:=λh=>aU (h:=h) (a:=(G++M)++[32]) (b:=a1) (by simp;omega)
  simp only[gr,cp,cD]at kc;simp[RF,al,kc,R];have g2:=g1.set (q:=j.nx+14) (by omega) (by omega) (.cells [I y,I B]);have U:(K.set (j.nx+14) (.cells [I y,I B])).E (j.nx+14)=some [I y,I B]:=cse;have aT:(K.set (j.nx+14) (.cells [I y,I B])).nx=j.nx+23:=aj;generalize K.set (j.nx+14) (.cells [I y,I B])=h5 at*;refine⟨by omega,?_⟩;refine sD (oY _ [y,B] ⟨⟨j.nx+14,rfl,U,by omega⟩,by simp⟩) ?_;generalize cz [y,B]=N2 at*;have kd:=λh=>aU (h:=h) (a:=((G++M)++[32])++a1) (b:=N2) (by simp;omega)
  have ke:=λh=>aU (h:=h) (a:=(((G++M)++[32])++a1)++N2) (b:=[32]) (by simp;omega)
  have kf:=λh=>aU (h:=h) (a:=((((G++M)++[32])++a1)++N2)++[32]) (b:=gy rt) (by simp;omega)
  simp only[gr,cp,cD]at kd ke kf;have an:=g2.c;simp[O3,kd,ke,an];refine⟨by omega,?_⟩;refine sD (Bo rt ad) ?_;refine⟨by omega,?_⟩;generalize gy rt=QT at*;simp[kf];refine⟨by omega,by omega,by omega,by omega,?_⟩;exact⟨by rw[J];rfl,g2.bx.fr⟩
variable {t:List Int}
theorem Xq(c:Sl (rnC t) T)(h:AH):kX h .r2s [T]=some (.str (bD t),h):=by
 rcases c with rfl|⟨rfl,h0⟩
 ·exact c! h t
 have:t=[]:=by cases t with|nil=>rfl|cons a b=>simp[rnC]at h0
 subst this;rfl
inductive QP8(h:AH)(X Y:List AV)(k:Nat)(L:List (Int×Bool))(R:Str):Nat->List AV->AH->Prop
 |mk {m:Nat} {h':AH} (i:Nat) (acc:Str):i+m=L.length->prC acc (L.drop i)=R->acc.length<=1000000000+22*i->BR h h' X Y k->QP8 h X Y k L R m [.str acc,.ptr k 0,I i] h'
theorem q_8{h h1:AH}(i:Inp)(g:BX h h1 (inG i A T CT CR C))(hT:Sl (rnC i.t) T)(hC:Sl (cbC i.cls) C)(aS:CT.one=true)(aT:CR.one=true)(hB:PrB i):nQ (.ptr h.nx 0) (.str []) (I 8) (.bool false) h1 (PRQ h (pr8 i)):=by
 have ic:cut (inG i A T CT CR C) 22 15=some (txG i T CT CR C):=rfl;have hb:=g.b;have o1:aM (txG i T CT CR C)=true:=by
  have a1:=dJ hT;have a4:=dJ hC;simp only[txG,aM,nE,a1,aS,aT,a4];rfl
 have t0:(txG i T CT CR C)[0]?=some (I i.tk):=rfl;have t1:(txG i T CT CR C)[1]?=some T:=rfl;have t12:(txG i T CT CR C)[12]?=some (I i.dE):=rfl;have t13:(txG i T CT CR C)[13]?=some C:=rfl;have tl:(txG i T CT CR C).length=15:=rfl;have bk:=hB.t;have bp:=hB.nc;have a6:=hB.cl;have V:=Xq hT;have bY:=nI i.t;unfold pr8;generalize inG i A T CT CR C=X at*;generalize txG i T CT CR C=Y at*;have hz:∃b3:List AV,b3=[I 0,.D,.D,.D,I 0,I 0,.bool false,I 0,I 0,I 0,I 0,I 0,I 0,.D,I 0]:=⟨_,rfl⟩;obtain⟨b3,hZ⟩:=hz;have aj:b3.length=15:=by rw[hZ];rfl
 have al:aP b3 0 Y=some Y:=iH (by rw[tl,aj]);unfold nQ;rw[<-hZ];simp[hb,ic,tl,o1,al];clear tl al hZ aj;have g7:BR h ((h1.add (.cells b3)).set h1.nx (.cells Y)) X Y h1.nx:=⟨(g.add _).set g.nx _,cse,g.nx,by simp⟩;generalize(h1.add (.cells b3)).set h1.nx (.cells Y)=h2 at*;generalize h1.nx=k at*;have B:=g7.c;have lq:=rE (bD i.t);generalize bD i.t=S at*;have an:S.length<=400000000:=by omega
 unfold OW;by_cases K:i.tk=14
 ·rw[Z K];simp[B,t0,K];exact⟨rfl,g7.bx.fr⟩
 rw[O K];by_cases M:i.tk=17
 ·rw[Z M];simp[B,t0,M];exact⟨rfl,g7.bx.fr⟩
 rw[O M];by_cases P:i.tk=16
 ·rw[Z P];simp[B,t0,P,t1,V];refine sD (Bo S an) ?_;have ka:=aU (h:=h2) (a:=uv) (b:=gy S) (by show 15+_<=_;omega);obtain⟨J,j⟩:∃J:Str,J=uv:=⟨_,rfl⟩;have u:J=[99,111,109,112,111,115,101,32,99,111,109,109,105,116,32]:=j;unfold Sf;rw[<-u];rw[<-j]at ka ⊢;generalize gy S=QT at*;simp[ka];exact⟨rfl,g7.bx.fr⟩
 rw[O P];have y:∀h:AH,bn h C=some (I i.cls.length,h):=λh=>by rw[fS hC];simp[cbC]
 generalize i.cls=L at*;generalize i.dE=ct at*;simp[B,t0,K,M,P,t1,V];refine sD (Bo S an) ?_;refine⟨by simp,?_⟩;have b0:=g7.k1;have b1:=g7.k2;have g8:=g7.bump (m:=h2.nx+11) (by omega);have av:aQ [I 0] [(0,1,I ct)]=some [I ct]:=rfl;have hN:=fB [ct];have bd:lM.length=15:=rfl;have ka:=λh=>aU (h:=h) (a:=lM) (b:=gy S) (by omega)
 have kb:=λh=>aU (h:=h) (a:=lM++gy S) (b:=cz [ct]) (by simp only[au,dP]at hN ⊢; omega)
 have ao:((lM++gy S)++cz [ct]).length<=1000000000:=by simp only[au,dP]at hN ⊢; omega
 obtain⟨J,j⟩:∃J:Str,J=lM:=⟨_,rfl⟩;have u:J=[99,111,109,112,111,115,101,32,117,112,100,97,116,101,32]:=j;rw[<-j]at ka kb ao ⊢;unfold Si;rw[<-u];have ar:=g8.c;simp[ka,ar,t12,av];have g9:=g8.set (q:=h2.nx+7) (by omega) (by omega) (.cells [I ct]);have W:((AH.mk h2.H (h2.nx+11)).set (h2.nx+7) (.cells [I ct])).E (h2.nx+7)=some [I ct]:=cse;have a7:((AH.mk h2.H (h2.nx+11)).set (h2.nx+7) (.cells [I ct])).nx=h2.nx+11:=rfl;generalize(AH.mk h2.H (h2.nx+11)).set (h2.nx+7) (.cells [I ct])=h4 at*;refine sD (oY _ [ct] ⟨⟨h2.nx+7,rfl,W,by omega⟩,by simp⟩) ?_;rw[<-gr J];generalize(J++gy S)++cz [ct]=ad at*;refine⟨by omega,?_⟩;have a8:bT (rdK (xRd .r2s [T])) (.alloc (h2.nx+7) (.cells [I ct]))=true:=by rcases hT with rfl|⟨rfl,_⟩<;>rfl
 simp[kb,a8];refine⟨by omega,?_⟩;refine⟨QP8 h X Y k L (prC ad L),L.length,.mk 0 ad (by simp) rfl (by omega) g9,?_⟩;generalize prC ad L=R at*;clear kb ao g9 W a7 ar g8 B g7 hb ka;rintro m vs h5 ⟨i,acc,b2,G,hl,g⟩;have B:=g.c;cases m with
 |zero=>
  have U:¬(i:Int)<L.length:=by omega
  rw[gp (by omega)]at G;simp[Br,B,t13,y,U,BP,DP];exact⟨by rw[<-G];rfl,g.bx.fr⟩
 |succ m=>
  have hi:i<L.length:=by omega
  have U:(i:Int)<L.length:=by omega
  have i1:∀h:AH,aC h 2 C (I i)=some (.ai [I L[i].1,.bool L[i].2],h):=λh=>fW hC (by simp[cbC,hi]) rfl
  have ba:=a6 _ (gG hi);rw[ig hi]at G;simp only[prC]at G;generalize L[i]=p at*;obtain⟨n,tg⟩:=p;simp only at G ba i1;by_cases hn:n<0
  ·rw[Z hn]at G;subst G;simp[Br,B,t13,y,U,i1,BV,hn,BP];exact⟨rfl,g.bx.fr⟩
  rw[O hn]at G;obtain⟨N,af⟩:∃N:Int,N=if tg=true then -n else n:=⟨_,rfl⟩
  rw[<-af]at G;simp[Br,B,t13,y,U,i1,BV,hn,B,t13,i1];refine⟨λvs h6=>vs=[.str acc,.ptr k 0,I i,I N]/\h6=h5,?_,?_⟩
  ·cases tg
   ·simp[CN,af]
   simp(disch:=first|go_size|fail)[CN,af]
  rintro vs h6 ⟨rfl,rfl⟩;have aw:aQ [I 0] [(0,1,I N)]=some [I N]:=rfl;have bb:=fB [N];simp only[dP]at bb;have k1:=aU (h:=h6.add (.cells [I N])) (a:=acc) (b:=cz [N]) (by omega);simp(disch:=first|go_size|fail)[QW,aw];refine sD (oY _ [N] ⟨uB h6 N,by simp⟩) ?_;have g2:BR h (h6.add (.cells [I N])) X Y k:=⟨g.bx.add _,by rw[can (by have:=g.k2;omega)];exact g.c,g.k1,by have:=g.k2;simp;omega⟩;generalize h6.add (.cells [I N])=h7 at*;generalize cz [N]=NN at*;simp(disch:=first|go_size|fail)[k1];refine⟨m,by omega,?_⟩;exact .mk (i+1) (acc++NN) (show i+1+m=L.length by omega) G (by simp only[au];omega) g2
open Tryz
theorem adL(i:Inp)(N:LA)(P:InC i N/\PrB i):ab prog 24 [.agg N] h (.str (prT i)) h:=by
 obtain⟨⟨A,T,CT,CR,C,rfl,R,S,H,J,U⟩,G⟩:=P;refine dj (λ_=>.str _) (C24 ?_);show g24 (.agg (inG i A T CT CR C)) h (PRQ h (prT i))
 have i0:(inG i A T CT CR C)[0]?=some (I i.kind):=rfl;have i9:(inG i A T CT CR C)[9]?=some (I i.time):=rfl;have V:cut (inG i A T CT CR C) 7 2=some [I i.key,I i.cH]:=rfl;have g:BX h (h.add (.cells (inG i A T CT CR C))) (inG i A T CT CR C):=⟨(Fr.refl h).add _,cas,by simp⟩;have K:cL h (.agg (inG i A T CT CR C))=some (.ptr h.nx 0,h.add (.cells (inG i A T CT CR C))):=rfl;unfold prT;unfold g24;simp only[lp,iT];rw[K];generalize h.add (.cells (inG i A T CT CR C))=h1 at*;have hb:=g.b;generalize a:inG i A T CT CR C=X at*;have M:aQ [I 0,I 0] [(0,2,.agg [I i.key,I i.cH])]=some [I i.key,I i.cH]:=rfl;by_cases k1:i.kind=1
 ·rw[Z k1];rw[k1]at i0;simp[hb,i0];subst a;exact q_1 i g
 rw[O k1];by_cases k2:i.kind=2
 ·rw[Z k2];rw[k2]at i0;simp[hb,i0,V,M];subst a;exact q_2 i (g.add _) cas (by simp)
 rw[O k2];by_cases j:i.kind=3
 ·rw[Z j];rw[j]at i0;simp[hb,i0,i9];exact q_3 i g.fr
 rw[O j];by_cases k4:i.kind=4
 ·rw[Z k4];rw[k4]at i0;simp[hb,i0];subst a;exact q_4 i g
 rw[O k4];by_cases c:i.kind=5
 ·rw[Z c];rw[c]at i0;simp[hb,i0];subst a;exact q_5 i g c
 rw[O c];by_cases u:i.kind=6
 ·rw[Z u];rw[u]at i0;simp[hb,i0];subst a;exact q_6 i g R G
 rw[O u];by_cases y:i.kind=7
 ·rw[Z y];rw[y]at i0;simp[hb,i0];subst a;exact q_7 i g G
 rw[O y];by_cases B:i.kind=8
 ·rw[Z B];rw[B]at i0;simp[hb,i0];subst a;exact q_8 i g S U (dJ H) (dJ J) G
 rw[O B];simp[hb,i0,k1,k2,j,k4,nQ,c,u,y,B];exact⟨rfl,g.fr⟩
def rIn(s:Str):Inp:=if h:s.length<=1000000000 then Classical.choose (On s h)else Inp.z
theorem Ic(h:s.length<=1000000000):InC (rIn s) (jq s).1/\InB (rIn s):=by
 unfold rIn;rw[dif_pos h];exact Classical.choose_spec (On s h)
def oz:Str->List Inp->Str×Int
 |acc,[]=>(acc,0)
 |acc,i::r=>if oI (prT i)=true/\dq (rIn (prT i)) i=true then oz (acc++(prT i++[10])) r else([],1)
def jL(l:List Inp):Str×Int:=if 200<l.length then([],2)else oz [] l
structure Lst(h:AH)(A:AV)(css:List (LA)):Prop where
 len:∀h',bn h' A=some (I css.length,h')
 at_:∀(i:Nat) (c:LA),css[i]?=some c->∃p,∀h',Fr h h'->aC h' 37 A (I i)=some (p,h')/\gh h' 37 p=some (.agg c,h')
variable {css:List (LA)}
theorem U0(g:Sl css A)(j:∀c∈css,c.length=37):Lst h A css:=by
 refine⟨λh'=>fS g,λi c a=>⟨.ai c,λh' _=>⟨fW g a (j c (cQ a)),?_⟩⟩⟩;have k1:cut c 0 37=some c:=by
  have:=cS (α:=c) (b:=[]) (n:=37) (j c (cQ a));rwa [bO]at this
 simp[k1]
variable {α:Type}{z:Nat}
theorem Na:∀(ys:List (List α)),(∀y∈ys,y.length=z)->∀(i:Nat) (y:List α),ys[i]?=some y->(ys.flatten.drop (i*z)).take z=y/\i*z+z<=ys.flatten.length
 |[],_,i,y,h=>by simp at h
 |x::ys,a,0,y,h=>by
  simp at h;subst h;have b:=a x (by simp);simp only[oL,Nat.zero_mul,rq,au];exact⟨by rw[List.take_append_of_le_length (by omega),dH (by omega)],by omega⟩
 |x::ys,a,i+1,y,h=>by
  simp at h;have b:=a x (by simp);have c:=Na ys (λy g=>a y (by simp[g])) i y h;simp only[oL,ie,pX,au];refine⟨?_,by omega⟩;rw[List.drop_append,gp (by omega),cD,show i*z+z-x.length=i*z by omega];exact c.1
variable {lv:AV}
theorem aeG{hb h:AH}(o:OL 37 hb h lv css.length css.flatten)(u:∀c∈css,c.length=37):Lst h lv css:=by
 rcases o with⟨rfl,h2,J⟩|⟨k,rfl,G,H,y,g,hlen⟩
 ·have:css=[]:=fQ h2;subst this;exact U0 (.inr ⟨rfl,rfl⟩) (by simp)
 refine⟨λh'=>by simp,λi c j=>⟨.ptr k (0+i*37),λh' fr=>?_⟩⟩;have hi:=(aL.1 j).1;have B:=gO (h:=h') (z:=37) (id:=k) (off:=0) (len:=css.length) (i:=i) (by omega) (by omega);have b:=Na css u i c j;have a:h'.E k=some css.flatten:=by rw[aV (fr.get k y)];exact g
 refine⟨B,ab3 a ?_⟩;unfold cut;rw[j4,Z b.2,b.1]
inductive QF(h:AH)(A:AV)(L:List Inp)(R:Str×Int):Nat->List AV->AH->Prop
 |mk {m:Nat} {h':AH} (i:Nat) (acc:Str):i+m=L.length->oz acc (L.drop i)=R->acc.length<=1000000001*i->Fr h h'->QF h A L R m [A,.str acc,I i] h'
inductive QFm(h:AH)(A:AV)(acc s:Str)(i:Nat)(fl:Bool):List AV->AH->Prop
 |mk {h':AH}:Fr h h'->QFm h A acc s i fl [A,.str acc,I i,.str s,.bool fl] h'
theorem aa3{h:AH}(A:AV)(L:List Inp)(css:List (LA))(hx:Lst h A css/\vk L css/\∀i∈L,PrB i/\(prT i).length<=1000000000):ab prog 10 [A] h (.tup [.str (jL L).1,I (jL L).2]) h:=by
 obtain⟨hA,⟨ad,af⟩,hB⟩:=hx;refine dj (λH=>kU (.str _) (.int _ _)) (C10 ?_);have W:∀h:AH,bn h A=some (I L.length,h):=λh=>by rw[hA.len,ad]
 by_cases B:(200:Int)<L.length
 ·have e:jL L=([],2):=by unfold jL;rw[ifp]
  rw[e];simp[g10,W,B];exact Fr.refl h
 have e:jL L=oz [] L:=by unfold jL;rw[ifn]
 rw[e];simp[g10,W,B];refine⟨QF h A L (oz [] L),L.length,.mk 0 [] (by simp) rfl (by simp) (Fr.refl h),?_⟩;generalize oz [] L=R at*;clear e;rintro m vs h' ⟨i,acc,aS,y,hl,fr⟩;cases m with
 |zero=>
  have J:¬(i:Int)<L.length:=by omega
  rw[gp (by omega)]at y;simp[Hg,W,J,Hd,Ia];subst y;exact⟨⟨rfl,rfl⟩,fr⟩
 |succ m=>
  have h1:i<L.length:=by omega
  have J:(i:Int)<L.length:=by omega
  have g1:css[i]?=some (css[i]'(by omega)):=by simp
  have q1:=af i L[i] _ (by simp) g1;have hb:=hB _ (gG h1);rw[ig h1]at y;simp only[oz]at y;generalize css[i]'(by omega)=c at*;generalize L[i]=x at*;obtain⟨p,hp⟩:=hA.at_ i c g1;have p1:=hp h' fr;have aj:=p1.1;have al:=p1.2;simp[Hg,W,J,aj,al];refine sD (adL x c ⟨q1,hb.1⟩) ?_;have N:=hb.2;have P:=Ic N;have G:=V? (prT x);generalize prT x=s at*;refine sD (abX s N) ?_;generalize(jq s).1=j at*;generalize rIn s=xi at*;generalize oI s=ok at*;have u:=G.len;have an:=G.one;obtain⟨aT,hZ⟩:∃aT:List AV,aT=zIn:=⟨_,rfl⟩;have S:aT=z37:=hZ;have U:aP aT 0 j=some j:=iH (by rw[u,hZ];rfl);have ao:cut j 0 37=some j:=by
   have:=cS (α:=j) (b:=[]) (n:=37) u;rwa [bO]at this
  unfold Vm;rw[<-S];simp[u,an,U];have K:=(fr.add (.cells aT)).set fr.nx (.cells j);have ar:((h'.add (.cells aT)).set h'.nx (.cells j)).E h'.nx=some j:=cse;generalize(h'.add (.cells aT)).set h'.nx (.cells j)=h2 at*;generalize h'.nx=k7 at*;clear u U hZ S;obtain⟨M,g⟩:∃M,M=(!ok || !(dq xi x)):=⟨_,rfl⟩;refine⟨QFm h A acc s i M,?_,?_⟩
  ·cases ok
   ·simp[FE,F6];rw[show M=true by rw[g];rfl];exact .mk (K.bump (by omega))
   have p2:=hp _ (K.bump (k:=h2.nx+11) (by omega));have av:=p2.1;have aw:=p2.2;simp[FE,ar,ao,av,aw,F6];refine sD (acq xi x j c ⟨P.1,q1,P.2⟩) ?_;refine⟨by simp,?_⟩;have:M = !(dq xi x):=by rw[g];rfl
   rw[this];simp[];exact .mk (K.bump (by omega))
  rintro vs h3 ⟨V⟩;cases hf:M
  ·rw[hf]at g;have g:=g.symm;simp only[kh,vO]at g;rw[Z g]at y;have k2:=aU (h:=h3) (a:=s) (b:=[10]) (by simp;omega);have k3:=aU (h:=h3) (a:=acc) (b:=s++[10]) (by simp;omega);simp(disch:=first|go_size|fail)[GL,k2,k3];refine⟨m,by omega,?_⟩;exact .mk (i+1) (acc++(s++[10])) (show i+1+m=L.length by omega) y (by simp only[au,dP];omega) V
  rw[hf]at g;have hn:¬(ok=true/\dq xi x=true):=by
   rintro⟨e1,e2⟩;rw[e1,e2]at g;cases g
  rw[O hn]at y;simp(disch:=first|go_size|fail)[GL,Hd];subst y;exact⟨⟨rfl,rfl⟩,V⟩
def kT:Str:=[107,101,121,32,99,116,114,108,43,115,32,53,10]
def ko:LA:=stN (stN (stN zIn 0 [I 2]) 7 [I 115,I 1]) 9 [I 5]
set_option maxRecDepth 100000 in
theorem aaI:yF kT=(some [ko],1,0):=by
 kernel_rfl
theorem acX(c:GJ h)(_:True):ab prog 15 [] h (.bool true) h:=by
 refine dj (λ_=>.bool _) (C15 ?_);have g:YR (yF kT) =.tup [.psl [ko],I 1,I 0]:=by rw[aaI];rfl
 have a:∀h:AH,aC h 37 (.psl [ko]) (I 0)=some (.ai ko,h):=λh=>gQ (i:=0) rfl rfl
 have c0:ko[0]?=some (I 2):=rfl;have f7:∀h:AH,gZ h 7 (.ai ko)=some (.ai (ko.drop 7),h):=λh=>rfl
 have f9:∀h:AH,gZ h 9 (.ai ko)=some (.ai (ko.drop 9),h):=λh=>rfl
 have j:cut (ko.drop 7) 0 2=some [I 115,I 1]:=rfl;have c9:(ko.drop 9)[0]?=some (I 5):=rfl;have b:kT=[107,101,121,32,99,116,114,108,43,115,32,53,10]:=rfl;unfold g15;rw[<-b];simp[];refine sD (acT kT c (by decide)) ?_;rw[g];generalize ko.drop 7=u at*;generalize ko.drop 9=y at*;generalize ko=X at*;simp[VE,UA,a,c0,UU,a,f7,j,bo,fm,Vr,a,f9,c9];exact Fr.refl h
def GV:Nat->Val->Prop
 |0,_=>False
 |d+1,.mk _ n s l=>(-1099511627776<=n/\n<=1099511627776)/\s.length<=4/\l.length<=3/\∀v∈l,GV d v
def gB:Nat->Nat
 |0=>0
 |d+1=>3*(gB d+1)+30
variable {d:Nat}
theorem NQ(a:∀v:Val,GV d v->(eU v).length<=gB d):∀(b:Bool) (l:List Val),(∀v∈l,GV d v)->(cZ b l).length<=l.length*(gB d+1)
 |_,[],_=>by simp[cZ]
 |b,v::r,h=>by
  have h1:=NQ a false r (λu hu=>h u (by simp[hu]));have h2:=a v (h v (by simp));have c:(if b=true then([]:Str)else [32]).length<=1:=by split<;>simp
  simp only[cZ,au,aF,ie,pX];omega
theorem xL:∀(d:Nat) (v:Val),GV d v->(eU v).length<=gB d
 |0,_,h=>h.elim
 |d+1,.mk k n s l,h=>by
  obtain⟨h1,h2,a,b⟩:=h;have hi:=AF (n:=n) (by omega) (by omega);have c:=rE s;have g:=NQ (xL d) true l b;have hm:l.length*(gB d+1)<=3*(gB d+1):=kJ _ a;have j:eI.length=4:=rfl;have u:ed.length=5:=rfl;simp only[eU,gB];split
  ·omega
  split
  ·split<;>omega
  split
  ·omega
  simp only[aF,au,bz];omega
theorem y6:∀d,d<=5->gB d<=20000:=by decide
theorem XF:∀(d:Nat) (v:Val),d<=5->GV d v->VW v
 |0,_,_,h=>h.elim
 |d+1,.mk k n s l,a,h=>by
  have hb:=xL (d+1) _ h;have c:=y6 (d+1) a;exact .mk k n s l (by have:=h.1;omega) (by have:=h.2.1;omega) (by have:=h.2.2.1;omega) (λv b=>XF d v (by omega) (h.2.2.2 v b)) (by omega)
theorem ah3(x:Sr):-3<=rgV x (-3) 9/\rgV x (-3) 9<=9:=by
 have h1:=dK x 13;have h2:=dr x (show(1:Int)<=13 by omega);unfold rgV;rw[show(9:Int) - -3+1=13 by omega];omega
theorem gv0(h1 : -1099511627776<=n/\n<=1099511627776)(h2:s.length<=4):GV (d+1) (.mk k n s []):=⟨h1,h2,by simp,by simp⟩
theorem wd4(x:Sr):(wdV x 4).length<=4:=by have:=adC x (n:=4) (by omega);omega
theorem nv2(x:Sr):-1099511627776<=nV x 2/\nV x 2<=1099511627776:=by
 have h1:=dK x 2;have h2:=dr x (show(1:Int)<=2 by omega);omega
theorem XU:∀(d:Nat) (v:Val) (x:Sr),GV d v->GV d (lk d v x).1
 |0,_,_,h=>h.elim
 |d+1,.mk k n s l,x,h=>by
  have b:=ah3 x;unfold lk
  (repeat' split)
  ·exact gv0 (by show -1099511627776<=rgV x (-3) 9/\_;omega) (by simp)
  ·exact gv0 (nv2 x) (by simp)
  ·exact gv0 (by omega) (wd4 x)
  exact⟨by omega,by simp,bf (BJ l x) h.2.2.1,Bm l x λv a y=>XU d v y (h.2.2.2 v a)⟩
theorem afz(q:Nat):-1099511627776<=iR.getD q 0/\iR.getD q 0<=1099511627776:=by
 by_cases h:q<iR.length
 ·have hm:iR.getD q 0∈iR:=by
   rw[gF,bF h];exact gG h
  exact(by decide:∀n∈iR, -1099511627776<=n/\n<=1099511627776) _ hm
 rw[gF,j_ (by omega)];decide
theorem Wa(d:Nat)(x:Sr):GV (d+1) (vaN x).1:=gv0 (afz _) (by simp)
variable {L:Sr->Val×Sr}
theorem W7(a:∀x,GV (d+1) (L x).1)(x:Sr):GV (d+1) (vaW L x).1:=by
 unfold vaW
 (repeat' split)
 ·exact gv0 (nv2 _) (by simp)
 ·exact gv0 (by omega) (wd4 _)
 ·exact a _
 exact Wa d _
variable {f:Sr->Val×Sr}
theorem aeO(b:∀x,GV d (f x).1)(x:Sr):GV (d+1) (vaL f d x).1:=by
 have h1:=dK x 4;have h2:=dr x (show(1:Int)<=4 by omega);unfold vaL;split
 ·refine⟨by omega,by simp,by rw[aF,nW];omega,λv a=>?_⟩;rcases cE.1 a with rfl|a
  ·exact b _
  exact r4 (p:=GV d) (λy=>XU d _ y (b _)) _ _ v a
 exact gv0 (by omega) (by simp)
theorem Iu:∀(d:Nat) (x:Sr),GV (d+1) (va d x).1
 |0,x=>W7 (L:=vaN) (d:=0) (λy=>Wa 0 y) x
 |d+1,x=>W7 (d:=d+1) (λy=>aeO (Iu d) y) x
theorem Cd:∀(l:List Val) (acc:Str),(∀v∈l,(eU v).length<=20000)->(prA acc l).length<=acc.length+20001*l.length
 |[],acc,_=>by simp[prA]
 |v::r,acc,h=>by
  unfold prA;split
  ·simp
  have h1:=Cd r (acc++32::eU v) (λu hu=>h u (by simp[hu]));have h2:=h v (by simp);simp only[au,aF]at h1 ⊢;omega
theorem Em:∀(l:List (Int×Bool)) (acc:Str),(prC acc l).length<=acc.length+22*l.length
 |[],acc=>by simp[prC]
 |p::r,acc=>by
  unfold prC;split
  ·simp
  have h1:=Em r (acc++cz [if p.2=true then -p.1 else p.1]);have h2:=fB [if p.2=true then -p.1 else p.1];simp only[au,aF,bz]at h1 h2 ⊢;omega
theorem yE(x:Sr)(n:Int):(vdV x n).length<=n.toNat:=by
 unfold vdV;rw[mv];omega
theorem tx(h1:i.args=[])(h2:i.t=[])(b:i.rt.length<=400000000)(a:i.cls=[]):PrB i:=
 ⟨by rw[h1];simp,by rw[h1];simp,by rw[h2];simp,b,by rw[a];simp,by rw[a];simp⟩
def SmI(i:Inp):Prop:=PrB i/\(prT i).length<=100000
theorem PL(k:Nat):(gz.getD k []).length<=100:=by
 by_cases h:k<gz.length
 ·have:=cQ (ik h);exact(by decide:∀w∈gz,w.length<=100) _ this
 rw[gF,j_ (by omega)];simp
theorem afm(c n:Int)(x:Sr):SmI (plC c n x).1:=by
 unfold plC;split
 ·refine⟨tx rfl rfl (by show(0:Nat)<=_;omega) rfl,?_⟩;have e:∀i:Inp,i.kind=1->(prT i).length<=100000:=λi hi=>by
   have h1:=PL i.pk.toNat;have h2:=fB [i.pid,i.px,i.py,i.pt,i.pw];unfold prT pr1;rw[Z hi];split
   ·simp
   simp only[au,aF,bz]at h2 ⊢; omega
  exact e _ rfl
 split
 ·refine⟨tx rfl rfl (by show(0:Nat)<=_;omega) rfl,?_⟩;have e:∀i:Inp,i.kind=2->(prT i).length<=100000:=λi hi=>by
   have h1:=wR i.key i.cH;have h2:=fB [i.time];unfold prT pr2;rw[ifn,Z hi];simp only[au,aF,bz]at h2 ⊢; omega
  exact e _ rfl
 split
 ·refine⟨tx rfl rfl (by show(0:Nat)<=_;omega) rfl,?_⟩;have e:∀i:Inp,i.kind=3->(prT i).length<=100000:=λi hi=>by
   have h2:=fB [i.time];unfold prT pr3;rw[ifn,ifn,Z hi];simp only[au,aF,bz]at h2 ⊢; omega
  exact e _ rfl
 split
 ·refine⟨tx rfl rfl (by show(0:Nat)<=_;omega) rfl,?_⟩;have e:∀i:Inp,i.kind=4->(prT i).length<=100000:=λi hi=>by
   have h2:=fB [i.sw,i.sh];unfold prT pr4;rw[ifn,ifn,ifn,Z hi];simp only[au,aF,bz]at h2 ⊢; omega
  exact e _ rfl
 split
 ·refine⟨tx rfl rfl (by show(0:Nat)<=_;omega) rfl,?_⟩;have e:∀i:Inp,i.kind=5->(prT i).length<=100000:=λi hi=>by
   have h2:=fB [i.scale];have a:(if i.dv=true then iy else kl).length<=100:=by split<;>decide
   have b:(if i.high=true then gU else jB).length<=100:=by split<;>decide
   unfold prT pr5;rw[ifn,ifn,ifn,ifn,Z hi];simp only[au,aF,bz]at h2 ⊢; omega
  exact e _ rfl
 split
 ·have h1:=dK x 3;have h2:=dr x (show(1:Int)<=3 by omega);have a:∀v∈itV nj lu (nV x 3).toNat (nS x 3),GV 3 v:=r4 (p:=GV 3) (λy=>Iu 2 y) _ _;have b:(itV nj lu (nV x 3).toNat (nS x 3)).length<=2:=by rw[nW];omega
  unfold pl5;generalize itV nj lu (nV x 3).toNat (nS x 3)=L at*;refine⟨⟨by show L.length<=_;omega,λv g _=>XF 3 v (by omega) (a v g),by simp[z5A],by simp[z5A],by simp[z5A],by simp[z5A]⟩,?_⟩;have:=Cd L [97,114,103,115] λv g=>bf (xL 3 v (a v g)) (y6 3 (by omega))
  show(prA [97,114,103,115] L).length<=_
  simp only[aF,bz]at this;omega
 split
 ·have g:=yE (nS (nS (nS (nS x 9) 9) 9) 9) 4;have he:=nI (vdV (nS (nS (nS (nS x 9) 9) 9) 9) 4);generalize B:bD (vdV (nS (nS (nS (nS x 9) 9) 9) 9) 4)=R at*;have j:(pl6 n x).1.rt.length<=16:=by
   unfold pl6;rw[B];show R.length<=16
   have:(4:Int).toNat=4:=rfl;omega
  refine⟨tx rfl rfl (by omega) rfl,?_⟩;have e:∀i:Inp,i.kind=7->i.rt.length<=16->(prT i).length<=100000:=λi hi j=>by
   have h1:=fB [i.ver,i.node];have h2:=fB [i.frm,i.too];have a:=uo i.act 9;have b:=rE i.rt;unfold prT pr7;rw[ifn,ifn,ifn,ifn,ifn,ifn,Z hi];simp only[au,aF,bz]at h1 h2 ⊢; omega
  exact e _ rfl j
 have u:∀(k:Int) (y:Sr),(plT k y).length<=5:=λk y=>by
  unfold plT;split
  ·have:=yE y 5;have G:(5:Int).toNat=5:=rfl;omega
  simp
 have e:∀(k n:Int) (t:List Int) (c:List (Int×Bool)),t.length<=5->c.length<=3->(∀p∈c,p.1<=9223372036854775807)->SmI (z7A k t n c):=λk n t c H J hp=>by
  refine⟨⟨by simp[z7A],by simp[z7A],by show t.length<=_;omega,by simp[z7A],by show c.length<=_;omega,hp⟩,?_⟩;show(pr8 (z7A k t n c)).length<=_
  have h1:=nI t;have h2:=rE (bD t);have a:=fB [n];have b:=Em c ((lM++gy (bD t))++cz [n]);have K:A1.length=13:=rfl;have M:AD.length=14:=rfl;have N:uv.length=15:=rfl;have P:lM.length=15:=rfl;show(if k=14 then A1 else if k=17 then AD else if k=16 then uv++gy (bD t)else prC ((lM++gy (bD t))++cz [n]) c).length<=_
  simp only[au,aF,bz]at a b;split
  ·omega
  split
  ·omega
  split
  ·simp only[au];omega
  omega
 rw[E_];split
 ·refine e _ _ _ _ (u _ _) ?_ ?_
  ·rw[nW];have h1:=dK (nS (gK (rgV x 14 17) (nS x 4)) 6) 3;have h2:=dr (nS (gK (rgV x 14 17) (nS x 4)) 6) (show(1:Int)<=3 by omega);omega
  refine r4 (p:=λp:Int×Bool=>p.1<=9223372036854775807) (λy=>?_) _ _;have h2:=dr y (show(1:Int)<=3 by omega);show rgV y 1 3<=_
  unfold rgV;rw[show(3:Int)-1+1=3 by omega];omega
 exact e _ _ _ _ (u _ _) (by simp) (by simp)
theorem afe(x:Sr):SmI (plI x):=afm _ _ _
theorem Wk{x:Sr}(h:x.Ok):(plS x).Ok:=by
 have h1:=aN h 1003;have h2:=aN h1 8;unfold plS;generalize nS (nS x 1003) 8=y at*;generalize nV (nS x 1003) 8=c at*;generalize rgV x (-3) 999=n at*;unfold plC;split
 ·exact aN (aN (aN (aN h2 _) _) _) _
 split
 ·exact aN (UN h2) _
 split
 ·exact h2
 split
 ·exact aN h2 _
 split
 ·exact aeN h2
 split
 ·exact qw (λy g=>y4 2 y g) _ _ (aN h2 _)
 split
 ·exact EU (aN (aN (aN (aN h2 _) _) _) _) _
 have a:∀(k:Int) {z:Sr},z.Ok->(gK k z).Ok:=λk z b=>by
  unfold gK;split
  ·exact EU b _
  exact b
 unfold pl7;split
 ·exact qw adR _ _ (aN (aN (a _ (aN h2 _)) _) _)
 exact a _ (aN h2 _)
theorem GJ.fr(a:GJ h)(f:Fr h h1):GJ h1:=
 a.mG (λi hi=>f.get i (by have:=a.2;omega)) f.nx
variable {Q:QT}
theorem aio(L:List Int)(a:Q (.ptr h.nx 0) (h.add (.cells (srC (mn L))))):tU prog 7 [ints L] h Q:=sD (agQ h L trivial) a
theorem KY(a:List Inp):vk a (a.map inC):=
 ⟨by simp,λk i c h1 h2=>by
  rw[cA,h1]at h2;simp at h2;subst h2;exact ad8 i⟩
open Go.RowKit
def WS(h:AH)(x:AV)(l:List Str):Prop:=(x =.D/\l=[])\/∃k,x =.rsl k 0 l.length 1/\h.E k=some (l.map λs=>.str s)/\l≠[]
theorem abp(l:List Str):Lib.join l [32]=cm l:=by
 cases l with
 |nil=>rfl
 |cons a r=>
  rw[Lib.join_cons];unfold cm;congr 1
  unfold Lib.joinTail;induction r with
  |nil=>rfl
  |cons b r c=>simp only[da,oL,aW,c];simp
theorem Tw:∀(l:List Str),pD 1 l.length (l.map λs=>AV.str s)=l.map λs=>[AV.str s]
 |[]=>rfl
 |a::l=>by
  rw[aF,pD];simp only[da,List.take_succ_cons,vH,tR,rq];rw[Tw l]
theorem Ly:∀l:List Str,tf (l.map λs=>[AV.str s])=some l
 |[]=>rfl
 |a::l=>by simp only[da,tf,Ly l]
theorem L?(l:List Str):aM (l.map λs=>AV.str s)=true:=by
 unfold aM;rw[fi];intro x a;obtain⟨s,_,rfl⟩:=eK.1 a;rfl
theorem AR(x:AV)(l:List Str)(c:WS h x l/\(cm l).length<=1000000000/\l.length<=1000000000):ab prog 69 [x,.str [32]] h (.str (cm l)) h:=by
 obtain⟨c,h1,h2⟩:=c;rw[<-abp]at h1 ⊢;refine Go.Proofs.Ik x (l.map λs=>[AV.str s]) l [32] h ?_ (Ly l) h1 h2;rcases c with⟨rfl,rfl⟩|⟨k,rfl,g,_⟩
 ·rfl
 have a:cut (l.map λs=>AV.str s) 0 (l.length*1)=some (l.map λs=>.str s):=by
  have:=cS (α:=l.map λs=>AV.str s) (b:=[]) (n:=l.length*1) (by simp);rwa [bO]at this
 simp only[xF,bt,g,a,L?,Tw]
theorem afQ:Fex prog 102:=⟨_,func102,rfl,by decide⟩
theorem agz:Fex prog 29:=⟨_,func29,rfl,by decide⟩
theorem acn(b:Bool)(_:True):ab prog 102 [.bool b] h (.str (if b=true then eI else ed)) h:=by
 refine ab.lib afQ λown β wd a hs c=>?_
 obtain⟨u,rfl,hu⟩:=rR c;cases hu;refine(aiw b wd).mono ?_;rintro e w' ⟨rfl,rfl⟩;refine⟨_,rfl,?_,Below.refl _ _⟩;cases b
 ·exact .str ed
 exact .str eI
theorem I?(s:Str)(_:True):ab prog 29 [.str s,.str [10]] h (.bool (decide (0<=Lib.indexByte s 10))) h:=by
 refine ab.lib agz λown β wd a hs b=>?_
 have:=wu b;subst this;refine(aiv ⟨s.toArray⟩ 10 wd).mono ?_;rintro e w' ⟨rfl,rfl⟩;exact⟨_,rfl,.bool _,Below.refl _ _⟩
theorem Nz(b:Bool)(x y:Str)(_:True):ab prog 67 [.bool b,.str x,.str y] h (.str (if b=true then y else x)) h:=by
 refine dj (λ_=>.str _) (C67 ?_);cases b
 ·simp[g67];exact Fr.refl h
 simp[g67];exact Fr.refl h
theorem Ur{h:AH}(l:List Str)(i:Int)(y:l.length<=1000):ab prog 64 [cV l,I i] h (.str (ll l i)) h:=by
 refine dj (λ_=>.str _) (C64 ?_);have b:∀h:AH,bn h (cV l)=some (I l.length,h):=λh=>by simp[cV]
 have c:∀h:AH,0<=i->i<l.length->∃s,l[i.toNat]?=some s/\aC h 1 (cV l) (I i)=some (.ai [.str s],h):=λh h0 h1=>by
  have a:i.toNat<l.length:=by omega
  refine⟨l[i.toNat],bF a,?_⟩;have j:(l.map λs=>[AV.str s])[i.toNat]?=some [.str l[i.toNat]]:=by rw[cA,bF a];rfl
  have:=gQ (h:=h) (i:=i.toNat) j rfl;rwa [show((i.toNat:Nat):Int)=i by omega]at this
 generalize cV l=L at*;simp[g64];refine⟨λg h'=>g=[L,I i,.bool (decide (i<0\/(l.length:Int)<=i))]/\h'=h,?_,?_⟩
 ·by_cases h0:i<0
  ·simp[yg,h0]
  by_cases h1:(l.length:Int)<=i
  ·simp[yg,h0,b,h1]
  simp[yg,h0,b,h1]
 rintro g h' ⟨rfl,rfl⟩;unfold ll;by_cases hb:i<0\/(l.length:Int)<=i
 ·rw[eD hb,ifn];simp[GN];exact Fr.refl h'
 rw[dx hb,ifp];obtain⟨s,hs,u⟩:=c h' (by omega) (by omega);simp(disch:=first|go_size|fail)[GN,u];obtain⟨a,he⟩:=aL.1 hs;exact⟨he.symm,Fr.refl h'⟩
variable {hb:AH}
theorem zd{n:Nat}{L:List Str}(o:OL 1 hb h lv n (L.map λs=>.str s))(a:n=L.length):WS h lv L:=by
 subst a;rcases o with⟨h1,h2,b⟩|⟨k,h1,h2,b,g,c,j⟩
 ·exact .inl ⟨h1,fQ h2⟩
 exact .inr ⟨k,h1,c,λe=>h2 (by rw[e];rfl)⟩
theorem Ke(l:List Int)(h:∀n∈l, -9223372036854775808<=n/\n<=9223372036854775807):(aW (l.map Lib.itoa)).length<=22*l.length:=by
 induction l with
 |nil=>simp[aW]
 |cons n l a=>
  have a:=a λm hm=>h m (by simp[hm])
  have b:=h n (by simp);have hi:(Lib.itoa n).length<=21:=by
   have e:(10:Nat)^(18+2)=100000000000000000000:=by decide
   unfold Lib.itoa;split
   ·have:=we 19 n.natAbs (by rw[show(10:Nat)^(19+1)=100000000000000000000 by decide];omega);simp;omega
   have:=we 19 n.toNat (by rw[show(10:Nat)^(19+1)=100000000000000000000 by decide];omega);omega
  simp only[da,aW,aF,au];omega
theorem rN(l:List Str):(cm l).length<=(aW l).length:=by
 cases l with
 |nil=>simp[cm]
 |cons a l=>simp[cm,aW]
inductive Q65(h:AH)(A:AV)(L:List Int):Nat->List AV->AH->Prop
 |mk {m:Nat} {h':AH} (i:Nat) (lv:AV):i+m=L.length->Fr h h'->OL 1 h h' lv i (((L.take i).map Lib.itoa).map λs=>.str s)->Q65 h A L m [lv,A,I L.length,I i] h'
theorem qc{h:AH}(A:AV)(L:List Int)(P:GJ h)(R:NSl h A L/\L.length<=20000000/\∀n∈L, -9223372036854775808<=n/\n<=9223372036854775807):ab prog 65 [A] h (.str (de L)) h:=by
 obtain⟨⟨k,rfl,S,U⟩,hL,M⟩:=R;refine dj (λ_=>.str _) (C65 ?_);have V:=Ke L M;have W:=rN (L.map Lib.itoa);simp[g65];refine⟨Q65 h (.rsl k 0 L.length 1) L,L.length,.mk 0 .D (by omega) (Fr.refl h) (OL.start _ _ _),?_⟩;rintro m vs h' ⟨i,lv,ad,fr,o⟩;have a:=P.fr fr;have b:h'.E k=some (L.map λn=>I n):=(aV (fr.get k U)).trans S;cases m with
 |zero=>
  obtain rfl:i=L.length:=by omega
  rw[oM]at o;have c:=zd o (by simp);simp[Ey,Vo];unfold Hq;simp[];refine sD (AR lv (L.map Lib.itoa) ⟨c,by omega,by simp;omega⟩) ?_;exact⟨rfl,fr⟩
 |succ m=>
  have hi:i<L.length:=by omega
  have g:(i:Int)<L.length:=by omega
  have u:aC h' 1 (.rsl k 0 L.length 1) (I i)=some (.ptr k i,h'):=by
   have:=gO (h:=h') (z:=1) (id:=k) (off:=0) (len:=L.length) (i:=(i:Int)) (by omega) (by omega);simpa using this
  have y:(L.map λn=>I n)[i]?=some (I L[i]):=by rw[cA,bF hi];rfl
  have B:(L.take (i+1)).map Lib.itoa=(L.take i).map Lib.itoa++[Lib.itoa L[i]]:=by rw[rp,bF hi,mr];rfl
  have G:=M L[i] (gG hi);generalize L[i]=n at*;simp[Ey,g,u,b,y];refine sD (Hi n a G) ?_;have H:aQ [AV.str []] [(0,1,.str (Lib.itoa n))]=some [.str (Lib.itoa n)]:=rfl;obtain⟨J,h2,k1,o2,af,K⟩:=kt (bytes:=16) (tc:=[.str (Lib.itoa n)]) o fr.nx rfl rfl (by omega) (by omega);simp[UK,H];rw[k1];simp(disch:=first|go_size|fail)[];refine⟨m,by omega,.mk (i+1) J (show i+1+m=L.length by omega) ⟨by have:=fr.nx;omega,λj N=>by rw[K j N];exact fr.get j N⟩ ?_⟩;rw[B,mr];exact o2
def zy(v:Val):Prop:=∀(h:AH),GJ h->ab prog 68 [.agg (vC v)] h (.str (cI v)) h
theorem agt{l:List Val}(a:∀v∈l,zy v)(v:Val)(b:v∈l)(c:GJ h)(g:Q (.str (cI v)) h):tU prog 68 [.agg (vC v)] h Q:=sD (a v b h c) g
inductive Q68(h:AH)(l:List Val):Nat->List AV->AH->Prop
 |mk {m:Nat} {h':AH} (i:Nat) (lv:AV):i+m=l.length->Fr h h'->OL 1 h h' lv i ((aR (l.take i)).map λs=>.str s)->Q68 h l m [lv,.psl (vCs l),I l.length,I i] h'
theorem v_:∀l:List Val,(aR l).length=l.length
 |[]=>rfl
 |v::l=>by simp[aR,v_ l]
theorem ab9(k n:Int)(s:Str)(l:List Val)(hn : -9223372036854775808<=n/\n<=9223372036854775807)(hs:s.length<=400000000)(hl:l.length<=20000000)(hv:∀v∈l,zy v)(g:(cI (.mk k n s l)).length<=900000000):zy (.mk k n s l):=by
 intro h hg;refine dj (λ_=>.str _) (C68 ?_);have c:(vC (.mk k n s l))[0]?=some (I k):=by simp[vC]
 have G:(vC (.mk k n s l))[1]?=some (I n):=by simp[vC]
 have S:(vC (.mk k n s l))[2]?=some (.str s):=by simp[vC]
 have U:(vC (.mk k n s l))[3]?=some (.psl (vCs l)):=by simp[vC]
 have c1:(h.add (.cells (vC (.mk k n s l)))).E h.nx=some (vC (.mk k n s l)):=cas;have fr:=(Fr.refl h).add (.cells (vC (.mk k n s l)));have ar:aM (vC (.mk k n s l))=true:=jd _;generalize vC (.mk k n s l)=X at*;have B:=hg.fr fr;simp only[cI]at g ⊢;by_cases k1:k=1
 ·rw[Z k1]at g ⊢;subst k1;simp[g68,c,G];refine sD (Hi n B hn) ?_;exact⟨rfl,fr⟩
 rw[O k1]at g ⊢;by_cases k2:k=2
 ·rw[Z k2]at g ⊢;subst k2;simp[g68,c,G,WE];refine sD (acn (n==1) trivial) ?_;simp[];exact fr
 rw[O k2]at g ⊢;by_cases P:k=3
 ·rw[Z P]at g ⊢;subst P;simp[g68,c,S,Wh];refine sD (Az s (by omega)) ?_;exact⟨rfl,fr⟩
 rw[O P]at g ⊢;by_cases k4:k=4
 ·rw[Z k4]at g ⊢;subst k4;have J:=gP l;simp[g68,c,Wt,U,J];have av:h.nx+1<=(h.add (.cells X)).nx:=by simp
  generalize h.add (.cells X)=h1 at*;refine⟨Q68 h1 l,l.length,.mk 0 .D (by omega) (Fr.refl h1) (OL.start _ _ _),?_⟩;rintro m vs h' ⟨i,lv,aw,u,o⟩;have aS:=B.fr u;have aT:=rN (aR l);simp only[aF,au,bz]at g;cases m with
  |zero=>
   obtain rfl:i=l.length:=by omega
   rw[oM]at o;have V:=zd o (v_ l).symm;simp[Ib,Vq];unfold Fj;simp[];refine sD (AR lv (aR l) ⟨V,by omega,by rw[v_];omega⟩) ?_;have q1:=aU (h:=h') (a:=[91]) (b:=cm (aR l)) (by simp;omega);have q2:=aU (h:=h') (a:=[91]++cm (aR l)) (b:=[93]) (by simp;omega);simp only[cp,cD]at q1 q2;simp[VU,q1,q2];exact fr.trans u
  |succ m=>
   have hi:i<l.length:=by omega
   have W:(i:Int)<l.length:=by omega
   have i1:∀h:AH,aC h 4 (.psl (vCs l)) (I i)=some (.ai (vC l[i]),h):=λh=>gQ (mC hi) (ch _)
   have K:=gG hi;have ad:aR (l.take (i+1))=aR (l.take i)++[cI l[i]]:=by rw[rp,bF hi,zL,Lb];rfl
   have M:cut (vC l[i]) 0 4=some (vC l[i]):=by
    have:=cS (α:=vC l[i]) (b:=[]) (n:=4) (ch _);rwa [bO]at this
   generalize l[i]=v at*;have H:=ch v;have af:=jd v;have N:aP [I 0,I 0,.str [],.D] 0 (vC v)=some (vC v):=iH H.symm;simp[Ib,W,i1,M,H,af,N];have y:Fr h1 ((h'.add (.cells [I 0,I 0,.str [],.D])).set h'.nx (.cells (vC v))):=(u.add _).set (by have:=u.nx;omega) _;have o3:OL 1 h1 ((h'.add (.cells [I 0,I 0,.str [],.D])).set h'.nx (.cells (vC v))) lv i ((aR (l.take i)).map λs=>.str s):=o.aY (by simp) λj _ R=>by rw[gsn,gan]
   generalize(h'.add (.cells [I 0,I 0,.str [],.D])).set h'.nx (.cells (vC v))=h3 at*;have aj:=B.fr y;refine agt hv v K aj ?_;have al:aQ [AV.str []] [(0,1,.str (cI v))]=some [.str (cI v)]:=rfl;obtain⟨an,h4,kk,o4,a1,ao⟩:=kt (bytes:=16) (tc:=[.str (cI v)]) o3 y.nx rfl rfl (by omega) (by omega);simp[Wo,al];rw[kk];simp(disch:=first|go_size|fail)[];refine⟨m,by omega,.mk (i+1) an (show i+1+m=l.length by omega) ⟨by have:=y.nx;omega,λj R=>by rw[ao j R];exact y.get j R⟩ ?_⟩;rw[ad,mr];exact o4
 rw[O k4]at g ⊢;simp(disch:=first|go_size|fail)[g68,c,k1,k2,P,k4];exact fr
theorem agP:∀ {v:Val},WW v->zy v:=λa=>by
 induction a with
 |mk k n s l h1 h2 b _ c g=>exact ab9 k n s l h1 h2 b g c
theorem aaj(v:Val)(a:GJ h)(b:WW v):ab prog 68 [.agg (vC v)] h (.str (cI v)) h:=agP b h a
theorem D'(k m:Int)(_:True):ab prog 100 [.agg [I k,I m]] h (.bool (ga k m)) h:=by
 refine dj (λ_=>.bool _) (ahI ?_);have c1:(h.add (.cells [I k,I m])).E h.nx=some [I k,I m]:=cas;have fr:=(Fr.refl h).add (.cells [I k,I m]);have e:ga k m=(decide (0<=m/\m<=15)&&(decide (1<=k/\k<=23)||mP k)):=by
  rw[kQ];unfold mP;by_cases h1:0<=m/\m<=15<;>by_cases h2:1<=k/\k<=23<;>simp[h1,h2]<;>omega
 rw[e];by_cases m0:0<=m
 ·by_cases m1:m<=15
  ·by_cases a:1<=k
   ·by_cases k1:k<=23
    ·simp[tr,m0,m1,ux,a,k1,uC];exact fr
    simp[tr,m0,m1,ux,a,k1,uC];refine sD (A0 k trivial) ?_;simp[];exact fr
   simp[tr,m0,m1,ux,a,uC];refine sD (A0 k trivial) ?_;simp[];exact fr
  simp[tr,m0,m1,ux,uC];exact fr
 simp[tr,m0,ux,uC];exact fr
structure BD(h h':AH)(id:Nat)(bs:Str):Prop where
 fr:Fr h h'
 ge:h.nx<=id
 lt:id<h'.nx
 st:∃p bv og,h'.H.get id=some (.typ 171 [p,bv])/\(p =.dh\/p =.ptr id 0)/\uV h' id 5 bv (fg bs) og/\∀g,og=some g->h.nx<=g/\g<h'.nx
theorem BD.start(a:Fr h h'):BD h (h'.add (.typ 171 [.dh,.D])) h'.nx []:=
 ⟨a.add _,a.nx,by simp,.dh,.D,none,by rw[uz,Z rfl],.inl rfl,.inl ⟨rfl,rfl,rfl⟩,λg e=>by cases e⟩
variable {id:Nat}{bs:Str}
theorem BD.aY{h2:AH}(b:BD h h' id bs)(a:h'.nx<=h2.nx)(c:∀i,i<h'.nx->h2.H.get i=h'.H.get i):BD h h2 id bs:=by
 obtain⟨p,bv,og,h1,y,j,u⟩:=b.st;refine⟨⟨bf b.fr.nx a,λi hi=>by rw[c i (by have:=b.fr.nx;omega)];exact b.fr.get i hi⟩,b.ge,gq b.lt a,p,bv,og,by rw[c id b.lt];exact h1,y,?_,λg e=>⟨(u g e).1,gq (u g e).2 a⟩⟩;rcases j with j|⟨g,g1,g2,g3,g4,g5⟩
 ·exact .inl j
 exact .inr ⟨g,g1,g2,g3,g4,by rw[c g (u g g1).2];exact g5⟩
variable {og:Option Nat}
theorem BD.wrote{p bv:AV}(b:BD h h' id bs)(c:s≠[])(j:∀g,og=some g->h.nx<=g/\g<h'.nx):BD h (mJ h' id og 85 5 (fg bs) s) id (bs++s):=by
 have y:=b.ge;have B:=b.lt;have G:=b.fr.nx;have a:=ZV h' id og 85 5 (fg bs) s;have H:(mJ h' id og 85 5 (fg bs) s).nx=h'.nx+1:=rfl;have u:(fg bs).length+s.length=(fg (bs++s)).length:=by simp[fg]
 refine⟨⟨by omega,λi hi=>?_⟩,b.ge,by omega,.ptr id 0,.rsl h'.nx 0 ((fg bs).length+s.length) 1,some h'.nx,?_,.inr rfl,.inr ⟨h'.nx,rfl,by omega,?_,by rw[u],?_⟩,λg e=>by cases e;omega⟩
 ·rw[a,ifn,ifn,O (λe=>by have:=j i e;omega)];exact b.fr.get i hi
 ·rw[a,ifn,Z rfl]
 ·intro e;have:=congrArg List.length e;simp[fg]at this;exact c this.2
 rw[a,Z rfl];simp[fg]
theorem j!(s:Str):(fg s).all uw=true:=by
 unfold fg;rw[fi];intro x a;obtain⟨c,_,rfl⟩:=eK.1 a;rfl
variable {h0:AH}
theorem ze(s:Str)(b:BD h0 h id bs)(a:s≠[])(c:bs.length+s.length<=140737488355328)(g:∀h2,h.nx<=h2.nx->BD h0 h2 id (bs++s)->Q (.tup [I s.length,.bR]) h2):tU prog 31 [.ptr id 0,.str s] h Q:=by
 obtain⟨p,bv,og,h1,h2,j,u⟩:=b.st;exact sD (ack Go.Proofs.afk Go.Proofs.ag8 h1 h2 j (j! _) a (by simpa[fg]using c)) (g _ (Nat.le_succ _) (b.wrote (p:=p) (bv:=bv) a u))
theorem aeU:Fex prog 135:=⟨_,func135,rfl,by decide⟩
variable {r:Int}
theorem aeZ(a:qL r):K7 prog 135 85 5 (.int .i32 r) ⟨(e_ r).toArray⟩:=by
 have:=Go.Proofs.aaf a;unfold Go.Proofs.dM at this;rwa [<-nR]at this
theorem afq(r:Int)(b:BD h0 h id bs)(a:qL r)(c:bs.length+(e_ r).length<=140737488355328)(g:∀h2,h.nx<=h2.nx->BD h0 h2 id (bs++e_ r)->Q (.tup [I (e_ r).length,.bR]) h2):tU prog 135 [.ptr id 0,.int .i32 r] h Q:=by
 obtain⟨p,bv,og,h1,h2,j,y⟩:=b.st;exact sD (QK (arg:=.int .i32 r) (λ_ _ _ u hu=>by cases hu;rfl) (aeZ a) aeU h1 h2 j (j! _) (PO a) (by simpa[fg]using c)) (g _ (Nat.le_succ _) (b.wrote (p:=p) (bv:=bv) (PO a) y))
theorem XG(b:BD h0 h id bs)(a:bs≠[])(c:∀h2,Fr h0 h2->Q (.str bs) h2):tU prog 32 [.ptr id 0] h Q:=by
 obtain⟨p,bv,og,h1,h2,j,u⟩:=b.st;have G:=b.ge;rcases j with⟨_,y,_⟩|⟨g,g1,g2,g3,g4,g5⟩
 ·exact absurd y (by intro e;exact a (by simpa[fg]using e))
 have B:(fg bs).length=bs.length:=by simp[fg]
 rw[B]at g4;subst g4;refine sD (abw Go.Proofs.adY Go.Proofs.Yi h1 g5 g2 a) (c _ ⟨b.fr.nx,λi hi=>?_⟩);have:=u g g1;rw[my,ifn,my,ifn];exact b.fr.get i hi
theorem afT{m:Int}(h0:0<=m)(h1:m<=15){i:Nat}(b:i<4):∃t y:Int,(∀h:AH,aG h .shl (I 1) (I i)=some (I t,h))/\(∀h:AH,aG h .and (I m) (I t)=some (I y,h))/\(y=0↔oD m i=false):=by
 have hm:m=0\/m=1\/m=2\/m=3\/m=4\/m=5\/m=6\/m=7\/m=8\/m=9\/m=10\/m=11\/m=12\/m=13\/m=14\/m=15:=by omega
 have a:i=0\/i=1\/i=2\/i=3:=by omega
 rcases hm with rfl|rfl|rfl|rfl|rfl|rfl|rfl|rfl|rfl|rfl|rfl|rfl|rfl|rfl|rfl|rfl<;>rcases a with rfl|rfl|rfl|rfl<;>exact⟨_,_,λ_=>rfl,λ_=>rfl,by decide⟩
inductive zC(h:AH)(k m:Int)(id:Nat):Nat->List AV->AH->Prop
 |mk {n:Nat} {h':AH} (i:Nat):i+n=4->BD h h' id (ff m i)->zC h k m id n [.ptr (h.nx-1) 0,.ptr id 0,cV bl,I 4,I i] h'
theorem F!{h:AH}(k m:Int)(M:ga k m=true):ab prog 101 [.agg [I k,I m]] h (.str (fF k m)) h:=by
 refine dj (λ_=>.str _) (ail ?_);have ad:=Lh M;have hlen:=z7 k m;rw[kQ]at M;simp only[ck]at M;have c1:(h.add (.cells [I k,I m])).E h.nx=some [I k,I m]:=cas;have fr:=(Fr.refl h).add (.cells [I k,I m]);have n1:(h.add (.cells [I k,I m])).nx=h.nx+1:=by simp
 have af:∀h:AH,kX h (.nB 85 [.dh,.D]) []=some (.ptr h.nx 0,h.add (.typ 171 [.dh,.D])):=λh=>rfl
 simp[YI];generalize h.add (.cells [I k,I m])=hb at*;rw[af];simp[];have b0:=BD.start (Fr.refl hb);generalize hb.add (.typ 171 [.dh,.D])=h1 at*;refine sD (WK trivial) ?_;have aj:∀h:AH,bn h (cV bl)=some (I 4,h):=λh=>rfl
 simp only[lp,iT];rw[aj];simp[];have B:hb.nx-1=h.nx:=by omega
 have q0:=zC.mk (h:=hb) (k:=k) (m:=m) (id:=hb.nx) (n:=4) 0 (by omega) b0;rw[B]at q0;refine⟨zC hb k m hb.nx,4,q0,?_⟩;rintro n K h2 ⟨i,aS,b⟩;rw[B];have c2:h2.E h.nx=some [I k,I m]:=(aV (b.fr.get _ (by omega))).trans c1;have aT:=wG m i;cases n with
 |zero=>
  obtain rfl:i=4:=by omega
  simp[DM,QE,Dl];refine⟨λK N=>K=[.ptr hb.nx 0]/\BD hb N hb.nx (fF k m),?_,?_⟩
  ·by_cases g:k<=23
   ·have a1:1<=k:=by omega
    have G:fF k m=ff m 4++pkN.getD (k.toNat-1) []:=by
     unfold fF eQ;rw[Z g];have:=Z9 (k.toNat-1);rw[show k.toNat-1+1=k.toNat by omega]at this;rw[this]
    rw[G];have al:∀h:AH,aC h 1 (cV pkN) (I (k-1))=some (.ai [.str (pkN.getD (k.toNat-1) [])],h):=λh=>by
     have:=ki h pkN (k.toNat-1) _ (ik (show k.toNat-1<pkN.length by show _<23;omega));rwa [show((k.toNat-1:Nat):Int)=k-1 by omega]at this
    have an:pkN.getD (k.toNat-1) []≠[]/\(pkN.getD (k.toNat-1) []).length<=1000:=by
     have R:=cQ (ik (l:=pkN) (i:=k.toNat-1) (by show _<23;omega));exact(by decide:∀w∈pkN,w≠[]/\w.length<=1000) _ R
    generalize pkN.getD (k.toNat-1) []=W at*;simp[BB,c2,g];refine sD (VD trivial) ?_;generalize cV pkN=PN at*;simp(disch:=first|go_size|fail)[c2,al,Rx];have S:=b.aY (h2:=⟨h2.H,h2.nx+7⟩) (by simp) λ_ _=>rfl
    refine ze W S an.1 (by omega) λU j u=>?_
    exact⟨j,u⟩
   by_cases J:k=32
   ·subst J;simp(disch:=first|go_size|fail)[BB,c2];refine ze jS b (by decide) (by show _+5<=_;omega) λU j u=>?_
    exact u
   have ao:qL k:=⟨by omega,by omega⟩;have G:fF k m=ff m 4++e_ k:=by
    unfold fF eQ;rw[O g,O J]
   have a6:=wx k;have ar:∀h:AH,lg h .i32 (I k)=some (.int .i32 k,h):=λh=>by
    have:IntKind.i32.wrap k=k:=by
     simp only[IntKind.wrap,IntKind.bits,IntKind.signed];simp;omega
    simp[lg,this]
   rw[G];simp[BB,c2,g,J,PV,ar];refine afq k b ao (by omega) λU j u=>?_
   exact u
  rintro K N ⟨rfl,V⟩;simp[RH];refine XG V ad λh4 f4=>?_
  exact⟨rfl,fr.trans f4⟩
 |succ n=>
  have hi:i<4:=by omega
  have av:(i:Int)<4:=by omega
  obtain⟨t,y,s1,s2,s3⟩:=afT M.1 M.2.1 hi;have hx:=ki h2 bl i _ (ik (show i<bl.length by show i<4;omega));have P:ff m (i+1)=ff m i++(if oD m i=true then bl.getD i []++[43]else []):=rfl;have a7:= @KU i;generalize bl.getD i []=W at*;generalize aw:cV bl=MN at*;simp[DM,av];refine⟨λK N=>K=[.ptr h.nx 0,.ptr hb.nx 0,MN,I 4,I i]/\BD hb N hb.nx (ff m (i+1)),?_,?_⟩
  ·have S:=b.aY (h2:=⟨h2.H,h2.nx+6⟩) (by simp) λ_ _=>rfl
   cases c:oD m i with
   |false=>
    have y0:=s3.2 c;rw[P,c];simp(disch:=first|go_size|fail)[Cf,hx,c2,s1,s2,y0];exact S
   |true=>
    have y0:¬y=0:=λe=>by rw[s3.1 e]at c;cases c
    rw[P,c];simp(disch:=first|go_size|fail)[Cf,hx,c2,s1,s2,y0];have k1:=aU (h:=⟨h2.H,h2.nx+6⟩) (a:=W) (b:=[43]) (by simp;omega);simp(disch:=first|go_size|fail)[Rc,k1];refine ze (W++[43]) S (by simp) (by simp;omega) λU j u=>?_
    exact u
  rintro K N ⟨rfl,V⟩;simp(disch:=first|go_size|fail)[O1];refine⟨n,by omega,?_⟩;have q:=zC.mk (h:=hb) (k:=k) (m:=m) (id:=hb.nx) (n:=n) (i+1) (by omega) V;rw[B,aw]at q;exact q
inductive Q66(h:AH)(kk:Nat)(k m:Int):Nat->List AV->AH->Prop
 |zero {h':AH}:Fr h h'->Q66 h kk k m 1 [.D,.rsl kk 0 1 2,I 1,I 0] h'
 |one {h':AH} (lv:AV):ga k m=true->Fr h h'->OL 1 h h' lv 1 [.str (fF k m)]->Q66 h kk k m 0 [lv,.rsl kk 0 1 2,I 1,I 1] h'
theorem B!(b:Nat)(k m:Int)(N:h.E b=some [I k,I m]/\b<h.nx):ab prog 66 [.rsl b 0 1 2] h (.tup [.str (chF k m).1,I (chF k m).2]) h:=by
 obtain⟨P,u⟩:=N;refine dj (λH=>kU (.str _) (.int _ _)) (C66 ?_);simp[g66];refine⟨Q66 h b k m,1,.zero (Fr.refl h),?_⟩;rintro n vs h' R;cases R with
 |zero fr=>
  have y:h'.E b=some [I k,I m]:=by rw[aV (fr.get b u)];exact P
  have B:∀h:AH,aC h 2 (.rsl b 0 1 2) (I 0)=some (.ptr b 0,h):=λh=>gO (i:=0) (by omega) (by omega)
  simp[H6,B,y];have a:Fr h ((h'.add (.cells [I 0,I 0])).set h'.nx (.cells [I k,I m])):=(fr.add _).set (by have:=fr.nx;omega) _;have c3:((h'.add (.cells [I 0,I 0])).set h'.nx (.cells [I k,I m])).E h'.nx=some [I k,I m]:=cse;generalize(h'.add (.cells [I 0,I 0])).set h'.nx (.cells [I k,I m])=S at*;refine sD (D' k m trivial) ?_;cases c:ga k m
  ·simp[Vs,EM];unfold chF;rw[c];exact⟨⟨rfl,rfl⟩,a⟩
  simp[Xc,c3];refine sD (F! k m c) ?_;have G:aQ [AV.str []] [(0,1,.str (fF k m))]=some [.str (fF k m)]:=rfl;obtain⟨V,h4,g,U,W,J⟩:=kt (bytes:=16) (tc:=[.str (fF k m)]) (OL.start 1 h S) a.nx rfl rfl (by omega) (by omega);simp[SY,G];simp[]at g;obtain⟨rfl,rfl⟩:=g;exact .one _ c ⟨by have:=a.nx;omega,λj M=>by rw[J j M];exact a.get j M⟩ U
 |one lv c fr o=>
  have K:WS h' lv [fF k m]:=zd (L:=[fF k m]) o rfl;have hl:=z7 k m;simp[H6,EM];unfold Hz;simp[];refine sD (AR lv [fF k m] ⟨K,by simp[cm,aW];omega,by simp⟩) ?_;unfold chF;rw[c];simp[cm,aW];exact fr
theorem aek(h:AH)(h0 : -9223372036854775808<=n)(h1:n<=9223372036854775807):kUn h .neg (I n)=some (I (ng n),h):=by
 have e:IntKind.i64.wrap (-n)=ng n:=by
  unfold ng;by_cases a:n = -9223372036854775808
  ·subst a;rfl
  rw[O a];simp only[IntKind.wrap,IntKind.bits,IntKind.signed];simp;omega
 simp[kUn,aun,e]
variable {p:Int×Bool}
theorem J0(h:i64 p.1):i64 (dZ p):=by
 obtain⟨n,b⟩:=p;unfold i64 at*;unfold dZ ng;simp only at h ⊢
 (repeat' split)<;>omega
inductive Q71(h:AH)(Y:List AV)(C:AV)(ct:Int)(L:List (Int×Bool)):Nat->List AV->AH->Prop
 |mk {m:Nat} {h':AH} (i:Nat) (lv:AV):i+m=L.length->Fr (h.add (.cells Y)) h'->OL 1 (h.add (.cells Y)) h' lv (i+1) ((ct::(L.take i).map dZ).map λn=>I n)->Q71 h Y C ct L m [.ptr h.nx 0,lv,C,I L.length,I i] h'
theorem ag0{n:Nat}{L:List Int}(o:OL 1 hb h lv n (L.map λn=>I n))(a:n=L.length)(h0:n≠0):NSl h lv L:=by
 rcases o with⟨h1,h2,b⟩|⟨k,h1,h2,b,c,g,j⟩
 ·exact absurd h2 h0
 exact⟨k,by rw[h1,a],g,c⟩
theorem q'{h:AH}(i:Inp)(hg:GJ h)(hx:Sl (rnC i.t) T/\Sl (cbC i.cls) C/\WB8 i):ab prog 71 [.agg (txG i T CT CR C)] h (.str (kG i)) h:=by
 obtain⟨hT,hC,hB⟩:=hx;refine dj (λ_=>.str _) (C71 ?_);have t0:(txG i T CT CR C)[0]?=some (I i.tk):=rfl;have t1:(txG i T CT CR C)[1]?=some T:=rfl;have t12:(txG i T CT CR C)[12]?=some (I i.dE):=rfl;have t13:(txG i T CT CR C)[13]?=some C:=rfl;have K:=Xq hT;have bx:=hB.t;have bY:=hB.nc;have ad:=hB.cl;have av:=hB.ct;have aw:∀h:AH,bn h C=some (I i.cls.length,h):=λh=>by rw[fS hC];simp[cbC]
 have u:=(Fr.refl h).add (.cells (txG i T CT CR C));have af:(h.add (.cells (txG i T CT CR C))).E h.nx=some (txG i T CT CR C):=cas;have aj:(h.add (.cells (txG i T CT CR C))).nx=h.nx+1:=by simp
 unfold kG;generalize txG i T CT CR C=Y at*;generalize bD i.t=S at*;have b0:(wQ S).length<=900000000:=by
  have:=pa S;have:=n8 S;simp only[wQ,aF,au,bz];omega
 have aS:=hg.fr u;by_cases G:i.tk=14
 ·rw[Z G];simp[g71,t0,G];exact⟨rfl,u⟩
 rw[O G];by_cases H:i.tk=17
 ·rw[Z H];simp[g71,t0,H];exact⟨rfl,u⟩
 rw[O H];by_cases J:i.tk=16
 ·rw[Z J];simp[g71,t0,J,t1];generalize h.add (.cells Y)=h1 at*;unfold TH;simp only[y5,sC,IY,agr,adM,abi];rw[K];simp[];refine sD (Az S (by omega)) ?_;have W:=aU (h:=h1) (a:=[99,111,109,109,105,116,32]) (b:=wQ S) (by simp;omega);simp only[cp,cD]at W;simp[W];exact u
 rw[O J];simp[g71,t0,G,H,J,t12];have aT:aQ [I 0] [(0,1,I i.dE)]=some [I i.dE]:=rfl;have al:∀n∈i.dE::i.cls.map dZ,i64 n:=λn hn=>by
  rcases cE.1 hn with rfl|hn
  ·exact av
  obtain⟨p,hp,rfl⟩:=eK.1 hn;exact J0 (ad p hp)
 generalize i.dE=ct at*;generalize i.cls=L at*;generalize y:h.add (.cells Y)=h1 at*;have o0:OL 1 h1 (h1.add (.cells [I ct])) (.rsl h1.nx 0 1 1) 1 [I ct]:=.inr ⟨h1.nx,rfl,by omega,by omega,by simp,cas,rfl⟩;have a1:=(Fr.refl h1).add (.cells [I ct]);rw[aj]at o0;simp[VZ,aT,af,t13,aw,aj];generalize h1.add (.cells [I ct])=h2 at*;refine⟨Q71 h Y C ct L,L.length,?_,?_⟩
 ·exact .mk 0 _ (by omega) (by rw[y];exact a1) (by rw[y];exact o0)
 rintro m vs c ⟨i,lv,b1,fr,o⟩;rw[y]at fr o;have a6:=aS.fr fr;have a7:c.E h.nx=some Y:=(aV (fr.get _ (by omega))).trans af;cases m with
 |zero=>
  obtain rfl:i=L.length:=by omega
  rw[oM]at o;have a8:=ag0 o (by simp) (by omega);have ba:=Ke (ct::L.map dZ) al;have b2:=rN ((ct::L.map dZ).map Lib.itoa);have bp:(de (ct::L.map dZ)).length<=500000000:=by
   unfold de;simp only[aF,kK]at ba;omega
  simp[Gb,Xa,FM,a7,t1];rw[K];simp[];refine sD (Az S (by omega)) ?_;have W:=aU (h:=c) (a:=[117,112,100,97,116,101,32]) (b:=wQ S) (by simp;omega);have kb:=aU (h:=c) (a:=[117,112,100,97,116,101,32]++wQ S) (b:=[32]) (by simp;omega);have kc:=aU (h:=c) (a:=([117,112,100,97,116,101,32]++wQ S)++[32]) (b:=de (ct::L.map dZ)) (by simp;omega);simp only[cp,cD]at W kb kc ⊢;simp[Wv,W,kb];refine sD (qc lv (ct::L.map dZ) a6 ⟨a8,by simp;omega,al⟩) ?_;simp[kc];exact u.trans fr
 |succ m=>
  have hi:i<L.length:=by omega
  have bb:(i:Int)<L.length:=by omega
  have i1:∀h:AH,aC h 2 C (I i)=some (.ai [I L[i].1,.bool L[i].2],h):=λh=>fW hC (by simp[cbC,hi]) rfl
  have U:=ad _ (gG hi);have an:(L.take (i+1)).map dZ=(L.take i).map dZ++[dZ L[i]]:=by rw[rp,bF hi,mr];rfl
  generalize L[i]=p at*;obtain⟨n,P⟩:=p;simp only at i1 U;have ao:=λh=>aek h U.1 U.2
  have B:Fr h1 ((c.add (.cells [I 0,.bool false])).set c.nx (.cells [I n,.bool P])):=(fr.add _).set (by have:=fr.nx;omega) _;have c4:((c.add (.cells [I 0,.bool false])).set c.nx (.cells [I n,.bool P])).E c.nx=some [I n,.bool P]:=cse;have o4:OL 1 h1 ((c.add (.cells [I 0,.bool false])).set c.nx (.cells [I n,.bool P])) lv (i+1) ((ct::(L.take i).map dZ).map λn=>I n):=o.aY (by simp) λj _ hj=>by rw[gsn,gan]
  simp[Gb,bb];obtain⟨R,V⟩:∃R,R=dZ (n,P):=⟨_,rfl⟩;rw[<-V]at an;refine⟨λvs h5=>∃g,vs=[.ptr h.nx 0,g,C,I L.length,I i]/\Fr h1 h5/\OL 1 h1 h5 g (i+1+1) ((ct::(L.take (i+1)).map dZ).map λn=>I n),?_,?_⟩
  ·simp[To,i1];generalize(c.add (.cells [I 0,.bool false])).set c.nx (.cells [I n,.bool P])=h4 at*;have M:aQ [I 0] [(0,1,I R)]=some [I R]:=rfl;obtain⟨g,h6,kk,o6,b3,bd⟩:=kt (bytes:=8) (tc:=[I R]) o4 B.nx rfl rfl (by omega) (by omega);have N:Fr h1 h6:=⟨by have:=B.nx;omega,λj hj=>by rw[bd j hj];exact B.get j hj⟩;have ar:OL 1 h1 h6 g (i+1+1) ((ct::(L.take (i+1)).map dZ).map λn=>I n):=by
    rw[an,<-cp,mr];exact o6
   cases P
   ·have e:R=n:=V;subst e;simp[UG,M];rw[kk];simp[];exact⟨N,by simpa using ar⟩
   have e:R=ng n:=V;rw[<-e]at ao;simp[];unfold Xm;simp only[lp,iT];rw[ao];simp[M];rw[kk];simp(disch:=first|go_size|fail)[];exact⟨N,by simpa using ar⟩
  rintro vs h5 ⟨g,rfl,bk,o5⟩;simp(disch:=first|go_size|fail)[TW];refine⟨m,by omega,.mk (i+1) g (show i+1+m=L.length by omega) (by rw[y];exact bk) (by rw[y];exact o5)⟩
