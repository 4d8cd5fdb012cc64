/- ScriptInputs holds where what it reads is of bulk at most 1048576, in every world that the row allows: the tied card. -/
import Derived.Test.YtndpneieplopaaaGreatDoorStXq
import Derived.Test.YtndpneieplopaaaGreatDoorTie
import Derived.Test.YtndpneieplopaaaGreatDoorCards
import Derived.ShutString
import Derived.ChangeOld
import Derived.Lay
import Derived.Stop.LaidErr
import Derived.SevenTiedAt
import Derived.Deep.DeepHandedRow
set_option linter.unusedSimpArgs false
set_option linter.unusedVariables false
noncomputable section
namespace Go.Proofs.YtndpneieplopaaaGreatDoor
open Go.Eng
open Go.ChangeShapes Go.WideShapes Go.ChangeAt Go.RowKit
set_option linter.unusedVariables false
theorem own:ownKnob Tryz.prog.godebug=none:=by kernel_rfl
theorem P4:laidOutB Tryz.prog=true:=by kernel_rfl
def sU:List (String×DataW Unit):=[("math/bits.deBruijn32tab",Rows.laid_math_bits_deBruijn32tab),("math/bits.deBruijn64tab",Rows.laid_math_bits_deBruijn64tab),("internal/strconv.uint64pow10",Rows.laid_internal_strconv_uint64pow10),("unicode/utf8.acceptRanges",Rows.laid_unicode_utf8_acceptRanges),("strconv.ErrRange",Rows.laid_strconv_ErrRange),("strconv.ErrSyntax",Rows.laid_strconv_ErrSyntax),("unicode/utf8.first",Rows.laid_unicode_utf8_first)]
variable {n:String}{d:DataW Unit}{r:List (String×DataW Unit)}{W:World}{g:Nat}{al:LA}
theorem JI{β:Bl}(h:laidMet Tryz.prog ((n,d)::r) W)(k:Tryz.prog.globalNamed n=some g)(m:mT Tryz.prog 8 ((Tryz.prog.globals[g]?).map (·.type)).get! d=some al):
  ∃cur e o,W.heap[g]?=some (.cells cur e o)/\Go.Eng.RL W.heap (λ_=>False) β al cur.toList:=by
 obtain⟨x,⟨g1,t1,w,f1,p1,q1,c,f,i,j,_,_⟩,_,_⟩:=h;obtain rfl:=j8 (k.symm.trans c);rw[f]at m;have q:=K8 (hp:=W.heap) (L:=λ_=>False) (β:=β) 8 _ _ _ _ _ _ j m;have b:=i;simp only[World.var?,k,Option.bind_some]at b;split at b
 ·rename_i cs e o t;cases b;exact⟨_,_,_,t,q⟩
 cases b
theorem YO : "*" ++ "errors.errorString" = "*errors.errorString":=by decide
theorem S3(u:TypeId)(h:Tryz.prog.typeName? 3 u=some "*errors.errorString"):u=258:=
 typeName_ptr_named (nm:= "errors.errorString") (by rw[YO];kernel_rfl) (by kernel_rfl) (by decide) u (by rw[YO];exact h)
theorem g1n:Tryz.prog.globalNamed "unicode/utf8.first" = some 1:=by kernel_rfl
theorem g2n:Tryz.prog.globalNamed "unicode/utf8.acceptRanges" = some 2:=by kernel_rfl
theorem g3n:Tryz.prog.globalNamed "strconv.ErrSyntax" = some 3:=by kernel_rfl
theorem g4n:Tryz.prog.globalNamed "strconv.ErrRange" = some 4:=by kernel_rfl
theorem g5n:Tryz.prog.globalNamed "internal/strconv.uint64pow10" = some 5:=by kernel_rfl
theorem f1n:mT (H:=Unit) Tryz.prog 8 ((Tryz.prog.globals[1]?).map (·.type)).get! Rows.laid_unicode_utf8_first=some (sj.map (.int .u8)):=by kernel_rfl
theorem f2n:mT (H:=Unit) Tryz.prog 8 ((Tryz.prog.globals[2]?).map (·.type)).get! Rows.laid_unicode_utf8_acceptRanges=some (nk.map (.int .u8)):=by kernel_rfl
theorem f5n:mT (H:=Unit) Tryz.prog 8 ((Tryz.prog.globals[5]?).map (·.type)).get! Rows.laid_internal_strconv_uint64pow10=some (ra.map (.int .u64)):=by kernel_rfl
noncomputable def tG(g:Nat):TypeId:=((Tryz.prog.globals[g]?).map (·.type)).get!
noncomputable def msG(g:Nat):Array (String×TypeId):=match Tryz.prog.underlying (tG g)with
 |some (.interface ms)=>ms
 |_=> #[]
noncomputable def fE:Field:=match Tryz.prog.underlying 260 with
 |some (.struct fs)=>fs[0]!
 |_=>default
variable {a:Addr}{s:ByteArray}{β:Bl}
theorem Vi{i:Nat}(h:Tryz.prog.globalNamed n=some g)(c:W.var? Tryz.prog n=some #[.iface 258 (.pointer (some a))])(j:W.cell? a=some (.string s))(hβ:β i=some (a.block,a.off)):
  ∃cur e f,W.heap[g]?=some (.cells cur e f)/\Go.Eng.RL W.heap (λ_=>False) β [.iface 258 (.ptr i 0)] cur.toList:=by
 simp only[World.var?,h,Option.bind_some]at c;split at c
 ·rename_i cs e f k;cases c;refine⟨_,_,_,k,.cons ?_ .nil⟩;obtain⟨b,o,sp⟩:=a;obtain rfl:sp=none:=World.cell?_spot j;exact .iface _ _ _ (.ptr i 0 b o hβ)
 cases c
variable {v:Value}
theorem Nr(h:W.cell? a=some v):a.block<W.heap.size:=by
 unfold World.cell? at h;split at h
 ·rename_i c t f b;exact gR b
 cases h
theorem adQ(h:laidMetH Tryz.prog sU W):∃s r,s.1<W.heap.size/\r.1<W.heap.size/\Jm W s r:=by
 rw[MakeChecks.laidMetH_plain _ _ _ (by kernel_rfl)]at h;have c:=h.tail.tail;have h2:=c.tail;have i:=h2.tail;have j:=i.tail;have o:=j.tail;obtain⟨a,t,va,k,_,_⟩:=laid_sentinel (ti:=tG 4) (ms:=msG 4) (te:=260) (f:=fE) (ts:=9) i g4n (by kernel_rfl) (by kernel_rfl) S3 (by kernel_rfl) (by kernel_rfl) (by kernel_rfl) (by kernel_rfl) (by kernel_rfl) (by kernel_rfl) (by kernel_rfl);obtain⟨b,w,q,m,_,_⟩:=laid_sentinel (ti:=tG 3) (ms:=msG 3) (te:=260) (f:=fE) (ts:=9) j g3n (by kernel_rfl) (by kernel_rfl) S3 (by kernel_rfl) (by kernel_rfl) (by kernel_rfl) (by kernel_rfl) (by kernel_rfl) (by kernel_rfl) (by kernel_rfl);refine⟨(b.block,b.off),(a.block,a.off),Nr m,Nr k,λg cs hm=>?_⟩;simp only[VG,cE,Prod.mk.injEq,jN,lG]at hm;rcases hm with⟨rfl,rfl⟩|⟨rfl,rfl⟩|⟨rfl,rfl⟩|⟨rfl,rfl⟩|⟨rfl,rfl⟩
 ·exact JI o g1n f1n
 ·exact JI h2 g2n f2n
 ·exact Vi g3n q m rfl
 ·exact Vi g4n va k rfl
 exact JI c g5n f5n
variable {u:Value}{L:List Inp}{l:List Int}
theorem law(h:laidMetH Tryz.prog sU W)(c:∀i∈L,qZ i)(f:mL [.psl (L.map inC)]<=1048576)(j:VR W.heap (λ_=>False) noB (.psl (L.map inC)) v)(k:VR W.heap (λ_=>False) noB (ints l) u):
  Calls Tryz.prog 4 #[v,u] W λe m=>e =.returned (.bool true)/\Below W.heap.size W m:=by
 obtain⟨s,r,o,h2,b⟩:=adQ h;exact aax (aat hV L l ag1 c f) o h2 b (.cons (PR b j (aeJ L)) (.cons (PR b k (adJ l)) .nil))
theorem agZ{H:Type}:zl (H:=H) Rows.uptoBulk Rows.uptoBulkAll where
 str s:=by simp[Rows.uptoBulk]
 lit l:=by cases l<;>simp[Rows.uptoBulk]
 nil:=by simp[Rows.uptoBulk]
 sl e r:=by simp[Rows.uptoBulk]
 agg p:=by simp[Rows.uptoBulk]
 nilA:=by simp[Rows.uptoBulkAll]
 cons d r:=by simp[Rows.uptoBulkAll]
variable {H:Type}{p:List MemPlace}
theorem abr{b:TypeId×Value->H}{d:DataW H}(h:DataW.Trod b Tryz.prog W 0 (λ_=>true) true 25 v d p)(j:∃a l c,v =.slice a l c):
  ∃L:List Inp,(∀i∈L,qZ i)/\mL [.psl (L.map inC)]<=Rows.uptoBulk d/\VR W.heap (λ_=>False) noB (.psl (L.map inC)) v:=by
 obtain⟨a,l,c,rfl⟩:=j;obtain⟨fuel,k⟩:=h;obtain⟨s,hs,f⟩:=afi fuel;obtain⟨m,o,h2,q⟩:=KW (L:=λ_=>False) agZ (λ_ h=>h) fuel (fuel+8) (by omega) 25 s _ _ hs k;obtain⟨L,rfl,t⟩:=f m o;exact⟨L,t,q,h2.2 0 _ _ rfl (by simp[Value.cells])⟩
variable {e:List SHr}
theorem XS(b:e=[.int .i64]):∀ {l:List (LA)},(∀x∈l,b_ x e)->∃L:List Int,l=L.map λx=>[I x]
 |[],_=>⟨[],rfl⟩
 |x::l,h=>by
  obtain⟨L,rfl⟩:=XS b (l:=l) λy f=>h y (by simp[f])
  have c:=h x (by simp);rw[b]at c;obtain⟨n,r,rfl,_,h2⟩:=dI c;rw[r9 h2];exact⟨n::L,rfl⟩
theorem s22(m:Nat):dD Tryz.prog (m+2) 22=some [.sl [.int .i64]]:=by
 have b:=s3 m;unfold dD;rw[Tryz.underlying22];simp[b,c3]
theorem aaa{b:TypeId×Value->H}{d:DataW H}(h:DataW.Trod b Tryz.prog W 0 (λ_=>true) true 22 v d p)(f:∃a l c,v =.slice a l c):∃L,VR W.heap (λ_=>False) noB (ints L) v:=by
 obtain⟨a,l,c,rfl⟩:=f;obtain⟨fuel,i⟩:=h;obtain⟨o,j,h2⟩:=KJ (L:=λ_=>False) (λ_ h=>h) fuel (fuel+2) (by omega) 22 _ _ _ (s22 fuel) i;obtain⟨xs,r,rfl,_,k,m⟩:=sO j;rw[r9 m]at h2;obtain⟨L,rfl⟩:=XS rfl k;exact⟨L,h2.2 0 _ _ rfl (by simp[Value.cells])⟩
set_option maxRecDepth 100000 in
theorem abA(H:Type)(f:TypeId×Value->H)(W:World)(w:Nat)(b:Array Value)(y J:List (DataW H))(i:List MemPlace)
  (c:∀(j:Nat) t v,Tryz.f4.params[j]?=some t->b[j]?=some v->Value.okWide Tryz.prog W .any w t v)
  (K:DataW.Whole f Tryz.prog Tryz.f4.params.toList Rows.scriptInputsSpec.vars false W b.toList y J i) (P:Rows.uptoSmall H (y++J)=true) (Q:laidMetH Tryz.prog sU W):
  Calls Tryz.prog 4 b W λe M=>∃v,e =.returned v/\Rows.scriptInputsSpec.post f Tryz.prog Tryz.f4 false true false false W b v M:=by
 have B:=K;obtain⟨p,q,o,hV,rfl,_,_⟩:=K;have N:DataW.TrodAll f Tryz.prog W 0 (λ_=>true) true Tryz.f4.params.toList b.toList y p:=o;rw[Tryz.params4]at N c;obtain⟨v0,U,d0,V,p0,q0,G,rfl,rfl,z,r0⟩:=trodAll_cons N;obtain⟨v1,ad,d1,af,p1,q1,rfl,rfl,rfl,A,r1⟩:=trodAll_cons r0;obtain⟨rfl,rfl,rfl⟩:=trodAll_nil r1;obtain⟨rfl,rfl⟩:=trodVars_none hV;obtain rfl:b = #[v0,v1]:=by cases b;simp_all
 have lt:∀ {t:TypeId} {v:Value} {d:DataW H} {p:List MemPlace},DataW.Trod f Tryz.prog W 0 (λ_=>true) true t v d p->∀x∈p,x.block<W.heap.size:=fun⟨m,hm⟩=>DataW.trod_lt m _ _ _ hm
 obtain⟨L,R,hm,S⟩:=abr z (okWide_slice (e:=48) Tryz.underlying25 (c 0 25 v0 rfl rfl));obtain⟨l,hu⟩:=aaa A (okWide_slice (e:=3) Tryz.underlying22 (c 1 22 v1 rfl rfl));have T:Rows.uptoBulkAll ([d0,d1]++[])<=1048576:=zQ P;have C:mL [.psl (L.map inC)]<=1048576:=by
  simp only[cp,cD,Rows.uptoBulkAll]at T;omega
 clear o;refine(law Q R C S hu).mono λe M ⟨he,k⟩=>?_
 subst he;exact⟨_,rfl,_,_,_,[],_,[],B,trodAll_mk1 (shut_bool Tryz.underlying4 _),(trodAll_cons_mk (Below.trod P4 (by kernel_rfl) (zQ (by kernel_rfl)) z k (lt z)) (trodAll_cons_mk (Below.trod P4 (by kernel_rfl) (zQ (by kernel_rfl)) A k (lt A)) trodAll_mk0)),rfl,k.frame _,λh=>by cases h⟩
theorem okI(b:Os):Input.okWideB Tryz.prog ((World.laidAll Tryz.prog b sU).forCall (λ_ _=>0) ⟨#[], #[.slice none 0 0,.slice none 0 0],[]⟩) 4 ⟨#[], #[.slice none 0 0,.slice none 0 0],[]⟩=true:=by kernel_rfl
theorem aer(c:Os)(b:TypeId×Value->H):∃places,DataW.whole b Tryz.prog (((World.laidAll Tryz.prog c sU)).forCall (λ_ _=>0) ⟨#[], #[.slice none 0 0,.slice none 0 0],[]⟩).memory Tryz.f4.params.toList Rows.scriptInputsSpec.vars false #[Value.slice none 0 0,.slice none 0 0].toList 8=some ([.nil,.nil],[],places):=
 ⟨[],by kernel_rfl⟩
set_option maxRecDepth 100000 in
theorem ad7(h:Os)(b:h.Started)(H:Type)(c:TypeId×Value->H)(F:Stop.Interp):
  ReturnsInHanded {} Tryz.checked h 4 .any ((Rows.OpenSpec.upto Rows.scriptInputsSpec).preRow c Tryz.prog Tryz.f4 Rows.scriptInputsUptoRow.domain false Rows.scriptInputsUptoRow.laid) (((Rows.OpenSpec.upto Rows.scriptInputsSpec).at F).post c Tryz.prog Tryz.f4 false true false false):=by
 obtain⟨places,j⟩:=aer h c;refine returnsInHanded_of_row (C:=Tryz.checked) (s:=Rows.OpenSpec.upto Rows.scriptInputsSpec) own b (by kernel_rfl) Tryz.func4
  ⟨World.laidAll Tryz.prog h sU,λ_ _=>0,⟨#[], #[.slice none 0 0,.slice none 0 0],[]⟩,World.laidAll_os _ _ _,World.shaped_of_ZipB (by kernel_rfl) (by kernel_rfl),(Input.okWide_of_okWideB (base:=0) (okI h)).1,(Input.okWide_of_okWideB (okI h)).2,
   OpenSpec.preRow_of_cond 8 j (by kernel_rfl) (λk m=>by cases m;kernel_rfl) (by kernel_rfl) (by rw[MakeChecks.laidMetH_plain _ _ _ (by kernel_rfl)];exact laidMet_laidAll _ (by kernel_rfl) (by kernel_rfl)),by
   simp only[Assume.holds];exact⟨by simp,by simp,λ_=>Modest.zero,by simp,by simp⟩⟩ ?_
 intro W base args o gs before i q _ f _ t _ _;exact abA H c W base args o gs before i q (f _ rfl) t
theorem aiD:Rows.ScriptInputsUptoSaid:=
 OpenClaim.holds_of_cond 4 Tryz.f4 rfl rfl rfl rfl rfl rfl rfl ⟨rfl,rfl,rfl,rfl,rfl⟩ rfl rfl rfl rfl rfl (by kernel_rfl) Tryz.func4 (by kernel_rfl)
  (zQ (by kernel_rfl)) (by unfold Func.isWrapper;first|(rw[Z (by decide +kernel)];kernel_rfl)|(rw[O (by decide +kernel)];exact⟨rfl,rfl⟩))
  (λos started H enc _ F=>by rw[OpenClaim.pre_eq_preRow];exact ad7 os started H enc F)
theorem scriptInputs_proved:Rows.ScriptInputsUptoCardSaid:=
 Claim7.holds_tied_plain_at .later [] [.data,.data,.data,.data,.sentinel,.sentinel,.pinned] true (true, "1634e7c201b6555a02db3d98668e3da92c8f1215a22ed4f79945d3288704b5e7") true
  aiD (λ_ h=>by cases h) (by kernel_rfl) (λ_ h=>by cases h) scriptInputsUpto_row_tie rfl ⟨rfl,rfl⟩ (by kernel_rfl) rfl
  (λf fn i c=>by
   obtain rfl:f=4:=j8 ((show Tryz.prog.funcNamed "widgetry/widgetrylaw45.ScriptInputs" = some 4 by kernel_rfl).symm.trans i) |>.symm
   obtain rfl:fn=Tryz.f4:=(j8 (Tryz.func4.symm.trans c)).symm;exact⟨by kernel_rfl,λj t k=>by
    have b:(Tryz.f4.params.toList.all λu=> !Tryz.prog.wantsStandIn u)=true:=by kernel_rfl
    have hm:t∈Tryz.f4.params.toList:=by simpa using Array.mem_of_getElem? k
    exact(show Tryz.prog.wantsStandIn t=false by simpa using fi.1 b t hm)⟩)
  (by kernel_rfl)
#print axioms scriptInputs_proved
