/- The law ScriptBack answers true whatever the text and the list of numbers, under the conditions of the tied card: the variables of the library read as the card says. -/
import Derived.Test.YtndpneieplopaaaGreatDoorStVo
import Derived.Test.YtndpneieplopaaaGreatDoorTie
import Derived.Test.YtndpneieplopaaaGreatDoorCards
import Derived.ShutString
import Derived.ChangeOld
import Derived.Lay
import Derived.Stop.LaidErr
import Derived.SevenTiedAt
set_option linter.unusedSimpArgs false
set_option linter.unusedVariables false
noncomputable section
namespace Go.Proofs.YtndpneieplopaaaGreatDoor
open Go.Eng
open Go.ChangeShapes Go.WideShapes Go.ChangeAt Go.RowKit
set_option linter.unusedVariables false
theorem own:ownKnob Tryz.prog.godebug=none:=by kernel_rfl
theorem Mn:laidOutB Tryz.prog=true:=by kernel_rfl
def zc:List (String×DataW Unit):=[("math/bits.deBruijn32tab",Rows.laid_math_bits_deBruijn32tab),("math/bits.deBruijn64tab",Rows.laid_math_bits_deBruijn64tab),("internal/strconv.uint64pow10",Rows.laid_internal_strconv_uint64pow10),("unicode/utf8.acceptRanges",Rows.laid_unicode_utf8_acceptRanges),("strconv.ErrRange",Rows.laid_strconv_ErrRange),("strconv.ErrSyntax",Rows.laid_strconv_ErrSyntax),("unicode/utf8.first",Rows.laid_unicode_utf8_first)]
theorem oW{n:String}{d:DataW Unit}{r:List (String×DataW Unit)}{W:World}{g:Nat}{al:LA}{β:Bl}(h:laidMet Tryz.prog ((n,d)::r) W)(hg:Tryz.prog.globalNamed n=some g)(hf:oJ Tryz.prog 8 ((Tryz.prog.globals[g]?).map (·.type)).get! d=some al):
  ∃cur e fz,W.heap[g]?=some (.cells cur e fz)/\Go.Eng.RL W.heap (λ_=>False) β al cur.toList:=by
 obtain⟨ps,⟨g1,t1,cs1,f1,p1,q1,hg1,ht1,hv1,hd1,_,_⟩,_,_⟩:=h;obtain rfl:=anW (hg.symm.trans hg1);rw[ht1]at hf;have hR:=wu (hp:=W.heap) (L:=λ_=>False) (β:=β) 8 _ _ _ _ _ _ hd1 hf;have hv:=hv1;simp only[World.var?,hg,Option.bind_some]at hv;split at hv
 ·rename_i cs e fz hb;cases hv;exact⟨_,_,_,hb,hR⟩
 ·cases hv
theorem aeA : "*" ++ "errors.errorString" = "*errors.errorString":=by decide
theorem TQ(u:TypeId)(h:Tryz.prog.typeName? 3 u=some "*errors.errorString"):u=258:=
 typeName_ptr_named (nm:= "errors.errorString") (by rw[aeA];kernel_rfl) (by kernel_rfl) (by decide) u (by rw[aeA];exact h)
theorem g1n:Tryz.prog.globalNamed "unicode/utf8.first" = some 1:=by kernel_rfl
theorem g2n:Tryz.prog.globalNamed "unicode/utf8.acceptRanges" = some 2:=by kernel_rfl
theorem g3n:Tryz.prog.globalNamed "strconv.ErrSyntax" = some 3:=by kernel_rfl
theorem g4n:Tryz.prog.globalNamed "strconv.ErrRange" = some 4:=by kernel_rfl
theorem g5n:Tryz.prog.globalNamed "internal/strconv.uint64pow10" = some 5:=by kernel_rfl
theorem f1n:oJ (H:=Unit) Tryz.prog 8 ((Tryz.prog.globals[1]?).map (·.type)).get! Rows.laid_unicode_utf8_first=some (qC.map (.int .u8)):=by kernel_rfl
theorem f2n:oJ (H:=Unit) Tryz.prog 8 ((Tryz.prog.globals[2]?).map (·.type)).get! Rows.laid_unicode_utf8_acceptRanges=some (yh.map (.int .u8)):=by kernel_rfl
theorem f5n:oJ (H:=Unit) Tryz.prog 8 ((Tryz.prog.globals[5]?).map (·.type)).get! Rows.laid_internal_strconv_uint64pow10=some (IV.map (.int .u64)):=by kernel_rfl
noncomputable def tG(g:Nat):TypeId:=((Tryz.prog.globals[g]?).map (·.type)).get!
noncomputable def msG(g:Nat):Array (String×TypeId):=match Tryz.prog.underlying (tG g)with
 |some (.interface ms)=>ms
 |_=> #[]
noncomputable def fE:Field:=match Tryz.prog.underlying 260 with
 |some (.struct fs)=>fs[0]!
 |_=>default
theorem Ou{n:String}{W:World}{g i:Nat}{a:Addr}{s:ByteArray}{β:Bl}(hg:Tryz.prog.globalNamed n=some g)(hv:W.var? Tryz.prog n=some #[.iface 258 (.pointer (some a))])(hc:W.cell? a=some (.string s))(hβ:β i=some (a.block,a.off)):
  ∃cur e fz,W.heap[g]?=some (.cells cur e fz)/\Go.Eng.RL W.heap (λ_=>False) β [.iface 258 (.ptr i 0)] cur.toList:=by
 simp only[World.var?,hg,Option.bind_some]at hv;split at hv
 ·rename_i cs e fz hb;cases hv;refine⟨_,_,_,hb,.cons ?_ .nil⟩;obtain⟨b,o,sp⟩:=a;obtain rfl:sp=none:=World.cell?_spot hc;exact .iface _ _ _ (.ptr i 0 b o hβ)
 ·cases hv
theorem Ec{W:World}{a:Addr}{v:Value}(h:W.cell? a=some v):a.block<W.heap.size:=by
 unfold World.cell? at h;split at h
 ·rename_i c t f hb;exact gg hb
 ·cases h
theorem W6{W:World}(h:laidMetH Tryz.prog zc W):∃s r,s.1<W.heap.size/\r.1<W.heap.size/\aa2 W s r:=by
 rw[MakeChecks.laidMetH_plain _ _ _ (by kernel_rfl)]at h;have h5:=h.tail.tail;have h2:=h5.tail;have h4:=h2.tail;have h3:=h4.tail;have h1:=h3.tail;obtain⟨a,sa,va,ca,_,_⟩:=laid_sentinel (ti:=tG 4) (ms:=msG 4) (te:=260) (f:=fE) (ts:=9) h4 g4n (by kernel_rfl) (by kernel_rfl) TQ (by kernel_rfl) (by kernel_rfl) (by kernel_rfl) (by kernel_rfl) (by kernel_rfl) (by kernel_rfl) (by kernel_rfl);obtain⟨b,sb,vb,cb,_,_⟩:=laid_sentinel (ti:=tG 3) (ms:=msG 3) (te:=260) (f:=fE) (ts:=9) h3 g3n (by kernel_rfl) (by kernel_rfl) TQ (by kernel_rfl) (by kernel_rfl) (by kernel_rfl) (by kernel_rfl) (by kernel_rfl) (by kernel_rfl) (by kernel_rfl);refine⟨(b.block,b.off),(a.block,a.off),Ec cb,Ec ca,λg cs hm=>?_⟩;simp only[VG,anT,Prod.mk.injEq,aoc,or_false]at hm;rcases hm with⟨rfl,rfl⟩|⟨rfl,rfl⟩|⟨rfl,rfl⟩|⟨rfl,rfl⟩|⟨rfl,rfl⟩
 ·exact oW h1 g1n f1n
 ·exact oW h2 g2n f2n
 ·exact Ou g3n vb cb rfl
 ·exact Ou g4n va ca rfl
 ·exact oW h5 g5n f5n
theorem Mi:∀ {l:List (LA)},(∀x∈l,il x [.int .i64])->∃L:List Int,l=L.map λx=>[I x]
 |[],_=>⟨[],rfl⟩
 |x::l,h=>by
  obtain⟨L,rfl⟩:=Mi (l:=l) λy hy=>h y (by simp[hy])
  have h1:=h x (by simp);cases h1 with
  |cons a _ ar _ ha hs=>
  cases hs;cases ha;exact⟨_::L,rfl⟩
theorem law{t:ByteArray}{v:Value}{L:List Int}{W:World}(h:laidMetH Tryz.prog zc W)(hv:VR W.heap (λ_=>False) noB (jO L) v):
  Calls Tryz.prog 5 #[.string t,v] W λe W'=>e =.returned (.bool true)/\Below W.heap.size W W':=by
 obtain⟨s,r,h1,h2,hb⟩:=W6 h;refine Oy (azl hV t.data.toList L aev) h1 h2 hb (.cons ?_ (.cons (Nd hb hv) .nil));have:t=⟨t.data.toList.toArray⟩:=by cases t;simp
 conv=>arg 5;rw[this]
 exact .str _
theorem ML{W:World}{H:Type}{enc:TypeId×Value->H}{t:TypeId}{v:Value}{d:DataW H}{p:List MemPlace}(h:DataW.Trod enc Tryz.prog W 0 (λ_=>true) true t v d p)(hv:∃a l c,v =.slice a l c)(hs:Ds Tryz.prog 8 t=some [.sl [.int .i64]]:=by kernel_rfl):∃L,VR W.heap (λ_=>False) noB (jO L) v:=by
 obtain⟨a,l,c,rfl⟩:=hv;obtain⟨fuel,hf⟩:=h;obtain⟨xa,h1,h2⟩:=Cv (L:=λ_=>False) (λ_ h=>h) fuel 8 t _ _ _ hs hf;cases h1 with
 |cons x _ ar _ hx hr=>
 cases hr;cases hx with
 |sl xs e hl hx=>
 obtain⟨L,rfl⟩:=Mi hx;exact⟨L,h2.2 0 _ _ rfl (by simp[Value.cells])⟩
set_option maxRecDepth 100000 in
theorem Zv(os:Os)(started:os.Started)(H:Type)(enc:TypeId×Value->H):
  ReturnsInHanded {} Tryz.checked os 5 .any (λw args=>(Rows.scriptBackSpec.pre enc Tryz.prog Tryz.f5 [] false w args/\laidMetH Tryz.prog zc w)/\sizedMet enc Tryz.prog Tryz.f5 (OpenSpec.ofChange Rows.scriptBackSpec) false w args)
   (Rows.scriptBackSpec.post enc Tryz.prog Tryz.f5 false true false false):=by
 refine returnsInHanded_of_change_and (C:=Tryz.checked) (X:=λw _=>laidMetH Tryz.prog zc w) (λ_ _ _ hh h=>h.of_heap hh) own started (by kernel_rfl) Tryz.func5
  (ChangeSpec.witness_shaped (enc:=enc) (C:=Tryz.checked) (os:=os) (X:=λw _=>laidMetH Tryz.prog zc w) false (World.laidAll Tryz.prog os zc) #[.string ⟨#[]⟩,.slice none 0 0] 8 (World.laidAll_os _ _ _)
   (World.shaped_of_ZipB (by kernel_rfl) (by kernel_rfl)) (by kernel_rfl) (by kernel_rfl) (by kernel_rfl)
   (by rw[MakeChecks.laidMetH_plain _ _ _ (by kernel_rfl)];exact laidMet_laidAll _ (by kernel_rfl) (by kernel_rfl))) ?_
 intro W base args ds gs before YV hW _ _ hL _;have UZ:∀(j:Nat) t v,Tryz.f5.params[j]?=some t->args[j]?=some v->Value.okWide Tryz.prog W .any base t v:=YV;have hW':=hW;obtain⟨p,q,hA0,hV,rfl,_,_⟩:=hW;have hA:DataW.TrodAll enc Tryz.prog W 0 (λ_=>true) true Tryz.f5.params.toList args.toList ds p:=hA0;rw[Tryz.params5]at hA UZ;obtain⟨v0,vs0,d0,ds0,p0,q0,zI,rfl,rfl,h0,r0⟩:=trodAll_cons hA;obtain⟨v1,vs1,d1,ds1,p1,q1,rfl,rfl,rfl,h1,r1⟩:=trodAll_cons r0;obtain⟨rfl,rfl,rfl⟩:=trodAll_nil r1;obtain⟨rfl,rfl⟩:=trodVars_none hV;obtain rfl:args = #[v0,v1]:=by cases args;simp_all
 have lt:∀ {t:TypeId} {v:Value} {d:DataW H} {p:List MemPlace},DataW.Trod enc Tryz.prog W 0 (λ_=>true) true t v d p->∀x∈p,x.block<W.heap.size:=fun⟨m,hm⟩=>DataW.trod_lt m _ _ _ hm
 obtain⟨s,rfl⟩:=okWide_string (by kernel_rfl) (UZ 0 _ v0 rfl rfl);obtain⟨L,rv⟩:=ML h1 (okWide_slice (e:=3) (by kernel_rfl) (UZ 1 _ v1 rfl rfl));clear hA0 YV;refine(law hL rv).mono λe W' ⟨he,bel⟩=>?_
 subst he;exact⟨_,rfl,_,_,_,[],_,[],hW',trodAll_mk1 (shut_bool Tryz.underlying4 _),(trodAll_cons_mk (Below.trod Mn (by kernel_rfl) (of_decide_eq_true (by kernel_rfl)) h0 bel (lt h0)) (trodAll_cons_mk (Below.trod Mn (by kernel_rfl) (of_decide_eq_true (by kernel_rfl)) h1 bel (lt h1)) trodAll_mk0)),rfl,bel.frame _,λh=>by cases h⟩
theorem aqG:Rows.ScriptBackSaid:=
 OpenClaim.holds_of_wide 5 Tryz.f5 rfl rfl rfl rfl rfl rfl rfl ⟨rfl,rfl,rfl,rfl,rfl⟩ rfl rfl rfl rfl rfl (by kernel_rfl) Tryz.func5 (by kernel_rfl)
  (of_decide_eq_true (by kernel_rfl)) (by unfold Func.isWrapper;first|(rw[am1 (by decide +kernel)];kernel_rfl)|(rw[amU (by decide +kernel)];exact⟨rfl,rfl⟩))
  (λos started H enc _=>Zv os started H enc)
theorem scriptBack_proved:Rows.ScriptBackCardSaid:=
 Claim7.holds_tied_plain_at .later [] [.data,.data,.data,.data,.sentinel,.sentinel,.pinned] true (true, "1634e7c201b6555a02db3d98668e3da92c8f1215a22ed4f79945d3288704b5e7") true
  aqG (λ_ h=>by cases h) (by kernel_rfl) (λ_ h=>by cases h) scriptBack_row_tie rfl ⟨rfl,rfl⟩ (by kernel_rfl) rfl
  (λf fn hf hfn=>by
   obtain rfl:f=5:=anW ((show Tryz.prog.funcNamed "widgetry/widgetrylaw45.ScriptBack" = some 5 by kernel_rfl).symm.trans hf) |>.symm
   obtain rfl:fn=Tryz.f5:=(anW (Tryz.func5.symm.trans hfn)).symm;exact⟨by kernel_rfl,λj t ht=>by
    have eQ:(Tryz.f5.params.toList.all λu=> !Tryz.prog.wantsStandIn u)=true:=by kernel_rfl
    have hm:t∈Tryz.f5.params.toList:=by simpa using Array.mem_of_getElem? ht
    exact(show Tryz.prog.wantsStandIn t=false by simpa using anK.1 eQ t hm)⟩)
  (by kernel_rfl)
#print axioms scriptBack_proved
