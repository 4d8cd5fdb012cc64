/- Functions of the program, as plain transformers of predicates; printed by a program of ours. -/
import Derived.Test.YtndpneieplopaaaGreatDoorStFw
import Derived.Lib.MapLaws
import Derived.Lib.ValidLaws
set_option linter.unusedSimpArgs false
set_option linter.unusedVariables false
noncomputable section
namespace Go.Proofs.YtndpneieplopaaaGreatDoor
open Go.Eng Tryz Tryz
set_option maxRecDepth 100000
section
variable (d m l c e f g:AV)(h:AH)(Q:QT)(k:NT)
def F3(l i:AV)(h:AH)(Q:QT):=(MvY .n i λl _=>Q l) h
def GB:=(LdY (.a c) e λf _=>FaY 0 (.a c) (NcY (.a c) (MvY (.a c) d)) λj _=>PkY .n c (ArY .lss (.a c) f (LsY (.a c) (LdY (.a c) j))) yf λi _=>(F3 l i · Q)) h
def g94:=(wdR 17 λr=>FaY 3 .n (NcY .n (MvY .n d)) λq _=>wSy (MvY .n (LdY .n q)) λc=>FaY 1 (.a c) (NcY (.a c) (MvY (.a c) d)) λe _=>(GB d (.bool false) c e · Q)) h
def Dh:=(FaY 1 (.b c) (NcY (.b c) (MvY (.b c) d)) λj _=>PkY .n c yt (ArY .neq (.b c) (IsY (.b c) f (LdY (.b c) j)) (MvY (.b c) m)) λg _=>k [d,g]) h
def R0:=(wdR 16 λr=>wSy (MvY .n (UnY .not .n (CaY 94 [MvY .n d]))) λc=>FaY 0 (.b c) (NcY (.b c) (MvY (.b c) d)) λe _=>LdY (.b c) e λf _=>(Dh d m c f · k)) h
def Dd:=(wI g (St 1 (Fa 3 (Nc d)) xf λ_=>Q (.tup [])) (Ar .add (Ld (Fa 1 (Nc d))) (xi 1) λo=>Fa 1 (Nc d) λp=>St 1 p o λ_=>Q (.tup []))) h
def YC:=(wJ (R0 d m) (nJ2 Dd Q)) h
end
section
variable {a:AV}{h:AH}{Q:QT}
theorem C94(G:g94 a h Q):ah prog 94 [a] h Q:=ax [] func94 G
end
theorem ahR{v0 v1 h Q}(G:YC v0 v1 h Q):ah prog 126 [v0,v1] h Q:=ax [(0,.jn [0,19])] func126 G
section
variable (x:AX)(c i f j l d m o g p e q s t u v w y:AV)(h:AH)(Q:QT)(k:NT)(K:KT)
def g95:=(wI (Ld (Fa 2 (Nc c))) (St 1 (Fa 2 (Nc c)) xf λ_=>Q (.tup [])) (Ca 126 [c,xn .u8 32] λR=>Q (.tup []))) h
def wT:=(FaY 1 (.b e) s λz _=>PkY .n g (PkY (.a g) e yt (ArY .neq (.b e) (IsY (.b e) q (LdY (.b e) z)) (yn .u8 93))) yf λt _=>k [c,i,f,t]) h
def wW:=(wSy (MvY (.a g) (UnY .not (.a g) p)) λe=>FaY 0 (.b e) (NcY (.b e) (MvY (.b e) c)) λA _=>LdY (.b e) A λq _=>NcY (.b e) (MvY (.b e) c) λs _=>(wT c i f g e q s · k)) h
def w9:=(FaY 1 (.a d) (NcY (.a d) o) λB _=>wSy (MvY .n (PkY .n d (ArY .neq (.a d) (IsY (.a d) m (LdY (.a d) B)) (yn .u8 32)) yf)) λg=>MvY (.a g) i λp _=>(wW c i f g p · k)) h
def Cr:=(wSy (MvY .n (ArY .lss .n j (LsY .n l))) λd=>FaY 0 (.a d) (NcY (.a d) (MvY (.a d) c)) λC _=>LdY (.a d) C λm _=>MvY (.a d) c λo _=>(w9 c i f d m o · k)) h
def BQ:=(wdR 38 λr=>FaY 1 .n (NcY .n (MvY .n c)) λH _=>LdY .n H λj _=>FaY 0 .n (NcY .n (MvY .n c)) λJ _=>LdY .n J λl _=>(Cr c i f j l · k)) h
def CP:=(wI t (Ar .add (Ld (Fa 1 (Nc c))) (xi 1) λL=>Fa 1 (Nc c) λM=>St 1 M L λ_=>K .nrm [c,i,f] [c,f]) (K (.exit 0) [c,i,f] [c,f])) h
def Ps:=(wJ (BQ c i f) (nJ4 CP K)) h
def Cy:=(wI u (St 1 (Fa 3 (Nc c)) xf λ_=>k [c,f]) (k [c,f])) h
def Rv:=(LdY .n y λN _=>MvY .n (SsY (some w) (some N) .n v) λS _=>Q S) h
def Qh:=(wdR 11 λr=>FaY 0 .n (NcY .n (MvY .n c)) λP _=>LdY .n P λv _=>MvY .n f λw _=>FaY 1 .n (NcY .n (MvY .n c)) λy _=>(Rv v w y · Q)) h
def CW:=(Ar .eql f (Ld (Fa 1 (Nc c))) λu=>wJ (Cy c f u) (nJ2 Qh Q)) h
def Sk:=(wX x ((CW c f · Q)) [(0,(CW c f · Q))] (Q .undef)) h
def YU:=(Ld (Fa 1 (Nc c)) λT=>wL (nL3 Ps) [c,i,T] (nX2 Sk Q)) h
end
section
variable {a:AV}{h:AH}{Q:QT}
theorem C95(G:g95 a h Q):ah prog 95 [a] h Q:=ax [] func95 G
end
theorem ahH{v0 v1 h Q}(G:YU v0 v1 h Q):ah prog 122 [v0,v1] h Q:=ax [(3,.l [0,1,5] [0,5]),(4,.jn [0,1,5,47]),(9,.jn [0,5])] func122 G
section
variable (x:AX)(a t u z j w g f l m d c o b:AV)(h:AH)(Q:QT)(k:NT)(K:KT)(J:JT)
def g91:=(Ca 95 [a] λj=>Ca 122 [a,xf] λA=>Q A) h
def yD:=(wI (Ar .lss f g) (wI (Ar .eql t (Ld (Ix 1 a f))) (K .ret [a,t,g,f] [f]) (Ar .add f (xi 1) λc=>K .nrm [a,t,g,c] [.undef])) (K (.exit 0) [a,t,g,f] [.undef])) h
def ES:=(Q (I (-1))) h
def GO:=(wX x ((ES · Q)) [(0,(ES · Q))] (Q j)) h
def g90:=(Le a λg=>wL (nL4 yD) [a,t,g,I 0] (nX1 GO Q)) h
def EP:=(St 1 b c λ_=>k [w]) h
def Ft:=(wS (Ld (Fa 3 (Nc a))) λd=>Pk d (ArG true d .geq (qm true d w) (xi 0)) xf λc=>Fa 3 (Nc a) λb=>(EP w c b · k)) h
def Vp:=(Q w) h
def g56:=(Ca 90 [t,Ca 91 [a]] λi=>wJ (Ft a i) (nJ1 Vp Q)) h
def uI:=(wS o λb=>wS (Pk b (ArG true b .geq (qm true b j) (xi (-1099511627776))) xf) λp=>Pk p (ArG true p .leq (qm true p j) (xi 1099511627776)) xf λy=>Q (.tup [l,y])) h
def yy:=(Ex 0 f λi=>Ex 1 f λq=>wS (o0 (λh=>kX h (.nz false) [q])) λe=>Pk e (ArG true e .eql (Cg true e 99 [(qm true e i)]) (qm true e a)) xf λo=>(uI i i o · Q)) h
def g92:=(Ca 123 [a] λf=>(yy a f · Q)) h
def Ie:=(wS (Ld (Fa 3 (Nc a))) λv=>Pk v (qm true v j) xf λc=>Fa 3 (Nc a) λb=>St 1 b c λ_=>k [z]) h
def WG:=(Q z) h
def Vl:=(Ex 0 f λi=>Ex 1 f λq=>wJ (Ie a i q) (nJ1 WG Q)) h
def WT:=(Ca 92 [g] λf=>(Vl a f · Q)) h
def g58:=(Ca 91 [a] λg=>(WT a g · Q)) h
def xe:=(IsY .n d b λs _=>wI (Ar .eql s (xn .u8 92)) (J .ret [a,.int .u8 92]) (wI (Ar .eql s (xn .u8 34)) (J .ret [a,.int .u8 34]) (wI (Ar .eql s (xn .u8 110)) (J .ret [a,.int .u8 10]) (J .nrm [a,u])))) h
def QN:=(FaY 0 .n (NcY .n m) λe _=>LdY .n e λd _=>FaY 1 .n (NcY .n (MvY .n a)) λc _=>ArY .sub .n (LdY .n c) (yi 1) λb _=>(xe a u d b · J)) h
def B9:=(wI j (Ar .add (Ld (Fa 1 (Nc a))) (xi 1) λi=>Fa 1 (Nc a) λl=>St 1 l i λ_=>wdR 10 λr=>MvY .n a λm _=>(QN a u m · J)) (J .nrm [a,u])) h
def BH:=(wX x (St 1 (Fa 3 (Nc a)) xf λ_=>Q (.int .u8 0)) [] (Q u)) h
def YP:=(Ca 94 [a] λj=>wJx (B9 a (.int .u8 0) j) (nX2 BH Q)) h
end
section
variable {a b:AV}{h:AH}{Q:QT}
theorem C91(G:g91 a h Q):ah prog 91 [a] h Q:=ax [] func91 G
theorem C90(G:g90 a b h Q):ah prog 90 [a,b] h Q:=ax [(3,.l [0,1,7,8] [4])] func90 G
theorem C56(G:g56 a b h Q):ah prog 56 [a,b] h Q:=ax [(2,.jn [5])] func56 G
theorem C92(G:g92 a h Q):ah prog 92 [a] h Q:=ax [] func92 G
theorem C58(G:g58 a h Q):ah prog 58 [a] h Q:=ax [(2,.jn [3])] func58 G
end
theorem aik{v0 h Q}(G:YP v0 h Q):ah prog 129 [v0] h Q:=ax [(2,.j [0,2])] func129 G
section
variable (a b p c d e f g i j l:AV)(h:AH)(Q:QT)
def acB(a b m:AV)(h:AH)(Q:QT):=(IxY 1 .n (MvY .n a) (yi 3) λq _=>MvY .n (ArY .or .n m (ArY .shl .n (CvY .u64 .n (LdY .n q)) (yn .u64 24))) λb _=>Q b) h
def ads:=(ArY .or .n p (ArY .shl .n c (yn .u64 8)) λs _=>IxY 1 .n (MvY .n a) (yi 2) λt _=>ArY .or .n s (ArY .shl .n (CvY .u64 .n (LdY .n t)) (yn .u64 16)) λm _=>(acB a b m · Q)) h
def O8(a b o:AV)(h:AH)(Q:QT):=(IxY 1 .n (MvY .n a) (yi 7) λu _=>MvY .n (ArY .or .n o (ArY .shl .n (CvY .u64 .n (LdY .n u)) (yn .u64 56))) λb _=>Q b) h
def Qe:=(ArY .or .n j (ArY .shl .n l (yn .u64 40)) λv _=>IxY 1 .n (MvY .n a) (yi 6) λw _=>ArY .or .n v (ArY .shl .n (CvY .u64 .n (LdY .n w)) (yn .u64 48)) λo _=>(O8 a b o · Q)) h
def QA:=(ArY .or .n g (ArY .shl .n (CvY .u64 .n (LdY .n i)) (yn .u64 32)) λj _=>IxY 1 .n (MvY .n a) (yi 5) λx _=>CvY .u64 .n (LdY .n x) λl _=>(Qe a b j l · Q)) h
def Ov:=(IxY 1 .n (MvY .n a) (yi 3) λy _=>ArY .or .n f (ArY .shl .n (CvY .u64 .n (LdY .n y)) (yn .u64 24)) λg _=>IxY 1 .n (MvY .n a) (yi 4) λi _=>(QA a b g i · Q)) h
def P2:=(ArY .or .n d (ArY .shl .n e (yn .u64 8)) λz _=>IxY 1 .n (MvY .n a) (yi 2) λA _=>ArY .or .n z (ArY .shl .n (CvY .u64 .n (LdY .n A)) (yn .u64 16)) λf _=>(Ov a b f · Q)) h
def Y1:=(wI xf (wdR 23 λr=>IxY 1 .n (MvY .n a) (yi 0) λH _=>CvY .u64 .n (LdY .n H) λp _=>IxY 1 .n (MvY .n a) (yi 1) λJ _=>CvY .u64 .n (LdY .n J) λc _=>(ads a (.int .u64 0) p c · Q)) (wdR 47 λr=>IxY 1 .n (MvY .n a) (yi 0) λB _=>CvY .u64 .n (LdY .n B) λd _=>IxY 1 .n (MvY .n a) (yi 1) λC _=>CvY .u64 .n (LdY .n C) λe _=>(P2 a (.int .u64 0) d e · Q))) h
end
theorem ah7{v0 h Q}(G:Y1 v0 h Q):ah prog 151 [v0] h Q:=ax [] func151 G
section
variable (x:AX)(c v2 v4 v W l v39 v41 v46 d v54 v56 v58 v61 v64 v69 v76 v82 q v91 v92 s v98 w y z e A B f C H m J L g M N i P R o S j p T U:AV)(h:AH)(Q:QT)(k:NT)(K:KT)
def BG:=(wS (Ar .gtr (Le c) (xi 8)) λV=>Pk V (ArG true V .eql (ArG true V .and (Cg true V 151 [(qm true V c)]) (xn .u64 9259542123273814144)) (xn .u64 0)) xf λW=>k [c,W]) h
def CE:=(PkY .n l (ArY .eql (.a l) (ArY .and (.a l) (ArY .or (.a l) v39 (CgY true l 151 [v41])) (yn .u64 9259542123273814144)) (yn .u64 0)) yf λv46 _=>k [c,v46]) h
def Bk:=(wdR 13 λr=>wSy (MvY .n (ArY .gtr .n (LeY .n (MvY .n c)) (yi 16))) λl=>CgY true l 151 [(MvY (.a l) c)] λv39 _=>vf 1 (some (I 8)) none none (.a l) (MvY (.a l) c) λv41 _=>(CE c l v39 v41 · k)) h
def Di:=(PkY .n d (ArY .eql (.a d) (ArY .and (.a d) (ArY .or (.a d) v58 (ArY .or (.a d) v61 v64)) (yn .u64 9259542123273814144)) (yn .u64 0)) yf λv69 _=>k [c,v69]) h
def Dx:=(ArY .or (.a d) v54 (CgY true d 151 [v56]) λv58 _=>CgY true d 151 [(vf 1 (some (I 16)) none none (.a d) (MvY (.a d) c))] λv61 _=>CgY true d 151 [(vf 1 (some (I 24)) none none (.a d) (MvY (.a d) c))] λv64 _=>(Di c d v58 v61 v64 · k)) h
def Ba:=(wdR 21 λr=>wSy (MvY .n (ArY .gtr .n (LeY .n (MvY .n c)) (yi 32))) λd=>CgY true d 151 [(MvY (.a d) c)] λv54 _=>vf 1 (some (I 8)) none none (.a d) (MvY (.a d) c) λv56 _=>(Dx c d v54 v56 · k)) h
def Cm:=(wI v69 (Sli 1 (some (I 32)) none none c λv71=>K .nrm [v71] [v71]) (K (.exit 2) [c] [c])) h
def QY:=(wJ (Ba c) (nJ2 Cm K)) h
def B8:=(k [c]) h
def Sy:=(wX x ((B8 c · k)) [(2,(B8 c · k))] (wF)) h
def Dk:=(wI v46 (Sli 1 (some (I 16)) none none c λv48=>wL (nL1 QY) [v48] (nX1 Sy k)) (k [c])) h
def Bj:=(wI W (Sli 1 (some (I 8)) none none c λv33=>wJ (Bk v33) (nJ2 Dk k)) (k [c])) h
def Oh:=(K .nrm [c] [.undef]) h
def N3:=(wJ (Bj c W) (nJ1 Oh K)) h
def xh:=(PkY .n s yt (ArY .lss (.b s) v98 (LdY (.b s) w)) λy _=>k [c,y]) h
def AZ:=(wSy (MvY .n (PkY .n q yt (ArY .lss (.b q) v91 (LdY (.b q) v92)))) λs=>FaY 1 (.b s) v λv97 _=>LdY (.b s) v97 λv98 _=>IxY 1 (.b s) (MvY (.b s) c) (yi 1) λw _=>(xh c s v98 w · k)) h
def AP:=(wdR 19 λr=>wSy (MvY .n (ArY .lss .n (LeY .n (MvY .n c)) (yi 2))) λq=>IxY 1 (.b q) (MvY (.b q) c) (yi 1) λv90 _=>LdY (.b q) v90 λv91 _=>FaY 0 (.b q) v λv92 _=>(AZ c v q v91 v92 · k)) h
def Ks:=(wI y (K .ret [c] [.bool false]) (Sli 1 (some (I 2)) none none c λv105=>K .nrm [v105] [.undef])) h
def rX:=(wSy (MvY .n (PkY .n m yt J)) λt=>IxY 1 (.b t) (MvY (.b t) c) (yi 2) λv135 _=>PkY .n t yt (ArY .lss (.b t) (yn .u8 191) (LdY (.b t) v135)) λL _=>k [c,L]) h
def rQ:=(wSy (MvY .n (PkY .n f yt (ArY .lss (.b f) C (LdY (.b f) H)))) λm=>IxY 1 (.b m) (MvY (.b m) c) (yi 2) λv129 _=>ArY .lss (.b m) (LdY (.b m) v129) (yn .u8 128) λJ _=>(rX c m J · k)) h
def Bv:=(wSy (MvY .n (PkY .n e yt (ArY .lss (.b e) A (LdY (.b e) B)))) λf=>FaY 1 (.b f) v λv120 _=>LdY (.b f) v120 λC _=>IxY 1 (.b f) (MvY (.b f) c) (yi 1) λH _=>(rQ c f C H · k)) h
def Au:=(wdR 31 λr=>wSy (MvY .n (ArY .lss .n (LeY .n (MvY .n c)) (yi 3))) λe=>IxY 1 (.b e) (MvY (.b e) c) (yi 1) λv113 _=>LdY (.b e) v113 λA _=>FaY 0 (.b e) v λB _=>(Bv c v e A B · k)) h
def KM:=(wI L (K .ret [c] [.bool false]) (Sli 1 (some (I 3)) none none c λv140=>K .nrm [v140] [.undef])) h
def pj:=(PkY .n p yt (ArY .lss (.b p) (yn .u8 191) (LdY (.b p) T)) λU _=>k [c,U]) h
def oZ:=(wS j λj=>IxY 1 (.b j) (MvY (.b j) c) (yi 3) λv176 _=>wSy (MvY .n (PkY .n j yt (ArY .lss (.b j) (LdY (.b j) v176) (yn .u8 128)))) λp=>IxY 1 (.b p) (MvY (.b p) c) (yi 3) λT _=>(pj c p T · k)) h
def rO:=(wSy (MvY .n (PkY .n o yt S)) λu=>IxY 1 (.b u) (MvY (.b u) c) (yi 2) λv170 _=>MvY .n (PkY .n u yt (ArY .lss (.b u) (yn .u8 191) (LdY (.b u) v170))) λj _=>(oZ c j · k)) h
def ur:=(wSy (MvY .n (PkY .n i yt (ArY .lss (.b i) P (LdY (.b i) R)))) λo=>IxY 1 (.b o) (MvY (.b o) c) (yi 2) λv164 _=>ArY .lss (.b o) (LdY (.b o) v164) (yn .u8 128) λS _=>(rO c o S · k)) h
def AJ:=(wSy (MvY .n (PkY .n g yt (ArY .lss (.b g) M (LdY (.b g) N)))) λi=>FaY 1 (.b i) v λv155 _=>LdY (.b i) v155 λP _=>IxY 1 (.b i) (MvY (.b i) c) (yi 1) λR _=>(ur c i P R · k)) h
def Ax:=(wdR 43 λr=>wSy (MvY .n (ArY .lss .n (LeY .n (MvY .n c)) (yi 4))) λg=>IxY 1 (.b g) (MvY (.b g) c) (yi 1) λv148 _=>LdY (.b g) v148 λM _=>FaY 0 (.b g) v λN _=>(AJ c v g M N · k)) h
def K9:=(wI U (K .ret [c] [.bool false]) (Sli 1 (some (I 4)) none none c λv187=>K .nrm [v187] [.undef])) h
def AL:=(wI z (wJ (Au c v) (nJ2 KM K)) (wI (Ar .eql v82 (xi 4)) (wJ (Ax c v) (nJ2 K9 K)) (K .ret [c] [.bool false]))) h
def Kx:=(Cv .i64 v76 λv77=>Ln 2 (Ir 16 2 (AV.c_ 2 0) (Ar .shr v4 (xn .u64 4))) λv81=>Nw [.int .u8 0,.int .u8 0] λv=>St 2 v v81 λ_=>wI (Ar .eql v77 (xi 2)) (wJ (AP c v) (nJ2 Ks K)) (Ar .eql v77 (xi 3) λz=>(AL c v v77 z · K))) h
def wB:=(wI (Ar .gtr (Le c) (xi 0)) (Ld (Ix 1 c (xi 0)) λv18=>wI (Ar .lss v18 (xn .u8 128)) (Sli 1 (some (I 1)) none none c λv22=>wJ (BG v22) (nJ2 N3 K)) (Ld (Ir 256 1 (AV.c_ 1 0) v18) λv74=>Ar .and v74 (xn .u8 7) λv76=>(Kx c v74 v76 · K))) (K (.exit 0) [c] [.undef])) h
def AI:=(Q (.bool true)) h
def AG:=(wX x ((AI · Q)) [(0,(AI · Q))] (Q v2)) h
def I5:=(Le c λv9=>Le c λv11=>Sli 1 none (some v9) (some v11) c λv12=>wL (nL1 wB) [v12] (nX1 AG Q)) h
end
theorem ahA{v0 h Q}(G:I5 v0 h Q):ah prog 130 [v0] h Q:=ax [(3,.l [0] [2]),(11,.jn [0,31]),(12,.jn [0]),(14,.jn [0,46]),(18,.l [0] [0]),(19,.jn [0,69]),(30,.jn [0,103]),(36,.jn [0,138]),(42,.jn [0,185])] func130 G
section
variable (x:AX)(c1 c5 c6:Rec)(b g f c e y v7 j d z i A q B l C m t s o H u J p:AV)(h:AH)(Q:QT)(k:NT)(K:KT)
def Hc:=(FaY 1 (.a j) (NcY (.a j) i) λq _=>PkY .n j (ArY .neq (.a j) (IsY (.a j) z (LdY (.a j) q)) (yn .u8 34)) yf λB _=>k [b,f,B]) h
def Tj:=(wdR 14 λr=>wSy (MvY .n (CaY 94 [MvY .n b])) λj=>FaY 0 (.a j) (NcY (.a j) (MvY (.a j) b)) λP _=>LdY (.a j) P λz _=>MvY (.a j) b λi _=>(Hc b f j z i · k)) h
def Ha:=(wI H (Ca 129 [b] λR=>k [b,f,R]) (k [b,f,c])) h
def Wf:=(Ap 1 1 f (Bs 1 1 [.int .u8 0] [(0,1,c)]) λN=>K .nrm [b,N] [b,N]) h
def UI:=(St 1 o s λ_=>Ar .eql c (xn .u8 92) λH=>wJ (Ha b f c H) (nJ3 Wf K)) h
def Xj:=(MvY .n (IsY .n C t) λc _=>Ar .add (Ld (Fa 1 (Nc b))) (xi 1) λs=>Fa 1 (Nc b) λo=>(UI b f c s o · K)) h
def HE:=(wI B (wdR 10 λr=>FaY 0 .n (NcY .n (MvY .n b)) λS _=>LdY .n S λC _=>FaY 1 .n (NcY .n (MvY .n b)) λv _=>LdY .n v λt _=>(Xj b f C t · K)) (K (.exit 0) [b,f] [b,f])) h
def Tc:=(wJ (Tj b f) (nJ3 HE K)) h
def FY:=(St 1 p J λ_=>k [f]) h
def Hx:=(wS (Ld (Fa 3 (Nc b))) λL=>Pk L (Cg true L 130 [(qm true L f)]) xf λJ=>Fa 3 (Nc b) λp=>(FY f J p · k)) h
def US:=(o0 (λh=>kX h .b2s [f]) λM=>Q M) h
def Ij:=(Ca 126 [b,xn .u8 34] λv46=>wJ (Hx b f) (nJ1 US Q)) h
def Xd:=(wX x ((Ij b f · Q)) [(0,(Ij b f · Q))] (Q .undef)) h
def g98:=(Ca 126 [b,xn .u8 34] λy=>wL (nL2 Tc) [b,.D] (nX2 Xd Q)) h
def g62:=(Ca 95 [b] λc=>Ca 98 [b] λy=>Q y) h
def E3:=(wS (Un .not j) λd=>Pk d xt (ArG false d .gtr (qm false d g) (xi 16)) λi=>k [b,g,c,i]) h
def V3:=(Ca 94 [b] λj=>(E3 b g c j · k)) h
def F1:=(wS (Ld (Fa 3 (Nc b))) λp=>Pk p (qm true p v7) xf λM=>Fa 3 (Nc b) λT=>St 1 T M λ_=>k [c,y]) h
def Xo:=(St 4 c (Bd [I 0,I 0,.str [],.D] [(0,1,I 1),(1,1,y)]) λ_=>wV [.cell c (some 4)] Q) h
def Ue:=(Ex 0 u λU=>Ex 1 u λV=>wJ (F1 b c U V) (nJ2 Xo Q)) h
def yT:=(IsY .n l m λv _=>wI (Ar .eql v (xn .u8 34)) (Ca 98 [b] λW=>St 4 c (Bd [I 0,I 0,.str [],.D] [(0,1,I 3),(2,1,W)]) λ_=>wV [.cell c (some 4)] Q) (wI (Ar .eql v (xn .u8 91)) (St 4 c (Ca 127 [b,g]) λ_=>wV [.cell c (some 4)] Q) (Ca 122 [b,xt] λw=>wI (Ar .eql w (xs' [116,114,117,101])) (St 4 c (Bd [I 0,I 0,.str [],.D] [(0,1,I 2),(1,1,I 1)]) λ_=>wV [.cell c (some 4)] Q) (wI (Ar .eql w (xs' [102,97,108,115,101])) (St 4 c (Bd [I 0,I 0,.str [],.D] [(0,1,I 2)]) λ_=>wV [.cell c (some 4)] Q) (Ca 92 [w] λu=>(Ue b c u · Q)))))) h
def xC:=(wI i (St 1 (Fa 3 (Nc b)) xf λ_=>St 4 c (Bd [I 0,I 0,.str [],.D] []) λ_=>wV [.cell c (some 4)] Q) (wdR 9 λr=>FaY 0 .n (NcY .n (MvY .n b)) λv21 _=>LdY .n v21 λl _=>FaY 1 .n (NcY .n (MvY .n b)) λv25 _=>LdY .n v25 λm _=>(yT b g c l m · Q))) h
def g96:=(Nw [I 0,I 0,.str [],.D] λc=>wJ (V3 b g c) (nJ4 xC Q)) h
def DT:=(FaY 1 (.a d) (NcY (.a d) q) λv18 _=>PkY .n d (ArY .neq (.a d) (IsY (.a d) A (LdY (.a d) v18)) (yn .u8 93)) yf λl _=>k [b,g,c,e,l]) h
def Q_:=(wdR 14 λr=>wSy (MvY .n (CaY 94 [MvY .n b])) λd=>FaY 0 (.a d) (NcY (.a d) (MvY (.a d) b)) λi _=>LdY (.a d) i λA _=>MvY (.a d) b λq _=>(DT b g c e d A q · k)) h
def Cq:=(wI m (Ca 126 [b,xn .u8 32] λt=>k [b,g,c,e]) (k [b,g,c,e])) h
def QL:=(StE 1 (FaY 3 .n e) o λ_ _ h=>(wK c1 c5 <| wK c1 c6 <| K .nrm [b,g,c,e] [b,c,e]) h) h
def SE:=(wdR 10 λr=>FaY 3 .n e λv29 _=>LdY .n v29 λv30 c1=>CaY 96 [MvY .n b,ArY .add .n (MvY .n g) (yi 1)] λs c5=>wdA (r+6) (ij 4 1 [I 0,I 0,.str [],.D] [(0,4,s)]) λv35 c6=>ApE 4 56 v30 v35 λo _ h=>((QL c1 c5 c6 b g c e o · K)) h) h
def BT:=(wI l (Ar .gtr (Le (Ld (Fa 3 e))) (xi 0) λm=>wJ (Cq b g c e m) (nJ4 SE K)) (K (.exit 0) [b,g,c,e] [b,c,e])) h
def Rf:=(wJ (Q_ b g c e) (nJ5 BT K)) h
def Dz:=(Ca 126 [b,xn .u8 93] λw=>St 4 c (Ln 4 e) λ_=>wV [.cell c (some 4)] Q) h
def Ru:=(wX x ((Dz b c e · Q)) [(0,(Dz b c e · Q))] (wV [.cell c (some 4)] Q)) h
def YZ:=(Nw [I 0,I 0,.str [],.D] λc=>Bd [I 0,I 0,.str [],.D] [(0,1,I 4)] λy=>Nw [I 0,I 0,.str [],.D] λe=>St 4 e y λ_=>Ca 126 [b,xn .u8 91] λv8=>wL (nL4 Rf) [b,g,c,e] (nX3 Ru Q)) h
end
section
variable {a b:AV}{h:AH}{Q:QT}
theorem C98(G:g98 a h Q):ah prog 98 [a] h Q:=ax [(4,.l [0,3] [0,3]),(5,.jn [0,3,20]),(11,.jn [0,3,4]),(15,.jn [3])] func98 G
theorem C62(G:g62 a h Q):ah prog 62 [a] h Q:=ax [] func62 G
theorem C96(G:g96 a b h Q):ah prog 96 [a,b] h Q:=ax [(1,.jn [0,1,4,14]),(23,.jn [4,6])] func96 G
end
theorem ahp{v0 v1 h Q}(G:YZ v0 v1 h Q):ah prog 127 [v0,v1] h Q:=ax [(4,.l [0,1,4,5] [0,4,5]),(5,.jn [0,1,4,5,22]),(9,.jn [0,1,4,5])] func127 G
section
variable (x:AX)(b c a o v m f j p q d e g l r s:AV)(h:AH)(Q:QT)(k:NT)(K:KT)
def EC:=(St 1 (Fa 3 g) e λ_=>k [b,a,o]) h
def Hm:=(wS (Ld (Fa 3 (Nc b))) λi=>Pk i (ArG true i .eql (Cg true i 97 [(LnG true i 4 o)]) (xi 0)) xf λe=>Nc b λg=>(EC b a o e g · k)) h
def Ux:=(Ln 4 o λt=>Ap 4 56 a (Bs 4 1 [I 0,I 0,.str [],.D] [(0,4,t)]) λn=>K .nrm [b,n] [n]) h
def SP:=(wI (Ca 94 [b]) (Ca 95 [b] λM=>Ca 96 [b,xi 0] λw=>Nw [I 0,I 0,.str [],.D] λo=>St 4 o w λ_=>wJ (Hm b a o) (nJ3 Ux K)) (K (.exit 0) [b,a] [a])) h
def F7:=(Q a) h
def Vg:=(wX x ((F7 a · Q)) [(0,(F7 a · Q))] (Q .undef)) h
def g60:=(wL (nL2 SP) [b,.D] (nX1 Vg Q)) h
def TB:=(o0 (λh=>kX h .s2r [q]) λi=>Fa 1 a λd=>St 1 d i λ_=>k [c,a]) h
def WA:=(Ap 2 16 r (Bs 2 1 [I 0,.bool false] [(0,2,s)]) λy=>Fa 13 a λz=>St 1 z y λ_=>K .nrm [b,c,a] [c,a]) h
def UW:=(wI (Ca 94 [b]) (Ca 58 [b] λu=>Ld (Fa 13 a) λr=>Mm true u (Un .neg u) λA=>Ar .lss u (xi 0) λB=>Bd [I 0,.bool false] [(0,1,A),(1,1,B)] λs=>(WA b c a r s · K)) (K (.exit 1) [b,c,a] [c,a])) h
def E9:=(k [c,a]) h
def TV:=(wX x ((E9 c a · k)) [(1,(E9 c a · k)),(0,k [c,a])] (wF)) h
def TO:=(o0 (λh=>kX h .s2r [g]) λl=>Fa 1 a λC=>St 1 C l λ_=>Ca 58 [b] λH=>Fa 12 a λn=>St 1 n H λ_=>wL (nL3 UW) [b,c,a] (nX2 TV k)) h
def xT:=(wI (Ar .eql f (xi 16)) (Ca 62 [b] λq=>(TB c a q · k)) (wI (Ar .eql f (xi 15)) (Ca 62 [b] λg=>(TO b c a g · k)) (k [c,a]))) h
def W4:=(St 15 c (Ln 15 a) λ_=>wV [.cell c (some 15)] Q) h
def T5:=(Ar .add (xi 14) v λM=>Bd [I 0,.D,.D,.D,I 0,I 0,.bool false,I 0,I 0,I 0,I 0,I 0,I 0,.D,I 0] [(0,1,M)] λm=>Nw [I 0,.D,.D,.D,I 0,I 0,.bool false,I 0,I 0,I 0,I 0,I 0,I 0,.D,I 0] λa=>St 15 a m λ_=>Ld (Fa 0 a) λf=>wJ (xT b c a f) (nJ2 W4 Q)) h
def g63:=(Nw [I 0,.D,.D,.D,I 0,I 0,.bool false,I 0,I 0,I 0,I 0,I 0,I 0,.D,I 0] λc=>Ca 56 [b,Bs 1 4 [.str [],.str [],.str [],.str []] [(0,1,.str [98,101,103,105,110]),(1,1,.str [117,112,100,97,116,101]),(2,1,.str [99,111,109,109,105,116]),(3,1,.str [99,97,110,99,101,108])]] λv=>(T5 b c v · Q)) h
def r5:=(Pk d (PkG true d e xt l) xf λt=>Q t) h
def rV:=(wS (Pk m (PkG true m j xt (ArG false j .gtr p (xi 57343))) xf) λd=>ArG true d .lss (qm true d b) (xi 65) λJ=>wS (qm true d J) λe=>ArG false e .gtr (qm false e b) (xi 90) λl=>(r5 d e l · Q)) h
def qX:=(wS (Ar .geq b (xi 32)) λL=>wS (Pk L (ArG true L .leq (qm true L b) (xi 1114111)) xf) λm=>ArG true m .lss (qm true m b) (xi 55296) λf=>wS (qm true m f) λj=>qm false j b λp=>(rV b m j p · Q)) h
end
section
variable {a:AV}{h:AH}{Q:QT}
theorem C60(G:g60 a h Q):ah prog 60 [a] h Q:=ax [(3,.l [0,3] [3]),(9,.jn [0,3,4])] func60 G
theorem C63(G:g63 a h Q):ah prog 63 [a] h Q:=ax [(3,.jn [2,3]),(12,.l [0,2,3] [2,3])] func63 G
end
theorem ah4{v0 h Q}(G:qX v0 h Q):ah prog 132 [v0] h Q:=ax [] func132 G
def Yr(h:AH)(Q:QT):=(Bs 1 4 [.str [],.str [],.str [],.str []] [(0,1,.str [99,116,114,108]),(1,1,.str [97,108,116]),(2,1,.str [115,104,105,102,116]),(3,1,.str [109,101,116,97])] λv1=>Q v1) h
theorem ain{h Q}(G:Yr h Q):ah prog 133 [] h Q:=ax [] func133 G
def YE(h:AH)(Q:QT):=(Bs 1 23 [.str [],.str [],.str [],.str [],.str [],.str [],.str [],.str [],.str [],.str [],.str [],.str [],.str [],.str [],.str [],.str [],.str [],.str [],.str [],.str [],.str [],.str [],.str []] [(0,1,.str [116,97,98]),(1,1,.str [101,110,116,101,114]),(2,1,.str [101,115,99,97,112,101]),(3,1,.str [98,97,99,107,115,112,97,99,101]),(4,1,.str [100,101,108,101,116,101]),(5,1,.str [108,101,102,116]),(6,1,.str [114,105,103,104,116]),(7,1,.str [117,112]),(8,1,.str [100,111,119,110]),(9,1,.str [104,111,109,101]),(10,1,.str [101,110,100]),(11,1,.str [102,49]),(12,1,.str [102,50]),(13,1,.str [102,51]),(14,1,.str [102,52]),(15,1,.str [102,53]),(16,1,.str [102,54]),(17,1,.str [102,55]),(18,1,.str [102,56]),(19,1,.str [102,57]),(20,1,.str [102,49,48]),(21,1,.str [102,49,49]),(22,1,.str [102,49,50])] λv1=>Q v1) h
theorem ahs{h Q}(G:YE h Q):ah prog 134 [] h Q:=ax [] func134 G
section
variable (x:AX)(f a b S g m c d e o q s t p i j l u v:AV)(h:AH)(Q:QT)(k:NT)(K:KT)
def Q6:=(StE 1 s q λ_ _ h=>(k [f,a,b,c,d,e]) h) h
def BO:=(Ex 0 o λA=>wI (Ex 1 o) (wdR 7 λr=>FaY 1 .n b λB _=>ArY .or .n (LdY .n B) (ArY .shl .n (yi 1) (MvY .n S)) λq _=>FaY 1 .n b λs _=>(Q6 A a b c d e q s · k)) (k [f,a,b,c,d,e])) h
def Q9:=(Ca 147 [f,Ar .add (Ld (Ix 1 c e)) (xs' [43])] λo=>(BO f a b e c d e o · k)) h
def O4:=(Ar .add e (xi 1) λC=>K .nrm [f,a,b,c,d,C] [f,a,b]) h
def Cj:=(wI (Ar .lss e d) (wJ (Q9 f a b c d e) (nJ6 O4 K)) (K (.exit 0) [f,a,b,c,d,e] [f,a,b])) h
def rP:=(Pk l xt (UnG false l .not (Cg false l 132 [(CvG false l .i64 u)])) λv=>k [a,b,g,v]) h
def rT:=(wS j λj=>wS (Pk i xt (PkG false i j (ArG true j .eql (qm true j m) (xi 1)) xf)) λw=>wS (Pk w xt (ArG false w .eql (qm false w g) (xn .i32 32))) λl=>qm false l g λu=>(rP a b g l u · k)) h
def rU:=(wS (Ar .neq m (Ls f)) λy=>wS (Pk y xt (ArG false y .eql (qm false y m) (xi 0))) λi=>ArG false i .eql (qm false i g) (xn .i32 65533) λH=>qm false i H λj=>(rT a b g m i j · k)) h
def DN:=(wI v (St 2 a (Bd [I 0,I 0] []) λ_=>wV [.cell a (some 2),.val (.bool false)] Q) (Cv .i64 g λJ=>Fa 0 b λL=>St 1 L J λ_=>St 2 a (Ln 2 b) λ_=>wV [.cell a (some 2),.val (.bool true)] Q)) h
def Ou:=(Ex 0 p λM=>Ex 1 p λN=>wJ (rU f a b M N) (nJ4 DN Q)) h
def PB:=(Ca 90 [t,f] λz=>wI (Ar .geq z (xi 0)) (Ar .add (xi 1) z λP=>Fa 0 b λR=>St 1 R P λ_=>St 2 a (Ln 2 b) λ_=>wV [.cell a (some 2),.val (.bool true)] Q) (wI (Ar .eql f (xs' [115,112,97,99,101])) (St 1 (Fa 0 b) (xi 32) λ_=>St 2 a (Ln 2 b) λ_=>wV [.cell a (some 2),.val (.bool true)] Q) (Ca 148 [f] λp=>(Ou f a b p · Q)))) h
def Cz:=(Ca 134 [] λt=>(PB f a b t · Q)) h
def QJ:=(wX x ((Cz f a b · Q)) [(0,(Cz f a b · Q))] (wV [.cell a (some 2),.val .undef] Q)) h
def YV:=(Nw [I 0,I 0] λa=>Nw [I 0,I 0] λb=>Ca 133 [] λc=>Le c λd=>wL (nL6 Cj) [f,a,b,c,d,I 0] (nX3 QJ Q)) h
end
theorem ahz{v0 h Q}(G:YV v0 h Q):ah prog 125 [v0] h Q:=ax [(4,.l [0,2,4,12,13,14] [0,2,4]),(7,.jn [0,2,4,12,13,14]),(25,.jn [2,4,10,78])] func125 G
section
variable (x:AX)(e m d v3 b c T v7 v8 v12 f j q i v17 v19 v20 s t y w U o z V v40 W v63 v72 v78 v83 v89 v90 A v94 v95 v97 v99 v104 v105 B C H J L p u v M N P g R:AV)(h:AH)(Q:QT)(k:NT)(K:KT)
def U2:=(Ar .add q (xi 1) λo=>K .nrm [U,f,j,o] [.undef,.undef,U]) h
def Gl:=(Ex 0 s λl=>Ex 1 s λv23=>Nw [I 0,I 0] λv7=>St 2 v7 l λ_=>wI (Un .not v23) (K .ret [b,f,j,q] [.D,I 3,b]) (Ln 2 v7 λy=>Ap 2 16 b (Bs 2 1 [I 0,I 0] [(0,2,y)]) λU=>(U2 f j q U · K))) h
def EY:=(wI (Ar .lss q j) (Ca 125 [Ld (Ix 1 f q)] λs=>(Gl b f j q s · K)) (K (.exit 0) [b,f,j,q] [.undef,.undef,b])) h
def Hv:=(wI (Ar .gtr (Le b) (xi 3)) (Q (.tup [.D,I 2])) (Q (.tup [b,I 0]))) h
def GA:=(wX x ((Hv b · Q)) [(0,(Hv b · Q))] (Q (.tup [d,v3]))) h
def g93:=(wI (Ar .gtr (Ls e) (xi 100)) (Q (.tup [.D,I 2])) (Ca 124 [e,xs' [32]] λf=>Le f λj=>wL (nL4 EY) [.D,f,j,I 0] (nX3 GA Q))) h
def yU:=(wS (Ar .neq b (xi 0)) λf=>Pk f xt (ArG false f .neq (LeG false f (qm false f v3)) (xi 1)) λv17=>k [e,d,v3,v17]) h
def Hk:=(wI v17 (St 1 (Fa 3 (Nc e)) xf λ_=>St 2 d (Bd [I 0,I 0] []) λ_=>wV [.cell d (some 2)] Q) (St 2 d (Ln 2 (Ix 2 v3 (xi 0))) λ_=>wV [.cell d (some 2)] Q)) h
def UC:=(Ex 0 v8 λv9=>Ex 1 v8 λv10=>wJ (yU e d v9 v10) (nJ4 Hk Q)) h
def VN:=(Ca 93 [v7] λv8=>(UC e d v8 · Q)) h
def g59:=(Nw [I 0,I 0] λd=>Ca 91 [e] λv7=>(VN e d v7 · Q)) h
def g57:=(Bs 1 6 [.str [],.str [],.str [],.str [],.str [],.str []] [(0,1,.str [100,111,119,110]),(1,1,.str [109,111,118,101]),(2,1,.str [117,112]),(3,1,.str [99,97,110,99,101,108]),(4,1,.str [116,105,99,107]),(5,1,.str [119,104,101,101,108])] λm=>Q m) h
def g61:=(Bs 1 9 [.str [],.str [],.str [],.str [],.str [],.str [],.str [],.str [],.str []] [(0,1,.str [112,114,101,115,115]),(1,1,.str [102,111,99,117,115]),(2,1,.str [105,110,99,114,101,97,115,101]),(3,1,.str [100,101,99,114,101,97,115,101]),(4,1,.str [115,101,116,116,101,120,116]),(5,1,.str [115,101,108,101,99,116]),(6,1,.str [115,99,114,111,108,108,117,112]),(7,1,.str [115,99,114,111,108,108,100,111,119,110]),(8,1,.str [100,105,115,109,105,115,115])] λm=>Q m) h
def Wb:=(St 1 v40 o λ_=>St 1 (Fa 4 (Fa 1 c)) z λ_=>St 1 (Fa 5 (Fa 1 c)) V λ_=>k [e,d,b,c]) h
def Vn:=(St 1 (Fa 1 (Fa 1 c)) t λ_=>St 1 (Fa 2 (Fa 1 c)) w λ_=>Fa 3 (Fa 1 c) λv40=>(Wb e d b c o z V v40 · k)) h
def UT:=(Ca 58 [b] λV=>(Vn e d b c t w o z V · k)) h
def WY:=(Ca 58 [b] λz=>(UT e d b c t w o z · k)) h
def S0:=(Ca 58 [b] λo=>(WY e d b c t w o · k)) h
def TR:=(Ca 58 [b] λw=>(S0 e d b c t w · k)) h
def Wr:=(Ar .add (xi 1) s λl=>Fa 0 (Fa 1 c) λv24=>St 1 v24 l λ_=>Ca 58 [b] λt=>(TR e d b c t · k)) h
def VY:=(Ca 56 [v19,v20] λs=>(Wr e d b c s · k)) h
def Ud:=(St 1 (Fa 0 (Fa 10 c)) W λ_=>St 1 (Fa 1 (Fa 10 c)) v63 λ_=>k [e,d,b,c]) h
def QX:=(Ca 58 [b] λv63=>(Ud e d b c W v63 · k)) h
def OS:=(St 1 (Fa 2 (Fa 12 c)) v83 λ_=>k [e,d,b,c]) h
def PA:=(Ar .eql v78 (xi 1) λv79=>Fa 1 (Fa 12 c) λv81=>St 1 v81 v79 λ_=>Ca 58 [b] λv83=>(OS e d b c v83 · k)) h
def Re:=(Ar .eql v72 (xi 1) λv73=>Fa 0 (Fa 12 c) λv75=>St 1 v75 v73 λ_=>Ca 56 [b,Bs 1 2 [.str [],.str []] [(0,1,.str [110,111,114,109,97,108]),(1,1,.str [104,105,103,104])]] λv78=>(PA e d b c v78 · k)) h
def PT:=(St 1 v90 v89 λ_=>k [e,d,b,c]) h
def R4:=(St 1 M v λ_=>k [e,d,b,c]) h
def Rg:=(St 1 (Fa 3 (Nc H)) p λ_=>St 1 (Fa 4 (Nc J)) u λ_=>Fa 5 (Nc L) λM=>(R4 e d b c v M · k)) h
def QM:=(Ca 62 [b] λv=>(Rg e d b c H J L p u v · k)) h
def Pz:=(Ca 58 [b] λu=>(QM e d b c H J L p u · k)) h
def PD:=(Ar .shl (xi 1) (Mm true (xi 0) C) λv109=>Fa 2 (Nc v104) λv111=>St 1 v111 v109 λ_=>Ca 58 [b] λp=>(Pz e d b c T T T p · k)) h
def Ot:=(Ca 56 [v105,B] λC=>(PD e d b c T v104 C · k)) h
def Ph:=(St 1 (Fa 0 (Nc v94)) v97 λ_=>St 1 (Fa 1 (Nc v95)) v99 λ_=>Ca 61 [] λB=>(Ot e d b c T T b B · k)) h
def R6:=(Ca 58 [b] λv99=>(Ph e d b c T v94 v95 v97 v99 · k)) h
def Rj:=(Ca 58 [b] λv97=>(R6 e d b c A A A v97 · k)) h
def DA:=(wI N (Ca 63 [b] λv130=>Fa 22 c λv131=>St 15 v131 v130 λ_=>k [e,d,b,c]) (k [e,d,b,c])) h
def mI:=(wI (Ar .eql i (xi 1)) (Ca 57 [] λv20=>(VY e d b c b v20 · k)) (wI (Ar .eql i (xi 2)) (Ca 59 [b] λv48=>Fa 7 c λv49=>St 2 v49 v48 λ_=>Ca 58 [b] λv51=>Fa 9 c λv52=>St 1 v52 v51 λ_=>k [e,d,b,c]) (wI (Ar .eql i (xi 3)) (Ca 58 [b] λv56=>Fa 9 c λv57=>St 1 v57 v56 λ_=>k [e,d,b,c]) (wI (Ar .eql i (xi 4)) (Ca 58 [b] λW=>(QX e d b c W · k)) (wI (Ar .eql i (xi 5)) (Ca 56 [b,Bs 1 2 [.str [],.str []] [(0,1,.str [108,105,103,104,116]),(1,1,.str [100,97,114,107])]] λv72=>(Re e d b c v72 · k)) (wI (Ar .eql i (xi 6)) (Ca 60 [b] λv89=>Fa 15 c λv90=>(PT e d b c v89 v90 · k)) (wI (Ar .eql i (xi 7)) (Fa 16 c λA=>(Rj e d b c A · k)) (Ar .eql i (xi 8) λN=>(DA e d b c N · k))))))))) h
def Ei:=(FaY 1 (.a g) R λv140 _=>LdY (.a g) v140 λv141 c9=>PkY .n g (ArY .eql (.a g) v141 (LsY (.a g) (MvY (.a g) e))) yf λv145 _=>StE 37 d P λ_ c14 h=>(MvY .n v145 λv3 _=>wK c9 c14 <| wV [.cell d (some 37),.val v3] Q) h) h
def GX:=(wdR 16 λr=>LnY 37 .n c λP _=>FaY 3 .n (NcY .n (MvY .n b)) λv135 _=>wSy (MvY .n (LdY .n v135)) λg=>NcY (.a g) (MvY (.a g) b) λR _=>(Ei e d P g R · Q)) h
def DU:=(Ar .add (xi 1) v12 λf=>Fa 0 c λj=>St 1 j f λ_=>Ld (Fa 0 c) λi=>wJ (mI e d b c i) (nJ4 GX Q)) h
def g27:=(Nw z37 λd=>Bx (Bd [.str [],I 0,.bool false,.bool false] [(0,1,e),(2,1,.bool true),(3,1,.bool true)]) λv9=>Nw z37 λc=>Ca 56 [v9,Bs 1 8 [.str [],.str [],.str [],.str [],.str [],.str [],.str [],.str []] [(0,1,.str [112,111,105,110,116,101,114]),(1,1,.str [107,101,121]),(2,1,.str [116,105,109,101]),(3,1,.str [115,105,122,101]),(4,1,.str [109,111,100,101]),(5,1,.str [97,114,103,115]),(6,1,.str [97,99,99,101,115,115]),(7,1,.str [99,111,109,112,111,115,101])]] λv12=>(DU e d v9 c v12 · Q)) h
def D7:=(wI c (k [m,b,c]) (Ar .eql b (xi 2) λv7=>k [m,b,v7])) h
def Ej:=(k [i]) h
def De:=(wS (Ar .eql (Ld (Fa 2 m)) (xs' [])) λS=>Pk S (ArG true S .eql (LeG true S (LdG true S (FaG true S 3 m))) (xi 0)) xf λi=>(Ej i · k)) h
def Py:=(Q d) h
def D4:=(k [y]) h
def D6:=(wS (Ar .eql (Ld (Fa 1 m)) (xi 0)) λl=>Pk l (ArG true l .eql (LeG true l (LdG true l (FaG true l 3 m))) (xi 0)) xf λy=>(D4 y · k)) h
def OA:=(Q d) h
def DJ:=(wS (Ar .eql (Ld (Fa 1 m)) (xi 0)) λv33=>Pk v33 (ArG true v33 .eql (LdG true v33 (FaG true v33 2 m)) (xs' [])) xf λv37=>k [v37]) h
def Su:=(Q d) h
def xg:=(wI c (wJ (De m) (nJ1 Py Q)) (wI (Ar .eql b (xi 3)) (wJ (D6 m) (nJ1 OA Q)) (wI (Ar .eql b (xi 4)) (wJ (DJ m) (nJ1 Su Q)) (Q (.bool false))))) h
def YL:=(Bx e λm=>Ld (Fa 0 m) λb=>Ar .eql b (xi 1) λT=>wJ (D7 m b T) (nJ3 xg Q)) h
end
section
variable {a:AV}{h:AH}{Q:QT}
theorem C93(G:g93 a h Q):ah prog 93 [a] h Q:=ax [(7,.l [4,13,14,15] [2,3,4])] func93 G
theorem C59(G:g59 a h Q):ah prog 59 [a] h Q:=ax [(2,.jn [0,2,3,17])] func59 G
theorem C57(G:g57 h Q):ah prog 57 [] h Q:=ax [] func57 G
theorem C61(G:g61 h Q):ah prog 61 [] h Q:=ax [] func61 G
theorem C27(G:g27 a h Q):ah prog 27 [a] h Q:=ax [(5,.jn [0,2,4,5])] func27 G
end
theorem ahV{v0 h Q}(G:YL v0 h Q):ah prog 167 [v0] h Q:=ax [(4,.jn [1,4,5]),(7,.jn [2]),(10,.jn [2]),(13,.jn [2])] func167 G
def I6(v0:AV)(h:AH)(Q:QT):=(wS (Ar .geq v0 (xi (-1099511627776))) λv5=>Pk v5 (ArG true v5 .leq (qm true v5 v0) (xi 1099511627776)) xf λv8=>Q v8) h
theorem ah1{v0 h Q}(G:I6 v0 h Q):ah prog 168 [v0] h Q:=ax [] func168 G
section
variable (r:Nat)(c1 c3 c5 c7:Rec)(v w b c a j d e f g:AV)(h:AH)(Q:QT)
def RN:=(St 2 a (Bd [I 0,.D] []) λ_=>wV [.cell a (some 2),.val (.bool false)] Q) h
def PK:=(St 2 a (Ca 171 [Ln 2 j]) λ_=>wV [.cell a (some 2),.val (.bool true)] Q) h
def Pu:=(MvY .n (CaY 190 [f,g]) λi _=>ExY 0 .n i λl _=>ExY 1 .n i λm _=>wdA (r+12) (zf [I 0,.D]) λj c12=>StE 2 j l λ_ _ h=>(MvY .n m λx _=>wK c1 c12 <| wK c3 c12 <| wK c5 c12 <| wK c7 c12 <| wI (Un .not x) ((RN a · Q)) ((PK a j · Q))) h) h
def Dg:=(wI e (St 2 a (Ln 2 b) λ_=>wV [.cell a (some 2),.val (.bool true)] Q) (wdR 15 λr=>FaY 1 .n b λo _=>LdY .n o λp c1=>IxY 2 .n p (yi 0) λq _=>LnY 2 .n q λf c3=>FaY 1 .n c λs _=>LdY .n s λt c5=>IxY 2 .n t (yi 0) λu _=>LnY 2 .n u λg c7=>(Pu r c1 c3 c5 c7 a f g · Q))) h
def w8:=(wI d (St 2 a (Bd [I 0,.D] []) λ_=>wV [.cell a (some 2),.val (.bool false)] Q) (wI (Ar .eql (Le (Ld (Fa 1 b))) (xi 0)) (St 2 a (Ln 2 c) λ_=>wV [.cell a (some 2),.val (.bool true)] Q) (Ar .eql (Le (Ld (Fa 1 c))) (xi 0) λe=>(Dg b c a e · Q)))) h
def Jq:=(Bx v λb=>Bx w λc=>Nw [I 0,.D] λa=>Ar .neq (Ld (Fa 0 b)) (Ld (Fa 0 c)) λd=>(w8 b c a d · Q)) h
end
theorem ahO{v0 v1 h Q}(G:Jq v0 v1 h Q):ah prog 190 [v0,v1] h Q:=ax [] func190 G
def YJ(v0:AV)(h:AH)(Q:QT):=(Bx v0 λv1=>Nw [I 0,.D] λv2=>Ln 2 v1 λv3=>Bs 2 1 [I 0,.D] [(0,2,v3)] λv4=>St 2 v2 (Bd [I 0,.D] [(0,1,I 4),(1,1,v4)]) λ_=>wV [.cell v2 (some 2)] Q) h
theorem ahQ{v0 h Q}(G:YJ v0 h Q):ah prog 171 [v0] h Q:=ax [] func171 G
section
variable (x:AX)(g b p c a d e f:AV)(h:AH)(Q:QT)(K:KT)
def CJ:=(Ex 0 f λi=>Ex 1 f λj=>St 2 c i λ_=>wI (Un .not j) (St 2 b (Bd [I 0,.D] []) λ_=>K .ret [b,c,a,d,e] [b,.bool false,c]) (Ar .add e (xi 1) λl=>K .nrm [b,c,a,d,l] [b,.undef,c])) h
def B_:=(wI (Ar .lss e d) (Ln 2 (Ix 2 a e) λm=>Nw [I 0,.D] λo=>St 2 o m λ_=>Ca 190 [Ln 2 c,Ln 2 o] λf=>(CJ b c a d e f · K)) (K (.exit 0) [b,c,a,d,e] [b,.undef,c])) h
def Cb:=(St 2 b (Ca 171 [Ln 2 c]) λ_=>wV [.cell b (some 2),.val (.bool true)] Q) h
def CK:=(wX x ((Cb b c · Q)) [(0,(Cb b c · Q))] (wV [.cell b (some 2),.val p] Q)) h
def PJ:=(Le a λd=>wL (nL5 B_) [b,c,a,d,I 0] (nX3 CK Q)) h
def Jp:=(Nw [I 0,.D] λb=>wI (Ar .eql (Le g) (xi 0)) (St 2 b (Bd [I 0,.D] [(0,1,I 4)]) λ_=>wV [.cell b (some 2),.val (.bool true)] Q) (Ln 2 (Ix 2 g (xi 0)) λn=>Nw [I 0,.D] λc=>St 2 c n λ_=>Sli 2 (some (I 1)) none none g λa=>(PJ b c a · Q))) h
end
theorem ahC{v0 h Q}(G:Jp v0 h Q):ah prog 170 [v0] h Q:=ax [(7,.l [2,4,16,17,18] [2,3,4])] func170 G
section
variable (x:AX)(v0 d c b a v7 q u v r w n y T g z A B e f i j l m:AV)(h:AH)(Q:QT)(k:NT)(K:KT)
def C5:=(wS (Ar .eql (Ld (Fa 0 b)) (xi 4)) λC=>Pk C (ArG true C .geq (qm true C d) (xi 16)) xf λu=>k [d,c,b,a,u]) h
def D9:=(k [d,c,b,a,w]) h
def D_:=(wS (Ar .eql (Ld (Fa 0 b)) (xi 1)) λo=>Pk o (UnG true o .not (Cg true o 168 [(LdG true o (FaG true o 1 b))])) xf λw=>(D9 d c b a w · k)) h
def BA:=(Pk n (ArG true n .neq (LdG true n y) (xi 1)) xf λU=>k [d,c,b,a,U]) h
def Eg:=(wI r (k [d,c,b,a,r]) (wS (Ar .eql (Ld (Fa 0 b)) (xi 2)) λs=>wS (Pk s (ArG true s .neq (LdG true s (FaG true s 1 b)) (xi 0)) xf) λn=>FaG true n 1 b λy=>(BA d c b a n y · k))) h
def Bw:=(wS (Pk g xt z) λp=>Pk p xt (ArG false p .gtr (LdG false p (NcG false p (qm false p c))) (xi 1000)) λV=>k [d,c,b,a,V]) h
def A3:=(wS (Ar .gtr (Ls (Ld (Fa 2 b))) (xi 2000)) λg=>ArG false g .gtr (LeG false g (LdG false g (FaG false g 3 b))) (xi 100) λz=>(Bw d c b a g z · k)) h
def SB:=(Ld A λW=>St 2 a (Bd [I 0,.D] [(0,1,W)]) λ_=>wV [.cell a (some 2),.val (I 0)] Q) h
def Rk:=(Ar .add i (xi 1) λH=>K .nrm [d,c,a,l,e,f,H] [a,.undef,l]) h
def Ek:=(Ex 0 j λJ=>Ex 1 j λt=>Nw [I 0,.D] λL=>St 2 L J λ_=>wI (Ar .neq t (xi 0)) (St 2 a (Bd [I 0,.D] []) λ_=>K .ret [d,c,a,q,e,f,i] [a,t,q]) (Ln 2 L λM=>Ap 2 32 q (Bs 2 1 [I 0,.D] [(0,2,M)]) λl=>(Rk d c a e f i l · K))) h
def CO:=(wI (Ar .lss i f) (Ln 4 (Ix 4 e i) λv94=>Nw [I 0,I 0,.str [],.D] λN=>St 4 N v94 λ_=>Ca 149 [Ln 4 N,Ar .add d (xi 1),c] λj=>(Ek d c a q e f i j · K)) (K (.exit 1) [d,c,a,q,e,f,i] [a,.undef,q])) h
def Eh:=(Ex 0 m λP=>Ex 1 m λR=>Nw [I 0,.D] λS=>St 2 S P λ_=>wI (Un .not R) (St 2 a (Bd [I 0,.D] []) λ_=>wV [.cell a (some 2),.val (I 5)] Q) (St 2 a (Ln 2 S) λ_=>wV [.cell a (some 2),.val (I 0)] Q)) h
def Dc:=(Ca 170 [q] λm=>(Eh a m · Q)) h
def DX:=(wX x ((Dc a q · Q)) [(1,(Dc a q · Q))] (wV [.cell a (some 2),.val v7] Q)) h
def CX:=(Ld B λe=>Le e λf=>wL (nL7 CO) [d,c,a,q,e,f,I 0] (nX3 DX Q)) h
def DV:=(wI T (St 2 a (Bd [I 0,.D] []) λ_=>wV [.cell a (some 2),.val (I 2)] Q) (wI (Un .not (Ca 169 [Ld (Fa 2 b)])) (St 2 a (Bd [I 0,.D] []) λ_=>wV [.cell a (some 2),.val (I 3)] Q) (wI (Ar .neq (Ld (Fa 0 b)) (xi 4)) (Fa 0 b λA=>(SB a A · Q)) (Fa 3 b λB=>(CX d c a .D B · Q))))) h
def D1:=(wI r (St 2 a (Bd [I 0,.D] []) λ_=>wV [.cell a (some 2),.val (I 1)] Q) (wJ (A3 d c b a) (nJ5 DV Q))) h
def MR:=(wJ (Eg d c b a r) (nJ5 D1 Q)) h
def Df:=(wI v (St 2 a (Bd [I 0,.D] []) λ_=>wV [.cell a (some 2),.val (I 9)] Q) (wJ (D_ d c b a) (nJ5 MR Q))) h
def K4:=(wI u (St 2 a (Bd [I 0,.D] []) λ_=>wV [.cell a (some 2),.val (I 8)] Q) (Ar .add (Ld (Nc c)) (xi 1) λv26=>Nc c λv27=>St 1 v27 v26 λ_=>Un .not (Ca 167 [Ln 4 b]) λv=>(Df d c b a v · Q))) h
def YX:=(Bx v0 λb=>Nw [I 0,.D] λa=>wJ (C5 d c b a) (nJ5 K4 Q)) h
end
theorem ahL{v0 v1 v2 h Q}(G:YX v0 v1 v2 h Q):ah prog 149 [v0,v1,v2] h Q:=ax [(1,.jn [1,2,3,6,21]),(9,.jn [1,2,3,6,33]),(10,.jn [1,2,3,6,33]),(14,.jn [1,2,3,6,57]),(26,.l [1,2,6,8,89,90,91] [6,7,8])] func149 G
def QZ(v2:AV)(h:AH)(Q:QT):=(wV [.cell v2 (some 2),.val (I 0)] Q) h
def DS(v2 G:AV)(h:AH)(Q:QT):=(Ex 0 G λv10=>Ex 1 G λv11=>Nw [I 0,.D] λv5=>St 2 v5 v10 λ_=>wI (Ar .neq v11 (xi 0)) (St 2 v2 (Bd [I 0,.D] []) λ_=>wV [.cell v2 (some 2),.val v11] Q) (St 2 v2 (Ca 150 [Ln 2 v5]) λ_=>(QZ v2 · Q))) h
def Yz(v0:AV)(h:AH)(Q:QT):=(Bx v0 λv1=>Nw [I 0,.D] λv2=>Nw [I 0] λv4=>St 1 v4 (xi 0) λ_=>Ca 149 [Ln 4 v1,xi 0,v4] λv9=>(DS v2 v9 · Q)) h
theorem ahF{v0 h Q}(G:Yz v0 h Q):ah prog 128 [v0] h Q:=ax [] func128 G
def Uw(v7:AV)(h:AH)(Q:QT):=(Ex 0 v7 λv8=>Ex 1 v7 λv9=>Nw [I 0,.D] λv3=>St 2 v3 v8 λ_=>Q v9) h
def g97(v0:AV)(h:AH)(Q:QT):=(Ca 128 [Ln 4 (Bx v0)] λv7=>(Uw v7 · Q)) h
theorem C97{v0 h Q}(G:g97 v0 h Q):ah prog 97 [v0] h Q:=ax [] func97 G
def Pg(v2 v8:AV)(h:AH)(Q:QT):=(St 2 v2 (Bd [I 0,.D] [(0,1,v8)]) λ_=>wV [.cell v2 (some 2)] Q) h
def Px(v2 G:AV)(h:AH)(Q:QT):=(St 2 v2 (Ca 171 [Ca 150 [Ln 2 (Ix 2 G (xi 0))]]) λ_=>wV [.cell v2 (some 2)] Q) h
def Jb(v0:AV)(h:AH)(Q:QT):=(Bx v0 λv1=>Nw [I 0,.D] λv2=>wI (Ar .eql (Le (Ld (Fa 1 v1))) (xi 0)) (Ld (Fa 0 v1) λv8=>(Pg v2 v8 · Q)) (Ld (Fa 1 v1) λv11=>(Px v2 v11 · Q))) h
theorem Yp{v0 h Q}(G:Jb v0 h Q):ah prog 150 [v0] h Q:=ax [] func150 G
section
variable (x:AX)(j s T U z b v S p f a d c t q g:AV)(h:AH)(Q:QT)(k:NT)(K:KT)
def U3:=(Ex 0 p λf=>Ex 1 p λl=>Ex 2 p λA=>Q (.tup [f,l,A])) h
def g26:=(Ca 55 [j,s] λp=>(U3 p · Q)) h
def U1(z b w a d m o:AV)(h:AH)(Q:QT):=(ArY .add .n m (LsY .n o) λc _=>SsY (some c) none .n d λB _=>MvY .n a λz _=>MvY .n B λb _=>MvY .n yt λw _=>Q (.tup [z,b,w])) h
def g55:=(Ca 89 [j,s] λf=>wI (Ar .geq f (xi 0)) (wdR 12 λr=>MvY .n j λC _=>MvY .n f λH _=>SsY none (some H) .n C λa _=>MvY .n j λd _=>MvY .n f λm _=>MvY .n s λo _=>(U1 (.str []) (.str []) (.bool false) a d m o · Q)) (Q (.tup [j,.str [],.bool false]))) h
def xS:=(wS (Un .not f) λu=>Pk u xt (UnG false u .not (qm false u S)) λg=>k [b,v,p,g]) h
def G1:=(wI g (Le b λJ=>K .ret [.undef,b] [.D,J,I 3,b]) (Ln 37 p λL=>Ap 37 376 b (Bs 37 1 z37 [(0,37,L)]) λy=>K .nrm [v,y] [.undef,.undef,.undef,y])) h
def VC:=(Ex 0 q λe=>Ex 1 q λM=>Nw z37 λp=>St 37 p e λ_=>wJ (xS b v S p M) (nJ4 G1 K)) h
def FO:=(Ex 0 a λd=>Ex 1 a λm=>Ex 2 a λo=>wI (Ar .geq (Le b) (xi 200)) (Le b λN=>K .ret [j,b] [.D,N,I 2,b]) (Ca 27 [d] λq=>(VC b m o q · K))) h
def Ez:=(wI (Ar .neq j (xs' [])) (Ca 26 [j,xs' [10]] λa=>(FO j b a · K)) (K (.exit 0) [j,b] [.undef,.undef,.undef,b])) h
def Fb:=(Le b λP=>Q (.tup [b,P,I 0])) h
def yk:=(wX x ((Fb b · Q)) [(0,(Fb b · Q))] (Q (.tup [T,U,z]))) h
def g12:=(wL (nL2 Ez) [j,.D] (nX4 yk Q)) h
def Vr:=(wS g λi=>Pk i (ArG true i .eql (LdG true i (FaG true i 9 (IxG true i 37 (qm true i s) (xi 0)))) (xi 5)) xf λR=>Q R) h
def UU:=(wS (Pk c t xf) λe=>Pk e (EfG true e false [.int .i64,.int .i64] (LnG true e 2 (FaG true e 7 (IxG true e 37 (qm true e s) (xi 0)))) (BdG true e [I 0,I 0] [(0,1,I 115),(1,1,I 1)])) xf λg=>(Vr s g · Q)) h
def UA:=(wS (Pk a (ArG true a .eql (LeG true a d) (xi 1)) xf) λc=>ArG true c .eql (LdG true c (FaG true c 0 (IxG true c 37 (qm true c s) (xi 0)))) (xi 2) λt=>(UU s c t · Q)) h
def VE:=(Ex 0 b λw=>Ex 1 b λv=>wS (Ar .eql (Ex 2 b) (xi 0)) λl=>wS (Pk l (ArG true l .eql (qm true l v) (xi 1)) xf) λa=>qm true a w λd=>(UA w a d · Q)) h
def g15:=(Ca 12 [xs' [107,101,121,32,99,116,114,108,43,115,32,53,10]] λb=>(VE b · Q)) h
end
section
variable {a b:AV}{h:AH}{Q:QT}
theorem C26(G:g26 a b h Q):ah prog 26 [a,b] h Q:=ax [] func26 G
theorem C55(G:g55 a b h Q):ah prog 55 [a,b] h Q:=ax [] func55 G
theorem C12(G:g12 a h Q):ah prog 12 [a] h Q:=ax [(3,.l [0,5] [2,3,4,5]),(12,.jn [5,7,9,34])] func12 G
theorem C15(G:g15 h Q):ah prog 15 [] h Q:=ax [] func15 G
end
open Go.St
structure Sc where
 s:Str
 t:PS
def scC(x:Sc):LA:=[.str x.s,I x.t.pos,.bool x.t.first,.bool x.t.ok]
theorem jQ(x:Sc):qv (scC x):=by
 intro H;rw[dW];refine⟨rfl,λi a b G hb=>?_⟩;rw[G]at hb;cases hb;match i with
 |0=>simp[scC]at G;subst G;exact .str _
 |1=>simp[scC]at G;subst G;exact .int _ _
 |2=>simp[scC]at G;subst G;exact .bool _
 |3=>simp[scC]at G;subst G;exact .bool _
 |i+4=>simp[scC]at G
def Sc.Ok(x:Sc):Prop:=x.s.length<=1000000000/\x.t.pos<=x.s.length
theorem rK{s:Str}{t:PS}(h:aO s t=true):∃c,s[t.pos]?=some c:=by
 unfold aO at h;simp only[aI,ck]at h;exact⟨s[t.pos],bF h.2⟩
theorem sq{h:AH}{id:Nat}{x:Sc}(hc:h.E id=some (scC x))(ad:id<h.nx)(hx:x.Ok):ab prog 94 [.ptr id 0] h (.bool (aO x.s x.t)) h:=by
 obtain⟨s,⟨p,f,o⟩⟩:=x;refine kY (R:=λv h'=>v =.bool (aO s ⟨p,f,o⟩)/\h.nx<=h'.nx/\h'.H=h.H) (C94 ?_) λv' h' ⟨h1,h2,h3⟩=>⟨by rw[h1];exact .bool _,h2,λi _=>by rw[h3]⟩
 have G:h.E id=some [.str s,I p,.bool f,.bool o]:=hc;cases o
 ·simp[g94,G,aO,GB,F3]
 simp[g94,G,aO,GB,G,F3]
theorem uO{h:AH}{G:Nat}{x:Sc}(b:UInt8)(hc:h.E G=some (scC x))(al:G<h.nx)(hx:x.Ok):ab prog 126 [.ptr G 0,.int .u8 b.toNat] h (.tup []) (h.set G (.cells (scC ⟨x.s,aD x.s b x.t⟩))):=by
 obtain⟨s,⟨p,f,o⟩⟩:=x;refine fD al (jQ _) (ahR ?_);have ad:h.E G=some [.str s,I p,.bool f,.bool o]:=hc;simp[YC];refine⟨λvs h'=>vs=[.ptr G 0,.bool (!(aO s ⟨p,f,o⟩&&(s[p]?== some b)))]/\Ob h h' G (scC ⟨s,⟨p,f,o⟩⟩),?_,?_⟩
 ·simp[R0];refine sD (sq hc (by simp;omega) hx) ?_;refine⟨by simp,?_⟩;cases hm:aO s ⟨p,f,o⟩
  ·simp[Dh];exact(Ob.start hc).bump _ (by simp)
  obtain⟨c,af⟩:=rK hm;simp[ad,Dh,ad,dA af,b8n];rw[af];exact⟨rfl,(Ob.start hc).bump _ (by simp)⟩
 rintro vs h' ⟨rfl,ho⟩;have aj:h'.E G=some [.str s,I p,.bool f,.bool o]:=ho.c;have hp:p<=s.length:=hx.2;have hs:s.length<=1000000000:=hx.1;by_cases hb:aO s ⟨p,f,o⟩=true/\s[p]?=some b
 ·have e:aD s b ⟨p,f,o⟩=⟨p+1,f,o⟩:=by unfold aD;rw[Z hb]
  simp(disch:=first|go_size|fail)[Dd,hb.1,hb.2,aj,e];exact ho.set _
 have e:aD s b ⟨p,f,o⟩=⟨p,f,false⟩:=by unfold aD;rw[O hb]
 have an:(!(aO s ⟨p,f,o⟩&&(s[p]?== some b)))=true:=by
  cases h1:aO s ⟨p,f,o⟩
  ·simp
  have:¬s[p]?=some b:=λe=>hb ⟨h1,e⟩
  simp[this]
 rw[an];simp[Dd,aj,e];exact ho.set _
theorem Od(s:Str)(b:UInt8)(t:PS)(G:t.pos<=s.length):(aD s b t).pos<=s.length:=by
 unfold aD;split
 ·rename_i h;have:=(aL.1 h.2).1;show t.pos+1<=_;omega
 exact G
theorem DF{h:AH}{G:Nat}{x:Sc}(hc:h.E G=some (scC x))(ad:G<h.nx)(hx:x.Ok):ab prog 95 [.ptr G 0] h (.tup []) (h.set G (.cells (scC ⟨x.s,bq x.s x.t⟩))):=by
 obtain⟨s,⟨p,f,o⟩⟩:=x;refine fD ad (jQ _) (C95 ?_);have af:h.E G=some [.str s,I p,.bool f,.bool o]:=hc;cases f
 ·simp[g95,af];refine sD (uO (b:=32) hc ad hx) ?_;exact(Ob.start hc).set _
 simp[g95,af];exact(Ob.start hc).set _
theorem K_(s:Str)(G:Bool)(t:PS)(ht:t.pos<=s.length):t.pos+(bX s G t).length<=s.length:=by
 have:=ln (aH G) (s.drop t.pos);rw[bW]at this;unfold bX;omega
theorem TQ{h:AH}{id:Nat}{x:Sc}(cl:Bool)(hc:h.E id=some (scC x))(a1:id<h.nx)(hx:x.Ok):ab prog 122 [.ptr id 0,.bool cl] h (.str (bX x.s cl x.t)) (h.set id (.cells (scC ⟨x.s,dn x.s cl x.t⟩))):=by
 obtain⟨s,⟨p,f,o⟩⟩:=x;have hp:p<=s.length:=hx.2;have hs:s.length<=1000000000:=hx.1;have hw:=K_ s cl ⟨p,f,o⟩ hp;refine fD a1 (jQ _) (ahH ?_);have a6:h.E id=some [.str s,I p,.bool f,.bool o]:=hc;generalize hW:bX s cl ⟨p,f,o⟩=W at*;simp only at hw;simp[YU,a6];refine⟨λm vs h'=>∃q,vs=[.ptr id 0,.bool cl,I p]/\Ob h h' id (scC ⟨s,⟨q,f,o⟩⟩)/\p<=q/\q<=p+W.length/\m=p+W.length-q,W.length,?_,?_⟩
 ·exact⟨p,rfl,Ob.start hc,by omega,by omega,by omega⟩
 rintro m vs h' ⟨q,rfl,ho,bb,bd,rfl⟩;have G:h'.E id=some [.str s,I q,.bool f,.bool o]:=ho.c;simp[Ps];refine⟨λvs h2=>vs=[.ptr id 0,.bool cl,I p,.bool (decide (q<p+W.length))]/\Ob h h2 id (scC ⟨s,⟨q,f,o⟩⟩),?_,?_⟩
 ·by_cases an:q<s.length
  ·obtain⟨c,ad⟩:∃c,s[q]?=some c:=⟨s[q],bF an⟩;have aj:(q:Int)<s.length:=by omega
   have ar:=IG (aH cl) (s.drop p) (q-p) (by rw[show(s.drop p).takeWhile (aH cl)=W from hW];omega);rw[show(s.drop p).takeWhile (aH cl)=W from hW,ew,show p+(q-p)=q by omega,ad]at ar;have al:decide (q<p+W.length)=aH cl c:=by
    cases hb:aH cl c
    ·rw[jx,show q<p+W.length↔q-p<W.length by omega,ar];rintro⟨x,a7,aw⟩;cases a7;rw[hb]at aw;cases aw
    rw[decide_eq_true_iff,show q<p+W.length↔q-p<W.length by omega,ar];exact⟨c,rfl,hb⟩
   rw[al];simp[BQ,G,Cr,G,aj];have h8:=xZ c;have h9:=WZ c;by_cases af:c=32
   ·simp[w9,G,dA ad,af,wW,wT];exact⟨by simp[aH],ho.bump _ (by simp)⟩
   cases cl
   ·simp[w9,G,dA ad,h8,af,wW,wT];exact⟨by simp[aH,af],ho.bump _ (by simp)⟩
   simp[w9,G,dA ad,h8,af,wW,G,wT,G,dA ad,h9];exact⟨by simp[aH,af],ho.bump _ (by simp)⟩
  have aj:¬(q:Int)<s.length:=by omega
  have al:¬q<p+W.length:=by omega
  simp[BQ,G,Cr,aj,w9,wW,wT,al];exact ho.bump _ (by simp)
 rintro vs h2 ⟨rfl,ao⟩;have av:h2.E id=some [.str s,I q,.bool f,.bool o]:=ao.c;by_cases an:q<p+W.length
 ·simp(disch:=first|go_size|fail)[CP,an,av];exact⟨p+W.length-(q+1),by omega,q+1,ao.set _,by omega,by omega,rfl⟩
 obtain rfl:q=p+W.length:=by omega
 simp only[an,tO];simp(disch:=first|go_size|fail)[CP,Sk];generalize hq:p+W.length=q at*;simp[CW,av];refine⟨λvs h3=>vs=[.ptr id 0,I p]/\Ob h h3 id (scC ⟨s,dn s cl ⟨p,f,o⟩⟩),?_,?_⟩
 ·have eT:dn s cl ⟨p,f,o⟩=⟨q,f,o && !W.isEmpty⟩:=by unfold dn;rw[hW];simp[hq]
  rw[eT];by_cases he:p=q
  ·have:W=[]:=fQ (by omega);subst this;subst he;simp[Cy,av];exact ao.set _
  have a8:W≠[]:=by rintro rfl;simp at hq;exact he hq
  have ba:¬(p:Int)=q:=by omega
  simp[Cy,ba];have:W.isEmpty=false:=by simpa using a8
  rw[this];simpa using ao
 rintro vs h3 ⟨rfl,aS⟩;have eT:dn s cl ⟨p,f,o⟩=⟨q,f,o && !W.isEmpty⟩:=by unfold dn;rw[hW];simp[hq]
 have aT:h3.E id=some [.str s,I q,.bool f,.bool (o && !W.isEmpty)]:=by rw[aS.c,eT];rfl
 simp[Qh,aT,Rv,aT,uD (show p<=q by omega) (show q<=s.length by omega)];refine⟨?_,aS.bump _ (by simp)⟩;have:=OY (aH cl) (s.drop p);rw[show(s.drop p).takeWhile (aH cl)=W from hW]at this;rw[show q-p=W.length by omega];exact this
theorem J9(s:Str)(t:PS)(G:t.pos<=s.length):(bq s t).pos<=s.length:=by
 unfold bq;split
 ·exact G
 exact Od s 32 t G
theorem aaS(s:Str)(G:Bool)(t:PS)(ht:t.pos<=s.length):(dn s G t).pos<=s.length:=K_ s G t ht
theorem aaJ(s:Str)(t:PS)(G:t.pos<=s.length):(bm s t).pos<=s.length:=aaS s false _ (J9 s t G)
theorem HS{h:AH}{id:Nat}{x:Sc}(hc:h.E id=some (scC x))(G:id<h.nx)(hx:x.Ok):ab prog 91 [.ptr id 0] h (.str (b9 x.s x.t)) (h.set id (.cells (scC ⟨x.s,bm x.s x.t⟩))):=by
 refine fD G (jQ _) (C91 ?_);simp[g91];refine sD (DF hc G hx) ?_;refine sD (TQ (x:=⟨x.s,bq x.s x.t⟩) (cl:=false) cse G ⟨hx.1,J9 _ _ hx.2⟩) ?_;exact⟨rfl,((Ob.start hc).set _).set _⟩
def cV(l:List Str):AV:=.psl (l.map λs=>[.str s])
theorem xy(l:List Str)(w:Str):-1<=idx l w:=by unfold idx;split<;>omega
theorem uN(l:List Str)(w:Str):idx l w<l.length:=by
 unfold idx;split
 ·rename_i i hi;have:=Jv.1 hi;obtain⟨G,_⟩:=this;omega
 omega
theorem WD{l:List Str}{w:Str}{i:Nat}(hs:l[i]?=some w)(G:∀j,j<i->∀s,l[j]?=some s->s≠w):idx l w=i:=by
 obtain⟨ad,he⟩:=aL.1 hs;have:l.findIdx? (· == w)=some i:=by
  rw[Jv];refine⟨ad,by simp[he],λj hj=>?_⟩;have:=G j hj l[j] (bF (by omega));simpa using this
 unfold idx;rw[this]
theorem wy{l:List Str}{w:Str}(G:∀j,j<l.length->∀s,l[j]?=some s->s≠w):idx l w = -1:=by
 have:l.findIdx? (· == w)=none:=by
  rw[List.findIdx?_eq_none_iff];intro x hx;obtain⟨j,hj,rfl⟩:=List.getElem_of_mem hx;have:=G j hj l[j] (bF hj);simpa using this
 unfold idx;rw[this]
theorem ki(h:AH)(l:List Str)(i:Nat)(s:Str)(hi:l[i]?=some s):aC h 1 (cV l) (I i)=some (.ai [.str s],h):=by
 have G:i<l.length:=(aL.1 hi).1;have h2:=bF G;rw[hi]at h2;have he:l[i]=s:=(j8 h2).symm;exact gQ (by simp[G,he]) rfl
theorem wo(h:AH)(l:List Str):bn h (cV l)=some (I l.length,h):=by simp[cV]
def SSl(h:AH)(x:AV)(l:List Str):Prop:=x=cV l\/∃k,x =.rsl k 0 l.length 1/\h.E k=some (l.map .str)
theorem SSl.at{h:AH}{x:AV}{l:List Str}(hx:SSl h x l){i:Nat}{s:Str}(G:l[i]?=some s):∃a,aC h 1 x (I i)=some (a,h)/\jw h a=some (.str s,h):=by
 have ad:i<l.length:=(aL.1 G).1;rcases hx with rfl|⟨k,rfl,hk⟩
 ·refine⟨_,ki h l i s G,?_⟩;simp[]
 refine⟨.ptr k i,?_,?_⟩
 ·have:=gO (h:=h) (z:=1) (id:=k) (off:=0) (len:=l.length) (i:=(i:Int)) (by omega) (by omega);simpa using this
 have hm:(l.map AV.str)[i]?=some (.str s):=by rw[cA,G];rfl
 simp only[jw,lh,hk,hm]
theorem SSl.len{h:AH}{x:AV}{l:List Str}(G:SSl h x l)(g:AH):bn g x=some (I l.length,g):=by
 rcases G with rfl|⟨k,rfl,hk⟩
 ·exact wo g l
 simp[bn,cj]
theorem P8{h:AH}(x:AV)(l:List Str)(w:Str)(hl:SSl h x l/\l.length<=1000):ab prog 90 [x,.str w] h (I (idx l w)) h:=by
 obtain⟨hS,hl⟩:=hl;refine wv (C90 ?_);simp[g90,hS.len];refine⟨λm vs h'=>∃i:Nat,vs=[x,.str w,I l.length,I i]/\h'=h/\i<=l.length/\(∀j,j<i->∀s,l[j]?=some s->s≠w)/\m=l.length-i,l.length,?_,?_⟩
 ·exact⟨0,rfl,rfl,by omega,by omega,by omega⟩
 rintro m vs h' ⟨i,rfl,rfl,hi,ad,rfl⟩;by_cases an:i<l.length
 ·have G:(i:Int)<l.length:=by omega
  obtain⟨s,hs⟩:∃s,l[i]?=some s:=⟨l[i],bF an⟩;obtain⟨a,aj,al⟩:=hS.at hs;by_cases he:w=s
  ·subst he;simp[yD,G,aj,al,GO];rw[WD hs ad]
  simp(disch:=first|go_size|fail)[yD,G,aj,al,he];refine⟨l.length-(i+1),by omega,i+1,by omega,by omega,λj hj s' af=>?_,rfl⟩;by_cases ao:j=i
  ·subst ao;rw[hs]at af;cases af;exact λe=>he e.symm
  exact ad j (by omega) s' af
 have G:¬(i:Int)<l.length:=by omega
 simp[yD,G,GO,ES];rw[wy λj hj=>ad j (by omega)]
def SSx(h:AH)(G:Nat)(x:AV)(l:List Str):Prop:=(x=cV l\/∃k,x =.rsl k 0 l.length 1/\k≠G/\h.E k=some (l.map .str))/\l.length<=1000
theorem SSx.set{h:AH}{id:Nat}{x:AV}{l:List Str}(G:SSx h id x l)(o:bg):SSl (h.set id o) x l/\l.length<=1000:=by
 obtain⟨h1,h2⟩:=G;refine⟨?_,h2⟩;rcases h1 with rfl|⟨k,rfl,hk,hc⟩
 ·exact .inl rfl
 exact .inr ⟨k,rfl,by rw[csn hk];exact hc⟩
theorem Ky{h:AH}{id:Nat}{x:Sc}{y:AV}{l:List Str}(hc:h.E id=some (scC x))(ad:id<h.nx)(hx:x.Ok)(hy:SSx h id y l):ab prog 56 [.ptr id 0,y] h (I (bN x.s l x.t)) (h.set id (.cells (scC ⟨x.s,bc x.s l x.t⟩))):=by
 refine fD ad (jQ _) (C56 ?_);simp[g56];refine sD (HS hc ad hx) ?_;refine sD (P8 (x:=y) (l:=l) (w:=b9 x.s x.t) (hy.set _)) ?_;have ho:Ob h (h.set id (.cells (scC ⟨x.s,bm x.s x.t⟩))) id (scC ⟨x.s,bm x.s x.t⟩):=(Ob.start hc).set _;generalize h.set id (.cells (scC ⟨x.s,bm x.s x.t⟩))=h1 at*;have G:h1.E id=some [.str x.s,I (bm x.s x.t).pos,.bool (bm x.s x.t).first,.bool (bm x.s x.t).ok]:=ho.c;refine⟨λvs h2=>vs=[I (bN x.s l x.t)]/\Ob h h2 id (scC ⟨x.s,bc x.s l x.t⟩),?_,?_⟩
 ·have eT:bc x.s l x.t=⟨(bm x.s x.t).pos,(bm x.s x.t).first,(bm x.s x.t).ok&&decide (0<=idx l (b9 x.s x.t))⟩:=rfl;rw[eT];cases af:(bm x.s x.t).ok
  ·rw[af]at G;simp[Ft,G,EP,G];exact⟨rfl,ho.set _⟩
  rw[af]at G;simp[Ft,G,EP,G];exact⟨rfl,ho.set _⟩
 rintro vs h2 ⟨rfl,aj⟩;simp[Vp];exact aj
theorem adu(s:Str)(t:PS)(G:t.pos<=s.length):(fb s t).pos<=s.length:=by
 unfold fb aO;split
 ·rename_i h;simp only[aI,ck]at h;split
  ·exact h.2
  exact G
 exact G
theorem ago{h:AH}{G:Nat}{x:Sc}(hc:h.E G=some (scC x))(al:G<h.nx)(hx:x.Ok):ab prog 129 [.ptr G 0] h (.int .u8 (lj x.s x.t).toNat) (h.set G (.cells (scC ⟨x.s,fb x.s x.t⟩))):=by
 obtain⟨s,⟨p,f,o⟩⟩:=x;have hp:p<=s.length:=hx.2;have hs:s.length<=1000000000:=hx.1;refine fD al (jQ _) (aik ?_);have av:h.E G=some [.str s,I p,.bool f,.bool o]:=hc;simp[YP];refine sD (sq hc al hx) ?_;have hj:∀h1:AH,Ob h h1 G (scC ⟨s,⟨(fb s ⟨p,f,o⟩).pos,f,o⟩⟩)->(fb s ⟨p,f,o⟩)=⟨(fb s ⟨p,f,o⟩).pos,f,false⟩->lj s ⟨p,f,o⟩=0->BH .nrm (.ptr G 0) (.int .u8 0) h1 λv h'=>v =.int .u8 (lj s ⟨p,f,o⟩).toNat/\Ob h h' G (scC ⟨s,fb s ⟨p,f,o⟩⟩):=by
  intro h1 ad e1 e2;have an:h1.E G=some [.str s,I (fb s ⟨p,f,o⟩).pos,.bool f,.bool o]:=ad.c;rw[e1]at an ⊢;rw[e2];simp[BH,an];have:=ad.set (scC ⟨s,⟨(fb s ⟨p,f,o⟩).pos,f,false⟩⟩);exact this
 refine⟨λx vs h1=>(x =.ret/\vs=[.ptr G 0,.int .u8 (lj s ⟨p,f,o⟩).toNat]/\Ob h h1 G (scC ⟨s,fb s ⟨p,f,o⟩⟩))\/
  (x =.nrm/\vs=[.ptr G 0,.int .u8 0]/\Ob h h1 G (scC ⟨s,⟨(fb s ⟨p,f,o⟩).pos,f,o⟩⟩)/\(fb s ⟨p,f,o⟩)=⟨(fb s ⟨p,f,o⟩).pos,f,false⟩/\lj s ⟨p,f,o⟩=0),?_,?_⟩
 ·cases hm:aO s ⟨p,f,o⟩
  ·have eT:fb s ⟨p,f,o⟩=⟨p,f,false⟩:=by unfold fb;rw[O (by rw[hm];simp)]
   have eV:lj s ⟨p,f,o⟩=0:=by unfold lj;rw[O (by rw[hm];simp)]
   simp[B9,eT,eV];exact Ob.start hc
  obtain⟨c,af⟩:=rK hm;simp only at af;have ad:o=true:=by unfold aO at hm;simp only[aI]at hm;exact hm.1
  subst ad;have aS:=(aL.1 af).1;have eT:fb s ⟨p,f,true⟩=⟨p+1,f,jI c⟩:=by unfold fb;rw[Z hm,show s[(PS.mk p f true).pos]?=some c from af]
  have eV:lj s ⟨p,f,true⟩=oE c:=by unfold lj;rw[Z hm,show s[(PS.mk p f true).pos]?=some c from af]
  have aT:(h.set G (.cells (scC ⟨s,⟨p+1,f,true⟩⟩))).nx=h.nx:=rfl;have aj:Ob h (h.set G (.cells (scC ⟨s,⟨p+1,f,true⟩⟩))) G (scC ⟨s,⟨p+1,f,true⟩⟩):=(Ob.start hc).set _;simp(disch:=first|go_size|fail)[B9,av];have ao:h.set G (.cells [.str s,I ((p:Int)+1),.bool f,.bool true])=h.set G (.cells (scC ⟨s,⟨p+1,f,true⟩⟩)):=rfl;rw[ao];generalize h.set G (.cells (scC ⟨s,⟨p+1,f,true⟩⟩))=h1 at*;have aw:h1.E G=some [.str s,I ((p:Int)+1),.bool f,.bool true]:=aj.c;simp(disch:=first|go_size|fail)[QN,aw];have ar:(p:Int)+1-1=p:=by omega
  try rw[ar]
  have k1:=zb c;have k2:=za c;have k3:=WJ c;by_cases q1:c=92
  ·subst q1;simp[xe,dA af,eT,eV,oE,jI];exact aj.bump _ (by omega)
  by_cases q2:c=34
  ·subst q2;simp[xe,dA af,eT,eV,oE,jI];exact aj.bump _ (by omega)
  by_cases q3:c=110
  ·subst q3;simp[xe,dA af,eT,eV,oE,jI];exact aj.bump _ (by omega)
  have eO:jI c=false:=by simp[jI,q1,q2,q3]
  have eW:oE c=0:=by simp[oE,q1,q2,q3]
  simp[xe,dA af,k1,k2,k3,q1,q2,q3,eT,eV,eO,eW];exact aj.bump _ (by omega)
 rintro x vs h1 (⟨rfl,rfl,ad⟩|⟨rfl,rfl,ad,e1,e2⟩)
 ·simp[BH];exact ad
 exact hj h1 ad e1 e2
end Go.Proofs.YtndpneieplopaaaGreatDoor
end
noncomputable section
namespace Go.St
open Go.Eng
open Go.Lib
theorem nR(n:Int):e_ n=encodeRune n:=by
 unfold e_ encodeRune;by_cases h0:0<=n
 ·obtain⟨m,rfl⟩:=kL h0;by_cases hv:m<55296\/(57344<=m/\m<=1114111)
  ·have e:Utf8.valid (m:Int)=true:=by
    unfold Utf8.valid;simp;omega
   unfold Utf8.encode;simp only[e,bt,pU];by_cases h1:m<128
   ·rw[Z h1,encodeRuneZ_one (by omega) (by omega)];simp
   rw[O h1];by_cases h2:m<2048
   ·rw[Z h2,encodeRuneZ_two (by omega) (by omega)];have G:((192:Int)+(m:Int)/64).toNat=192+m/64:=by omega
    have a2:((128:Int)+(m:Int)%64).toNat=128+m%64:=by omega
    simp[G,a2]
   rw[O h2];by_cases h3:m<65536
   ·rw[Z h3,encodeRuneZ_three (by omega)];have G:((224:Int)+(m:Int)/4096).toNat=224+m/4096:=by omega
    have a2:((128:Int)+(m:Int)/64%64).toNat=128+m/64%64:=by omega
    have a3:((128:Int)+(m:Int)%64).toNat=128+m%64:=by omega
    simp[G,a2,a3]
   rw[O h3,encodeRuneZ_four (by omega) (by omega)];have G:((240:Int)+(m:Int)/262144).toNat=240+m/262144:=by omega
   have a2:((128:Int)+(m:Int)/4096%64).toNat=128+m/4096%64:=by omega
   have a3:((128:Int)+(m:Int)/64%64).toNat=128+m/64%64:=by omega
   have a4:((128:Int)+(m:Int)%64).toNat=128+m%64:=by omega
   simp[G,a2,a3,a4]
  have e:Utf8.valid (m:Int)=false:=by
   unfold Utf8.valid;simp;omega
  rw[encodeRuneZ_bad (by omega)];unfold Utf8.encode;simp only[e,dT,bH];decide
 have e:Utf8.valid n=false:=by
  unfold Utf8.valid;simp;omega
 rw[encodeRuneZ_bad (by omega)];unfold Utf8.encode;simp only[e,dT,bH];decide
theorem Zx:∀(n m:Nat) (l:List UInt8),l.length<=n->l.length<=m->iL n l=iL m l
 |0,m,l,G,_=>by
  have:l=[]:=fQ (by omega);subst this;cases m<;>rfl
 |n+1,0,l,_,hm=>by
  have:l=[]:=fQ (by omega);subst this;rfl
 |n+1,m+1,[],_,_=>rfl
 |n+1,m+1,b::l,G,hm=>by
  have hw:=decodeL_width (b::l);unfold decodeL at hw;simp only[aF]at G hm;simp only[iL];rw[Zx n m _ (by rw[bW,aF];omega) (by rw[bW,aF];omega)]
theorem vY:ak []=[]:=rfl
theorem p7(l:List UInt8)(G:l≠[]):ak l=((decodeL l).1:Int)::ak (l.drop (decodeL l).2):=by
 cases l with
 |nil=>exact absurd rfl G
 |cons b l=>
  have hw:=decodeL_width (b::l);unfold ak;simp only[aF,iL];rw[Zx l.length ((b::l).drop (decodeL (b::l)).2).length _ (by unfold decodeL at hw;rw[bW,aF];omega) (by unfold decodeL;omega)];rfl
theorem JE(n:Int)(G:List Int):bD (n::G)=e_ n++bD G:=rfl
theorem Lr:∀(k:Nat) (l:List UInt8),l.length<=k->(bD (ak l)=l↔validD l=true)
 |0,l,h=>by
  have:l=[]:=fQ (by omega);subst this;simp[vY,bD,validD_nil]
 |k+1,l,h=>by
  by_cases G:l=[]
  ·subst G;simp[vY,bD,validD_nil]
  have hw:=decodeL_width l;have hle:=decodeL_le l G;rw[p7 l G,JE,validD_step l G,nR];by_cases hv:(decodeL l).1=65533/\(decodeL l).2=1
  ·rw[Z hv];simp only[dT,iff_false];intro e;have e0:encodeRune ((decodeL l).1:Int)=[239,191,189]:=by rw[hv.1];rfl
   rw[e0]at e;have:decodeL l=(65533,3):=by
    rw[<-e,decodeL_N];simp[decodeN]
   rw[this]at hv;exact absurd hv.2 (by decide)
  rw[O hv,encode_decode l G hv];have ih:=Lr k (l.drop (decodeL l).2) (by rw[bW];omega);rw[<-ih];constructor
  ·intro e;have:l.take (decodeL l).2++bD (ak (l.drop (decodeL l).2))=l.take (decodeL l).2++l.drop (decodeL l).2:=by rw[e,pV]
   exact List.append_cancel_left this
  intro e;rw[e,pV]
theorem NL(l:List UInt8):(bD (ak l)==l)=validD l:=by
 have:=Lr l.length l (ay _);cases h:validD l with
 |true=>simpa using this.2 h
 |false=>
  rw[h]at this;simp only[dT,iff_false]at this;simpa using this
theorem L5:∀(l:List UInt8),asc l=true->(ak l).map az=pg l
 |[],_=>rfl
 |b::l,h=>by
  simp only[asc,nE,aI]at h;have G:b.toNat<128:=by simpa[Nat.blt_eq]using h.1
  rw[p7 _ (by simp),decodeL_ascii b l G];simp only[da,tR,rq,pg];rw[L5 l h.2];rfl
theorem sk(h:AH)(s:List UInt8)(hs:s.length<=1000000000):kX h .s2r [.str s]=some (.rsl h.nx 0 (ak s).length 1,h.add (.cells ((ak s).map az))):=by
 have hb:Nat.ble s.length 1000000000=true:=by simpa using hs
 simp only[kX,hb,Bool.and_true];by_cases G:asc s=true
 ·rw[Z G];have h1:=L5 s G;have h2:(ak s).length=s.length:=by
   have:=congrArg List.length h1;rw[kK,Jz]at this;exact this
  rw[h1,h2]
 rw[O G,Z trivial]
theorem Oi:∀ {ns:List Int} {s:List UInt8},nd (ns.map az)=some s->s=bD ns
 |[],s,h=>by simp[nd]at h;subst h;rfl
 |n::ns,s,h=>by
  simp only[da,az,nd]at h;split at h
  ·rename_i hn;split at h
   ·rename_i l G;cases h;rw[Oi (ns:=ns) G,JE,nR];unfold encodeRune;rw[encodeRuneZ_one (by omega) (by omega)];rfl
   cases h
  cases h
theorem Oe:∀(G:List Int),mY (G.map az)=some G
 |[]=>rfl
 |n::G=>by
  have h:=Oe G;show(match mY (G.map az)with|some l=>some (n::l)|none=>none)=_
  rw[h]
theorem Et{h:AH}{x:AV}{G:List Int}{m:Nat}(h1:cU h 1 x=some (G.map az))(h2:cj x=some m):kX h .r2s [x]=some (.str (bD G),h):=by
 simp only[kX,h1,h2];split
 ·rename_i s hs;rw[Oi hs]
 rw[Oe]
end Go.St
end
noncomputable section
namespace Go.Eng
open Go.RowKit
theorem jH.below{w w':World}(G:Below w.heap.size w w'):jH w.heap.size w w':=
 ⟨G.size,λb x hx _=>by rw[G.block b (gR hx)];exact hx,G.block,G.os,G.tape,G.output⟩
theorem ab.lib{P:Program}{f:Nat}{ad:List AV}{h:AH}{v:AV}(hf:Fex P f)
  (hc:∀(own:Nat->Prop) (β:Bl) (w:World) (G:Array Value),aB own β h.H h.nx w->RL w.heap (LL own β h.H) β ad G.toList->Calls P f G w λe w'=>∃cv,e =.returned cv/\VR w'.heap (LL own β h.H) β v cv/\Below w.heap.size w w'):ab P f ad h v h:=
 ⟨hf,λown β w G hs hR=>(hc own β w G hs hR).mono λ_ _ ⟨cv,he,hv,hb⟩=>⟨cv,v,h,β,he,⟨rfl,rfl⟩,hs.quiet (.below hb),hv,(aX.refl own β h w).quiet (.below hb)⟩⟩
theorem VR.cap{G:Array Obj}{L:Nat->Prop}{β:Bl}{a:AV}{x:Option Addr}{n c:Nat}(h:VR G L β a (.slice x n c))(hu:a ≠ .undef):n<=c:=by
 cases h<;>first|assumption|exact fJ _|exact absurd rfl hu
def tf:List (List AV)->Option (List (List UInt8))
 |[]=>some []
 |[.str s]::r=>match tf r with
  |some l=>some (s::l)
  |none=>none
 |_=>none
theorem ZY:∀ {xl:List (List AV)} {l:List (List UInt8)},tf xl=some l->xl=l.map λs=>[.str s]
 |[],l,h=>by cases h;rfl
 |[.str s]::r,l,h=>by
  simp only[tf]at h;split at h
  ·rename_i m hm;cases h;rw[ZY hm];rfl
  cases h
