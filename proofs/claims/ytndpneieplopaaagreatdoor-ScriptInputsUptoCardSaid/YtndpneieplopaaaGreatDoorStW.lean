/- Functions of the law, as plain transformers of predicates; printed by a program of ours. -/
import Derived.Test.YtndpneieplopaaaGreatDoorStO
set_option linter.unusedSimpArgs false
set_option linter.unusedVariables false
noncomputable section
namespace Go.Proofs.YtndpneieplopaaaGreatDoor
open Go.Eng Tryz Tryz
set_option maxRecDepth 100000
section
variable (a c B d p q e f g i s j l:AV)(h:AH)(Q:QT)(k:NT)
def Iy:=(wI d (Sli 1 none (some (I 4000)) none a λp=>k [p]) (k [a])) h
def IM:=(Bx (Bd [.D,I 0] [(0,1,a)]) λm=>Q m) h
def g7:=(Ar .gtr (Le a) (xi 4000) λd=>wJ (Iy a d) (nJ1 IM Q)) h
def y8:=(wSy (MvY .n (ArY .geq .n q (LeY .n e))) λo=>PkY .n o yt (ArY .lss (.b o) (MvY (.b o) c) (yi 1)) λf _=>k [a,c,f]) h
def y_:=(wdR 14 λr=>FaY 1 .n (NcY .n (MvY .n a)) λC _=>LdY .n C λq _=>FaY 0 .n (NcY .n (MvY .n a)) λt _=>LdY .n t λe _=>(y8 a c q e · k)) h
def IV:=(wI l (Ar .add d c λu=>k [u]) (k [d])) h
def X5:=(Q d) h
def Yg:=(Ar .add j (xi 1) λv=>Fa 1 (Nc s) λw=>St 1 w v λ_=>Ar .lss d (xi 0) λl=>wJ (IV c d l) (nJ1 X5 Q)) h
def Ya:=(IxY 1 .n g i λx _=>MvY .n (ArY .rem .n (LdY .n x) (MvY .n c)) λd _=>Ld (Fa 1 (Nc a)) λj=>(Yg c d a j · Q)) h
def IE:=(wI f (Q (I 0)) (wdR 13 λr=>FaY 0 .n (NcY .n (MvY .n a)) λy _=>LdY .n y λg _=>FaY 1 .n (NcY .n (MvY .n a)) λz _=>LdY .n z λi _=>(Ya a c g i · Q))) h
def g8:=(wJ (y_ a c) (nJ3 IE Q)) h
def g19:=(Ar .add c (Ca 8 [a,Ar .add (Ar .sub B c) (xi 1)]) λA=>Q A) h
def Rh:=(Ar .eql p (Ar .sub c (xi 1)) λm=>Q m) h
def Y_:=(Ca 8 [a,c] λp=>(Rh c p · Q)) h
end
section
variable {a b c:AV}{h:AH}{Q:QT}
theorem C7(G:g7 a h Q):ah prog 7 [a] h Q:=ax [(2,.jn [0])] func7 G
theorem C8(G:g8 a b h Q):ah prog 8 [a,b] h Q:=ax [(1,.jn [0,1,19]),(7,.jn [5])] func8 G
theorem C19(G:g19 a b c h Q):ah prog 19 [a,b,c] h Q:=ax [] func19 G
end
theorem ah6{v0 v1 h Q}(G:Y_ v0 v1 h Q):ah prog 112 [v0,v1] h Q:=ax [] func112 G
def Pa(v2 G v26:AV)(h:AH)(Q:QT):=(IxY 1 .n G (ArY .sub .n (LdY .n v26) (yi 1)) λv29 _=>MvY .n (LdY .n v29) λv2 _=>Q v2) h
def R8(v0 v2 G ad:AV)(h:AH)(Q:QT):=(St 1 ad G λ_=>wdR 12 λr=>FaY 0 .n (NcY .n (MvY .n v0)) λv22 _=>LdY .n v22 λv23 _=>FaY 1 .n (NcY .n (MvY .n v0)) λv26 _=>(Pa v2 v23 v26 · Q)) h
def Ds(G v2 v6 ad:AV)(h:AH)(Q:QT):=(ArY .geq .n v6 (LeY .n ad) λv12 _=>wI v12 (Q (I 0)) (Ar .add (Ld (Fa 1 (Nc G))) (xi 1) λv17=>Fa 1 (Nc G) λv19=>(R8 G v2 v17 v19 · Q))) h
def YS(G:AV)(h:AH)(Q:QT):=(wdR 10 λr=>FaY 1 .n (NcY .n (MvY .n G)) λv5 _=>LdY .n v5 λv6 _=>FaY 0 .n (NcY .n (MvY .n G)) λv9 _=>LdY .n v9 λv10 _=>(Ds G (I 0) v6 v10 · Q)) h
theorem ahT{v0 h Q}(G:YS v0 h Q):ah prog 113 [v0] h Q:=ax [] func113 G
def Yu(h:AH)(Q:QT):=(Bs 1 89 [.int .i32 0,.int .i32 0,.int .i32 0,.int .i32 0,.int .i32 0,.int .i32 0,.int .i32 0,.int .i32 0,.int .i32 0,.int .i32 0,.int .i32 0,.int .i32 0,.int .i32 0,.int .i32 0,.int .i32 0,.int .i32 0,.int .i32 0,.int .i32 0,.int .i32 0,.int .i32 0,.int .i32 0,.int .i32 0,.int .i32 0,.int .i32 0,.int .i32 0,.int .i32 0,.int .i32 0,.int .i32 0,.int .i32 0,.int .i32 0,.int .i32 0,.int .i32 0,.int .i32 0,.int .i32 0,.int .i32 0,.int .i32 0,.int .i32 0,.int .i32 0,.int .i32 0,.int .i32 0,.int .i32 0,.int .i32 0,.int .i32 0,.int .i32 0,.int .i32 0,.int .i32 0,.int .i32 0,.int .i32 0,.int .i32 0,.int .i32 0,.int .i32 0,.int .i32 0,.int .i32 0,.int .i32 0,.int .i32 0,.int .i32 0,.int .i32 0,.int .i32 0,.int .i32 0,.int .i32 0,.int .i32 0,.int .i32 0,.int .i32 0,.int .i32 0,.int .i32 0,.int .i32 0,.int .i32 0,.int .i32 0,.int .i32 0,.int .i32 0,.int .i32 0,.int .i32 0,.int .i32 0,.int .i32 0,.int .i32 0,.int .i32 0,.int .i32 0,.int .i32 0,.int .i32 0,.int .i32 0,.int .i32 0,.int .i32 0,.int .i32 0,.int .i32 0,.int .i32 0,.int .i32 0,.int .i32 0,.int .i32 0,.int .i32 0] [(0,1,.int .i32 97),(1,1,.int .i32 98),(2,1,.int .i32 102),(3,1,.int .i32 105),(4,1,.int .i32 88),(5,1,.int .i32 49),(6,1,.int .i32 50),(7,1,.int .i32 32),(8,1,.int .i32 32),(9,1,.int .i32 46),(10,1,.int .i32 44),(11,1,.int .i32 45),(12,1,.int .i32 39),(13,1,.int .i32 34),(14,1,.int .i32 40),(15,1,.int .i32 41),(16,1,.int .i32 91),(17,1,.int .i32 93),(18,1,.int .i32 60),(19,1,.int .i32 33),(20,1,.int .i32 58),(21,1,.int .i32 95),(22,1,.int .i32 37),(23,1,.int .i32 43),(24,1,.int .i32 47),(25,1,.int .i32 9),(26,1,.int .i32 10),(27,1,.int .i32 13),(28,1,.int .i32 11),(29,1,.int .i32 133),(30,1,.int .i32 160),(31,1,.int .i32 173),(32,1,.int .i32 183),(33,1,.int .i32 769),(34,1,.int .i32 1488),(35,1,.int .i32 1489),(36,1,.int .i32 1470),(37,1,.int .i32 1456),(38,1,.int .i32 1536),(39,1,.int .i32 1575),(40,1,.int .i32 1576),(41,1,.int .i32 1587),(42,1,.int .i32 1600),(43,1,.int .i32 1611),(44,1,.int .i32 1633),(45,1,.int .i32 1642),(46,1,.int .i32 1548),(47,1,.int .i32 1564),(48,1,.int .i32 1777),(49,1,.int .i32 2307),(50,1,.int .i32 2309),(51,1,.int .i32 2364),(52,1,.int .i32 4352),(53,1,.int .i32 4449),(54,1,.int .i32 4520),(55,1,.int .i32 44032),(56,1,.int .i32 44033),(57,1,.int .i32 8201),(58,1,.int .i32 8203),(59,1,.int .i32 8204),(60,1,.int .i32 8205),(61,1,.int .i32 8206),(62,1,.int .i32 8207),(63,1,.int .i32 8217),(64,1,.int .i32 8232),(65,1,.int .i32 8233),(66,1,.int .i32 8234),(67,1,.int .i32 8235),(68,1,.int .i32 8236),(69,1,.int .i32 8237),(70,1,.int .i32 8238),(71,1,.int .i32 8288),(72,1,.int .i32 8294),(73,1,.int .i32 8295),(74,1,.int .i32 8296),(75,1,.int .i32 8297),(76,1,.int .i32 9728),(77,1,.int .i32 12288),(78,1,.int .i32 12289),(79,1,.int .i32 12300),(80,1,.int .i32 12301),(81,1,.int .i32 12450),(82,1,.int .i32 19968),(83,1,.int .i32 65039),(84,1,.int .i32 127462),(85,1,.int .i32 127463),(86,1,.int .i32 127995),(87,1,.int .i32 128104),(88,1,.int .i32 1114111)] λv1=>Q v1) h
theorem ahY{h Q}(G:Yu h Q):ah prog 111 [] h Q:=ax [] func111 G
section
variable (x:AX)(r:Nat)(c0 c1 c2 c3 c4 c5 c6 c7 c9 c11 c12 c13 c14 c15 c18 c21 c22 c23:Rec)(a j c d e f i s S T m g t v w P W z L M p q l R A o v27 v28 v29 H u v32 v33 v34 v35 v36 v37 y v39 v40 v41 v42 v43 v44 N v47 v48 B v53 v54 v55 v57 U v60 v61 v64 v66 v67 v70 v72 v73 v74 v75 v77 v79 v80 v81 v82 v83 v87 v88 v90 v92 v93 v95 v96 v99 v100 V v102 v106 C v110 v111 v118 v121 v123 v124 v125 v130 v150 v161 v163 v169 v180 v191 v214 v223:AV)(h:AH)(Q:QT)(k:NT)(K:KT)(J:JT)
def SW:=(Ld (Ix 1 m w) λW=>Q W) h
def g80:=(Ca 111 [] λe=>wI (Ca 112 [a,xi 40]) (Cv .i32 (Ca 113 [a]) λT=>Q T) (Ca 8 [a,Le e] λw=>(SW e w · Q))) h
def SZ:=(Ap 1 4 q (Bs 1 1 [.int .i32 0] [(0,1,R)]) λo=>Ar .add T (xi 1) λp=>K .nrm [a,f,i,s,o,p] [a,f,i,s,o]) h
def HQ:=(wI (Ar .lss T (xi 5)) (Ca 80 [a] λR=>(SZ a f i s T S R · K)) (K (.exit 0) [a,f,i,s,S,T] [a,f,i,s,S])) h
def Xn:=(Ld (Ix 1 v34 v36) λy=>Ap 1 4 v33 (Bs 1 1 [.int .i32 0] [(0,1,y)]) λv40=>k [a,f,v40,s,S,m]) h
def SV:=(Ap 1 4 v41 (Bs 1 1 [.int .i32 0] [(0,1,v43)]) λN=>k [a,f,N,s,S,m]) h
def ED:=(wI (Ar .gtr s (xi 0)) (Ca 8 [a,xi 5] λv36=>(Xn a f s S m i S v36 · k)) (Ca 80 [a] λv43=>(SV a f s S m i v43 · k))) h
def Tx:=(Ar .add m (xi 1) λH=>K .nrm [a,f,i,s,S,H] [i]) h
def EI:=(wI (Ar .lss m f) (wJ (ED a f i s S m) (nJ6 Tx K)) (K (.exit 2) [a,f,i,s,S,m] [i])) h
def G8:=(Q i) h
def Uc:=(wX x ((G8 i · Q)) [(2,(G8 i · Q))] (Q .undef)) h
def EZ:=(wL (nL6 EI) [a,f,i,s,S,I 0] (nX1 Uc Q)) h
def SQ:=(wX x ((EZ a f i s S · Q)) [(0,(EZ a f i s S · Q))] (Q .undef)) h
def g38:=(Ca 8 [a,Ar .add j (xi 1)] λw=>Ca 8 [a,xi 3] λW=>wL (nL6 HQ) [a,w,.D,W,.D,I 0] (nX5 SQ Q)) h
def g37(a j:AV)(h:AH)(Q:QT):=(o0 (λh=>kX h .r2s [j]) λi=>o0 (λh=>kX h .s2r [i]) λs=>Q s) h
def Fy:=(wI w (Sli 1 none (some j) none f λz=>k [z]) (k [f])) h
def WV:=(Q f) h
def g23:=(Ca 37 [a,Ca 38 [a,j]] λm=>Ar .gtr (Le m) j λw=>wJ (Fy j m w) (nJ1 WV Q)) h
def Ws:=(Cv .u8 (Ar .add (xi 97) l) λA=>Ix 1 M p λo=>St 1 o A λ_=>Ar .add s (xi 1) λL=>K .nrm [a,f,i,L] [i]) h
def Fe:=(wI (Ar .lss s f) (Ca 8 [a,xi 4] λl=>(Ws a f i s i s l · K)) (K (.exit 0) [a,f,i,s] [i])) h
def Gr:=(o0 (λh=>kX h .b2s [i]) λv27=>Q v27) h
def Wx:=(wX x ((Gr i · Q)) [(0,(Gr i · Q))] (Q .undef)) h
def g35:=(Ca 8 [a,Ar .add j (xi 1)] λg=>Mk 1 1 [.int .u8 0] g g λv=>wL (nL4 Fe) [a,g,v,I 0] (nX1 Wx Q)) h
def Ua:=(St 4 e L λ_=>wV [.cell e (some 4)] Q) h
def SU:=(St 4 e (Bd [I 0,I 0,.str [],.D] [(0,1,I 3),(2,1,l)]) λ_=>wV [.cell e (some 4)] Q) h
def WX:=(IxY 4 .n v39 v40 λv41 _=>CaY 36 [v37,LnY 4 .n v41] λv43 c8=>wdA (r+9) (ij 4 1 [I 0,I 0,.str [],.D] [(0,4,v43)]) λv44 c9=>ApE 4 56 v36 v44 λN _ h=>(StE 1 (FaY 3 .n f) N λ_ _ h=>(wK c1 c8 <| wK c1 c9 <| k [a,d,e,f,i]) h) h) h
def Tf:=(wI (Ar .gtr (Ca 8 [a,xi 3]) (xi 0)) (wdR 13 λr=>FaY 3 .n f λv35 _=>LdY .n v35 λv36 c1=>MvY .n a λv37 _=>FaY 3 .n d λy _=>LdY .n y λv39 _=>MvY .n i λv40 _=>(WX r c1 a d e f i v36 v37 v39 v40 · k)) (k [a,d,e,f,i])) h
def UX:=(Ar .add i (xi 1) λu=>K .nrm [a,d,e,f,u] [e,f]) h
def H7:=(wI (Ar .lss i (Le (Ld (Fa 3 d)))) (wJ (Tf a d e f i) (nJ5 UX K)) (K (.exit 1) [a,d,e,f,i] [e,f])) h
def FV:=(St 4 e (Ln 4 f) λ_=>wV [.cell e (some 4)] Q) h
def SX:=(wX x ((FV e f · Q)) [(1,(FV e f · Q))] (wV [.cell e (some 4)] Q)) h
def VF:=(Nw [I 0,I 0,.str [],.D] λf=>St 4 f A λ_=>wL (nL5 H7) [a,d,e,f,I 0] (nX2 SX Q)) h
def g36:=(Bx j λd=>Nw [I 0,I 0,.str [],.D] λe=>Ld (Fa 0 d) λS=>wI (Ar .eql S (xi 1)) (Ca 19 [a,xi (-3),xi 9] λt=>St 4 e (Bd [I 0,I 0,.str [],.D] [(0,1,I 1),(1,1,t)]) λ_=>wV [.cell e (some 4)] Q) (wI (Ar .eql S (xi 2)) (Ca 8 [a,xi 2] λz=>Bd [I 0,I 0,.str [],.D] [(0,1,I 2),(1,1,z)] λL=>(Ua e L · Q)) (wI (Ar .eql S (xi 3)) (Ca 35 [a,xi 4] λl=>(SU e l · Q)) (Bd [I 0,I 0,.str [],.D] [(0,1,I 4)] λA=>(VF a d e A · Q))))) h
def yK:=(wI z (k [a,j,e,g,z]) (Ar .eql g (xi 2) λM=>k [a,j,e,g,M])) h
def Wz:=(StE 1 (FaY 3 .n f) v53 λ_ _ h=>(wK c1 c4 <| wK c1 c5 <| Ar .add S (xi 1) λv46=>K .nrm [a,e,f,i,s,v46] [e,f]) h) h
def Fl:=(wI (Ar .lss S i) (wdR 9 λr=>FaY 3 .n f λv47 _=>LdY .n v47 λv48 c1=>CaY 36 [MvY .n a,LnY 4 .n s] λv51 c4=>wdA (r+5) (ij 4 1 [I 0,I 0,.str [],.D] [(0,4,v51)]) λB c5=>ApE 4 56 v48 B λv53 _ h=>((Wz c1 c4 c5 a e f i s S v53 · K)) h) (K (.exit 1) [a,e,f,i,s,S] [e,f])) h
def E0:=(k [e,f]) h
def Tb:=(wX x ((E0 e f · k)) [(1,(E0 e f · k))] (wF)) h
def V_:=(Ap 4 56 v37 v39 λv40=>Fa 3 f λv41=>St 1 v41 v40 λ_=>wL (nL6 Fl) [a,e,f,i,s,I 1] (nX2 Tb k)) h
def FW:=(wI u (Ca 22 [a,Ar .sub j (xi 1)] λv35=>Nw [I 0,I 0,.str [],.D] λs=>St 4 s v35 λ_=>Ld (Fa 3 f) λv37=>Ln 4 s λy=>Bs 4 1 [I 0,I 0,.str [],.D] [(0,4,y)] λv39=>(V_ a e f i s v37 v39 · k)) (k [e,f])) h
def Ho:=(St 4 e (Ln 4 f) λ_=>J .ret [.undef,e]) h
def r6:=(wI z (Ca 35 [a,xi 4] λq=>St 4 e (Bd [I 0,I 0,.str [],.D] [(0,1,I 3),(2,1,q)]) λ_=>J .ret [a,e]) (wI (Ar .eql g (xi 3)) (wI (Ar .gtr j (xi 0)) (Bd [I 0,I 0,.str [],.D] [(0,1,I 4)] λv27=>Nw [I 0,I 0,.str [],.D] λf=>St 4 f v27 λ_=>Ca 8 [a,xi 4] λv29=>Ar .gtr v29 (xi 0) λu=>wJ (FW a j e f v29 u) (nJ2 Ho J)) (J .nrm [a,e])) (J .nrm [a,e]))) h
def ya:=(wI (Ar .eql g (xi 0)) (Ca 8 [a,xi 2] λP=>St 4 e (Bd [I 0,I 0,.str [],.D] [(0,1,I 2),(1,1,P)]) λ_=>J .ret [a,e]) (Ar .eql g (xi 1) λL=>wJ (yK a j e g L) (nJ5 r6 J))) h
def UP:=(Ld (Ix 1 v57 v61) λv63=>St 4 e (Bd [I 0,I 0,.str [],.D] [(0,1,I 1),(1,1,v63)]) λ_=>wV [.cell e (some 4)] Q) h
def yv:=(wX x (Bs 1 10 [I 0,I 0,I 0,I 0,I 0,I 0,I 0,I 0,I 0,I 0] [(0,1,I 0),(1,1,I 1),(2,1,I 2),(3,1,I 3),(4,1,I (-1)),(5,1,I 7),(6,1,I 10),(7,1,I 1099511627776),(8,1,I (-1099511627776)),(9,1,I 1099511627775)] λv56=>Ca 8 [a,Le v56] λv61=>(UP e v56 v61 · Q)) [] (wV [.cell e (some 4)] Q)) h
def g22:=(Nw [I 0,I 0,.str [],.D] λe=>Ca 8 [a,xi 5] λg=>wJx (ya a j e g) (nX2 yv Q)) h
def Vz:=(Ld (Ix 1 T g) λv=>St 3 c (Bd [.bool false,.bool false,I 0] [(0,1,f),(1,1,S),(2,1,v)]) λ_=>wV [.cell c (some 3)] Q) h
def T8:=(Ar .eql s (xi 1) λS=>Bs 1 5 [I 0,I 0,I 0,I 0,I 0] [(0,1,I 100),(1,1,I 100),(2,1,I 50),(3,1,I 150),(4,1,I 400)] λT=>Ca 8 [a,xi 5] λg=>(Vz c f S T g · Q)) h
def Wj:=(Ar .eql e (xi 1) λf=>Ca 8 [a,xi 2] λs=>(T8 a c f s · Q)) h
def g21:=(Nw [.bool false,.bool false,I 0] λc=>Ca 8 [a,xi 2] λe=>(Wj a c e · Q)) h
def TG:=(K .nrm [a,d,e,t] [e]) h
def UE(r:Nat)(a d e f v M:AV)(h:AH)(k:KT):=(LdY .n M λp c7=>CaY 8 [MvY .n a,yi 3] λl c9=>BdY [I 0,I 0] [(0,1,p),(1,1,l)] .n λR _=>wdA (r+11) (ij 2 1 [I 0,I 0] [(0,2,R)]) λA c11=>ApE 2 16 v A λo _ h=>(MvY .n o λe _=>wK c7 c9 <| Ar .sub f (xi 1) λt=>(TG a d e t · k)) h) h
def Gt:=(wI (Ar .gtr f (xi 0)) (wdR 14 λr=>MvY .n e λv _=>IxY 1 .n (MvY .n d) (CaY 8 [MvY .n a,LeY .n (MvY .n d)]) λM _=>(UE r a d e f v M · K)) (K (.exit 0) [a,d,e,f] [e])) h
def GW:=(Q e) h
def VB:=(wX x ((GW e · Q)) [(0,(GW e · Q))] (Q .undef)) h
def g20:=(Bs 1 7 [I 0,I 0,I 0,I 0,I 0,I 0,I 0] [(0,1,I 97),(1,1,I 107),(2,1,I 99),(3,1,I 49),(4,1,I 32),(5,1,I 2),(6,1,I 12)] λi=>Ca 19 [a,xi 1,xi 3] λS=>wL (nL4 Gt) [a,i,.D,S] (nX1 VB Q)) h
def Xz:=(Bd [I 0,I 0,I 0,I 0,I 0,I 0] [(0,1,P),(1,1,z),(2,1,L),(3,1,p),(4,1,l),(5,1,A)] λo=>St 37 c (Bd z37 [(0,1,I 1),(1,6,o)]) λ_=>wV [.cell c (some 37)] Q) h
def X2:=(Ca 19 [a,xi (-9),xi 9] λA=>(Xz c P z L p l A · Q)) h
def XD:=(Un .neg d λp=>Ca 8 [a,xi 99] λl=>(X2 a c P z d p l · Q)) h
def IT:=(Ca 8 [a,xi 9] λz=>(XD a c d P z · Q)) h
def XY:=(LnY 2 .n u λv32 c3=>CaY 8 [MvY .n a,yi 99] λv34 c5=>StE 37 c (BdY z37 [(0,1,I 2),(7,2,v32),(9,1,v34)] .n) λ_ _ h=>(wK c3 c5 <| wV [.cell c (some 37)] Q) h) h
def Xx:=(Bd [I 0,I 0] [(0,1,v42),(1,1,v44)] λN=>St 37 c (Bd z37 [(0,1,I 4),(10,2,N)]) λ_=>wV [.cell c (some 37)] Q) h
def XQ:=(StE 1 v67 v66 λ_ _ h=>(wK c1 c3 <| wK c1 c4 <| Ar .sub f (xi 1) λv60=>K .nrm [a,c,e,v60] [c,e]) h) h
def IC:=(wI (Ar .gtr f (xi 0)) (wdR 8 λr=>FaY 15 .n e λv61 _=>LdY .n v61 λv62 c1=>CaY 22 [MvY .n a,yi 2] λv64 c3=>wdA (r+4) (ij 4 1 [I 0,I 0,.str [],.D] [(0,4,v64)]) λv65 c4=>ApE 4 56 v62 v65 λv66 _ h=>(FaY 15 .n e λv67 _=>(XQ c1 c3 c4 a c e f v66 v67 · K)) h) (K (.exit 1) [a,c,e,f] [c,e])) h
def Iz:=(St 37 c (Ln 37 e) λ_=>wV [.cell c (some 37)] Q) h
def ag5:=(Pk v95 xt v99 λv100=>k [.undef,c,i,v100]) h
def agk:=(wS (Ar .eql (Ld (Fa 0 (Fa 22 i))) (xi 15)) λv95=>ArG false v95 .eql (LdG false v95 (FaG false v95 0 (FaG false v95 22 i))) (xi 16) λv99=>(ag5 c i v95 v99 · k)) h
def ahf:=(St 1 (Fa 1 (Fa 22 i)) v102 λ_=>k [a,c,i]) h
def afX:=(wI v100 (Ca 23 [a,xi 5] λv102=>(ahf a c i v102 · k)) (k [a,c,i])) h
def ad2:=(K .nrm [a,c,i,v118] [c,i]) h
def afJ:=(ArY .eql .n v125 (yi 1) λv126 _=>BdY [I 0,.bool false] [(0,1,v123),(1,1,v126)] .n λv127 _=>wdA (r+9) (ij 2 1 [I 0,.bool false] [(0,2,v127)]) λv128 c9=>ApE 2 16 v121 v128 λv129 _ h=>(StE 1 (FaY 13 .n (FaY 22 .n i)) v129 λ_ _ h=>(wK c2 c4 <| wK c2 c6 <| wK c2 c9 <| Ar .sub s (xi 1) λv118=>(ad2 a c i v118 · K)) h) h) h
def af9:=(wI (Ar .gtr s (xi 0)) (wdR 14 λr=>FaY 13 .n (FaY 22 .n i) λv120 _=>LdY .n v120 λv121 c2=>CaY 19 [MvY .n a,yi 1,yi 3] λv123 c4=>CaY 8 [MvY .n a,yi 2] λv125 c6=>(afJ r c2 c4 c6 a c i s v121 v123 v125 · K)) (K (.exit 3) [a,c,i,s] [c,i])) h
def X_:=(k [c,i]) h
def agS:=(wX x ((X_ c i · k)) [(3,(X_ c i · k))] (wF)) h
def ae2:=(St 1 (Fa 12 (Fa 22 i)) v110 λ_=>Ca 8 [a,xi 3] λv114=>wL (nL4 af9) [a,c,i,v114] (nX2 agS k)) h
def agl:=(wI C (Ca 8 [a,xi 6] λv110=>(ae2 a c i v110 · k)) (k [c,i])) h
def af0:=(St 37 c (Ln 37 i) λ_=>wV [.cell c (some 37)] Q) h
def afg:=(Ar .eql (Ld (Fa 0 (Fa 22 i))) (xi 15) λC=>wJ (agl a c i C) (nJ2 af0 Q)) h
def ae7:=(wJ (afX a c i v100) (nJ3 afg Q)) h
def aes:=(Bd [I 0,.D,.D,.D,I 0,I 0,.bool false,I 0,I 0,I 0,I 0,I 0,I 0,.D,I 0] [(0,1,v88)] λv89=>Bd z37 [(0,1,I 8),(22,15,v89)] λv90=>Nw z37 λi=>St 37 i v90 λ_=>wJ (agk c i) (nJ4 ae7 Q)) h
def Tz:=(wX x ((Iz c e · Q)) [(1,(Iz c e · Q)),(0,Ca 19 [AV.undef,xi 14,xi 17] λv88=>(aes c v88 · Q))] (wV [.cell c (some 37)] Q)) h
def WM:=(o0 (λh=>kX h .r2s [v83]) λv84=>Bd [I 0,I 0,I 0,I 0,I 0,.str []] [(0,1,v72),(1,1,v73),(2,1,v77),(3,1,v79),(4,1,v81),(5,1,v84)] λv85=>St 37 c (Bd z37 [(0,1,I 7),(16,6,v85)]) λ_=>wV [.cell c (some 37)] Q) h
def WL:=(Ca 23 [a,xi 4] λv83=>(WM c v72 v73 v77 v79 v81 v83 · Q)) h
def UM:=(Ca 8 [a,xi 9] λv81=>(WL a c v72 v73 v77 v79 v81 · Q)) h
def TK:=(Ar .shl (xi 1) (Cv .u64 v75) λv77=>Ca 8 [a,xi 9] λv79=>(UM a c v72 v73 v77 v79 · Q)) h
def FH:=(Ca 8 [a,xi 9] λv75=>(TK a c v72 d v75 · Q)) h
def yo:=(Pk v95 xt v99 λv100=>k [a,c,i,v100]) h
def yP:=(wS (Ar .eql (Ld (Fa 0 (Fa 22 i))) (xi 15)) λv95=>ArG false v95 .eql (LdG false v95 (FaG false v95 0 (FaG false v95 22 i))) (xi 16) λv99=>(yo a c i v95 v99 · k)) h
def T6:=(St 1 (Fa 1 (Fa 22 i)) v102 λ_=>k [a,c,i]) h
def F9:=(wI v100 (Ca 23 [a,xi 5] λv102=>(T6 a c i v102 · k)) (k [a,c,i])) h
def UL:=(K .nrm [a,c,i,v118] [c,i]) h
def Uu:=(ArY .eql .n v125 (yi 1) λv126 _=>BdY [I 0,.bool false] [(0,1,v123),(1,1,v126)] .n λv127 _=>wdA (r+9) (ij 2 1 [I 0,.bool false] [(0,2,v127)]) λv128 c9=>ApE 2 16 v121 v128 λv129 _ h=>(StE 1 (FaY 13 .n (FaY 22 .n i)) v129 λ_ _ h=>(wK c2 c4 <| wK c2 c6 <| wK c2 c9 <| Ar .sub s (xi 1) λv118=>(UL a c i v118 · K)) h) h) h
def yz:=(wI (Ar .gtr s (xi 0)) (wdR 14 λr=>FaY 13 .n (FaY 22 .n i) λv120 _=>LdY .n v120 λv121 c2=>CaY 19 [MvY .n a,yi 1,yi 3] λv123 c4=>CaY 8 [MvY .n a,yi 2] λv125 c6=>(Uu r c2 c4 c6 a c i s v121 v123 v125 · K)) (K (.exit 3) [a,c,i,s] [c,i])) h
def Gn:=(k [c,i]) h
def Eo:=(wX x ((Gn c i · k)) [(3,(Gn c i · k))] (wF)) h
def Vw:=(St 1 (Fa 12 (Fa 22 i)) v110 λ_=>Ca 8 [a,xi 3] λv114=>wL (nL4 yz) [a,c,i,v114] (nX2 Eo k)) h
def He:=(wI C (Ca 8 [a,xi 6] λv110=>(Vw a c i v110 · k)) (k [c,i])) h
def xY:=(St 37 c (Ln 37 i) λ_=>wV [.cell c (some 37)] Q) h
def Ih:=(Ar .eql (Ld (Fa 0 (Fa 22 i))) (xi 15) λC=>wJ (He a c i C) (nJ2 xY Q)) h
def Vy:=(wJ (F9 a c i v100) (nJ3 Ih Q)) h
def E4:=(Bd [I 0,.D,.D,.D,I 0,I 0,.bool false,I 0,I 0,I 0,I 0,I 0,I 0,.D,I 0] [(0,1,v88)] λv89=>Bd z37 [(0,1,I 8),(22,15,v89)] λv90=>Nw z37 λi=>St 37 i v90 λ_=>wJ (yP a c i) (nJ4 Vy Q)) h
def uQ:=(wI v48 (Ca 21 [a] λv50=>St 37 c (Bd z37 [(0,1,I 5),(12,3,v50)]) λ_=>wV [.cell c (some 37)] Q) (wI (Ar .eql g (xi 5)) (Bd z37 [(0,1,I 6)] λv54=>Nw z37 λe=>St 37 e v54 λ_=>Ca 8 [a,xi 3] λv56=>wL (nL4 IC) [a,c,e,v56] (nX2 Tz Q)) (wI (Ar .eql g (xi 6)) (Ca 8 [a,xi 9] λv72=>(FH a c d v72 · Q)) (Ca 19 [a,xi 14,xi 17] λv88=>(E4 a c v88 · Q))))) h
def g9:=(Nw z37 λc=>Ca 19 [a,xi (-3),xi 999] λT=>Ca 8 [a,xi 8] λg=>wI (Ar .eql g (xi 0)) (Ca 19 [a,xi 1,xi 6] λP=>(IT a c T P · Q)) (wI (Ar .eql g (xi 1)) (wdR 8 λr=>IxY 2 .n (CaY 20 [MvY .n a]) (yi 0) λu _=>(XY a c u · Q)) (wI (Ar .eql g (xi 2)) (St 37 c (Bd z37 [(0,1,I 3),(9,1,T)]) λ_=>wV [.cell c (some 37)] Q) (wI (Ar .eql g (xi 3)) (Ca 8 [a,xi 99] λv44=>(Xx c T v44 · Q)) (Ar .eql g (xi 4) λv48=>(uQ a c T g v48 · Q)))))) h
def yN:=(Pk W xt q λl=>k [a,d,e,l]) h
def xU:=(wS (Ar .lss (Ld (Ix 1 a e)) (xi (-1099511627776))) λW=>ArG false W .gtr (LdG false W (IxG false W 1 (qm false W a) (qm false W e))) (xi 1099511627776) λq=>(yN a d e W q · k)) h
def Th:=(Ar .add R (Ar .add (xs' [32]) v28) λH=>Ar .add e (xi 1) λm=>K .nrm [a,H,m] [.undef,H]) h
def HJ:=(wI l (K .ret [a,d,e] [.str [33],d]) (Ca 81 [Ld (Ix 1 a e)] λv28=>(Th a e d v28 · K))) h
def Gg:=(wI (Ar .lss e (Le a)) (wJ (xU a d e) (nJ4 HJ K)) (K (.exit 0) [a,d,e] [.undef,d])) h
def H4:=(Q d) h
def Ga:=(wX x ((H4 d · Q)) [(0,(H4 d · Q))] (Q c)) h
def g40:=(wL (nL3 Gg) [a,.str [],I 0] (nX2 Ga Q)) h
def yB:=(wI q (k [a,d,e,w,q]) (Ar .eql w (xn .u8 34) λR=>k [a,d,e,w,R])) h
def yj:=(wI q (Is a e λv27=>Ap 1 1 d (Bs 1 2 [.int .u8 0,.int .u8 0] [(0,1,.int .u8 92),(1,1,v27)]) λv29=>k [a,v29,e]) (wI (Ar .eql w (xn .u8 10)) (Ap 1 1 d (Bs 1 2 [.int .u8 0,.int .u8 0] [(0,1,.int .u8 92),(1,1,.int .u8 110)]) λv34=>k [a,v34,e]) (Is a e λL=>Ap 1 1 d (Bs 1 1 [.int .u8 0] [(0,1,L)]) λp=>k [a,p,e]))) h
def U_:=(Is a e λw=>Ar .eql w (xn .u8 92) λl=>wJ (yB a d e w l) (nJ5 yj k)) h
def Tt:=(Ar .add e (xi 1) λg=>K .nrm [a,d,g] [d]) h
def Gy:=(wI (Ar .lss e (Ls a)) (wJ (U_ a d e) (nJ3 Tt K)) (K (.exit 0) [a,d,e] [d])) h
def Gz:=(Ap 1 1 d (Bs 1 1 [.int .u8 0] [(0,1,.int .u8 34)]) λv37=>o0 (λh=>kX h .b2s [v37]) λy=>Q y) h
def Ut:=(wX x ((Gz d · Q)) [(0,(Gz d · Q))] (Q .undef)) h
def g45:=(Bs 1 1 [.int .u8 0] [(0,1,.int .u8 34)] λf=>wL (nL3 Gy) [a,f,I 0] (nX1 Ut Q)) h
def S8:=(Q (.str [116,114,117,101])) h
def Vb:=(Q (.str [102,97,108,115,101])) h
def Vh:=(Ca 45 [p] λq=>Q q) h
def H0:=(wI H (Ar .add d (xs' [32]) λv32=>k [j,v32,e]) (k [j,d,e])) h
def SO:=(Ar .add d (Ca 43 [Ln 4 (Ix 4 (Ld (Fa 3 j)) e)]) λv40=>Ar .add e (xi 1) λv28=>K .nrm [j,v40,v28] [v40]) h
def GZ:=(wI (Ar .lss e (Le (Ld (Fa 3 j)))) (Ar .gtr e (xi 0) λH=>wJ (H0 j d e H) (nJ3 SO K)) (K (.exit 1) [j,d,e] [d])) h
def H9:=(Ar .add d (xs' [93]) λv42=>Q v42) h
def WR:=(wX x ((H9 d · Q)) [(1,(H9 d · Q))] (Q .undef)) h
def g43:=(Bx a λj=>Ld (Fa 0 j) λi=>wI (Ar .eql i (xi 1)) (Ca 81 [Ld (Fa 1 j)] λg=>Q g) (wI (Ar .eql i (xi 2)) (wI (Ar .eql (Ld (Fa 1 j)) (xi 1)) ((S8 · Q)) ((Vb · Q))) (wI (Ar .eql i (xi 3)) (Ld (Fa 2 j) λp=>(Vh p · Q)) (wL (nL3 GZ) [j,.str [91],I 0] (nX1 WR Q))))) h
def HA:=(CgY false l 39 [] λv26 c8=>PkY .n l yt (ArY .geq (.b l) o (LeY (.b l) v26)) λv29 _=>wK c7 c8 <| k [j,v29]) h
def xQ:=(wdR 12 λr=>FaY 0 .n (FaY 1 .n j) λM _=>wSy (MvY .n (ArY .lss .n (LdY .n M) (yi 1))) λl=>FaY 0 (.b l) (FaY 1 (.b l) j) λA _=>LdY (.b l) A λo c7=>(HA c7 j l o · k)) h
def Tq:=(MvY .n (ArY .add .n v36 v53) λc _=>wK c0 c3 <| wK c0 c9 <| wK c0 c12 <| wK c0 c15 <| wK c0 c18 <| wK c0 c21 <| wK c3 c22 <| wK c5 c22 <| wK c3 c23 <| wK c5 c23 <| Q c) h
def Tu:=(FaY 4 .n (FaY 1 .n j) λv47 _=>LdY .n v47 λv48 c18=>FaY 5 .n (FaY 1 .n j) λv50 _=>LdY .n v50 λv51 c21=>wdA (r+22) (ij 1 5 [I 0,I 0,I 0,I 0,I 0] [(0,1,v39),(1,1,v42),(2,1,N),(3,1,v48),(4,1,v51)]) λB c22=>CaY 40 [B] λv53 c23=>(Tq c0 c3 c5 c9 c12 c15 c18 c21 c22 c23 v36 v53 · Q)) h
def UH:=(FaY 1 .n v37 λy _=>LdY .n y λv39 c9=>FaY 2 .n (FaY 1 .n j) λv41 _=>LdY .n v41 λv42 c12=>FaY 3 .n (FaY 1 .n j) λv44 _=>LdY .n v44 λN c15=>(Tu r c0 c3 c5 c9 c12 c15 j v36 v39 v42 N · Q)) h
def yu:=(wI v29 (Q (.str [])) (wdR 26 λr=>CaY 39 [] λH c0=>FaY 0 .n (FaY 1 .n j) λv32 _=>LdY .n v32 λv33 c3=>IxY 1 .n H v33 λv34 _=>LdY .n v34 λv35 c5=>ArY .add .n (ys [112,111,105,110,116,101,114,32]) v35 λv36 _=>FaY 1 .n j λv37 _=>(UH r c0 c3 c5 j v36 v37 · Q))) h
def V5:=(Q v70) h
def UR:=(Ex 0 v61 λv62=>Ex 1 v61 λv63=>Ar .add (xs' [107,101,121,32]) v62 λv65=>Ld (Fa 9 j) λv67=>Ar .add v65 (Ca 40 [Bs 1 1 [I 0] [(0,1,v67)]]) λv70=>(V5 v70 · Q)) h
def Gd:=(Ca 41 [v60] λv61=>(UR j v61 · Q)) h
def HW:=(Ar .add (xs' [116,105,109,101]) (Ca 40 [Bs 1 1 [I 0] [(0,1,v74)]]) λv77=>Q v77) h
def Wi:=(Q v88) h
def DG:=(Ld (Fa 0 v80) λv82=>Ld (Fa 1 (Fa 10 j)) λv85=>Ar .add (xs' [115,105,122,101]) (Ca 40 [Bs 1 2 [I 0,I 0] [(0,1,v82),(1,1,v85)]]) λv88=>(Wi v88 · Q)) h
def HX:=(wI v93 (k [j,.str [100,97,114,107],s]) (k [j,i,s])) h
def FR:=(wI v96 (k [j,i,.str [104,105,103,104]]) (k [j,i,s])) h
def PU:=(Ar .add V v106 λv107=>Q v107) h
def TI:=(Ar .add (Ar .add (Ar .add (xs' [109,111,100,101,32]) i) (xs' [32])) s λV=>Ld (Fa 2 (Fa 12 j)) λv104=>Ca 40 [Bs 1 1 [I 0] [(0,1,v104)]] λv106=>(PU V v106 · Q)) h
def TA:=(Ld (Fa 1 (Fa 12 j)) λv96=>wJ (FR j i s v96) (nJ3 TI Q)) h
def RD:=(Ar .add v124 (Ar .add (xs' [32]) v130) λv132=>Ar .add S (xi 1) λv116=>K .nrm [j,v132,v116] [.undef,v132]) h
def PG:=(wI (Ar .neq (Ca 42 [v121]) (xi 0)) (K .ret [j,d,S] [.str [],d]) (Ca 43 [Ln 4 (Ix 4 (Ld (Fa 15 j)) S)] λv130=>(RD j S d v130 · K))) h
def GP:=(wI (Ar .lss S (Le (Ld (Fa 15 j)))) (Ln 4 (Ix 4 (Ld (Fa 15 j)) S) λv121=>(PG j d S v121 · K)) (K (.exit 1) [j,d,S] [.undef,d])) h
def Hj:=(Q d) h
def HL:=(wX x ((Hj d · Q)) [(1,(Hj d · Q)),(0,Q (.str []))] (Q c)) h
def Sv:=(Ld (Ix 1 v150 m) λv153=>k [v153,T,m]) h
def Ch:=(wI (Ar .eql (Ld (Fa 2 T)) (Ar .shl (xi 1) (Cv .u64 m))) (Ca 44 [] λv150=>(Sv T m v150 · k)) (k [d,T,m])) h
def OU:=(Ar .add m (xi 1) λv143=>K .nrm [d,T,v143] [d,T]) h
def Dr:=(wI (Ar .lss m (Le (Ca 44 []))) (wJ (Ch d T m) (nJ3 OU K)) (K (.exit 3) [d,T,m] [d,T])) h
def O3:=(ArY .add .n (ArY .add .n v163 v169) (ys [32]) λv171 _=>FaY 5 .n T λv172 _=>LdY .n v172 λv173 c19=>MvY .n (ArY .add .n v171 (CaY 45 [v173])) λc _=>wK c4 c11 <| wK c5 c11 <| wK c4 c13 <| wK c5 c13 <| wK c1 c14 <| wK c3 c14 <| wK c4 c19 <| wK c5 c19 <| wK c14 c19 <| wK c15 c19 <| Q c) h
def RF:=(ArY .add .n v161 (MvY .n d) λv163 _=>FaY 3 .n T λv164 _=>LdY .n v164 λv165 c11=>FaY 4 .n T λv166 _=>LdY .n v166 λv167 c13=>wdA (r+14) (ij 1 2 [I 0,I 0] [(0,1,v165),(1,1,v167)]) λv168 c14=>CaY 40 [v168] λv169 c15=>(O3 c1 c3 c4 c5 c11 c13 c14 c15 T v163 v169 · Q)) h
def Cs:=(wdR 23 λr=>FaY 0 .n T λv154 _=>LdY .n v154 λv155 c1=>FaY 1 .n T λv156 _=>LdY .n v156 λv157 c3=>wdA (r+4) (ij 1 2 [I 0,I 0] [(0,1,v155),(1,1,v157)]) λv158 c4=>CaY 40 [v158] λv159 c5=>ArY .add .n (ArY .add .n (ys [97,99,99,101,115,115]) v159) (ys [32]) λv161 _=>(RF r c1 c3 c4 c5 d T v161 · Q)) h
def Pm:=(wX x ((Cs d T · Q)) [(3,(Cs d T · Q)),(0,Q (.str []))] (Q .undef)) h
def Sf:=(Ar .add (xs' [99,111,109,112,111,115,101,32,99,111,109,109,105,116,32]) v191 λv192=>Q v192) h
def CN:=(wI v223 (Un .neg v λv225=>k [d,g,t,v225]) (k [d,g,t,v])) h
def QW:=(Ar .add d (Ca 40 [Bs 1 1 [I 0] [(0,1,v)]]) λv230=>Ar .add t (xi 1) λv209=>K .nrm [v230,g,v209] [.undef,v230]) h
def BV:=(Ld v214 λv215=>wI (Ar .lss v215 (xi 0)) (K .ret [d,g,t] [.str [],d]) (Ld (Fa 1 (Ix 2 (Ld (Fa 13 g)) t)) λv223=>wJ (CN d g t v215 v223) (nJ4 QW K))) h
def Br:=(wI (Ar .lss t (Le (Ld (Fa 13 g)))) (Fa 0 (Ix 2 (Ld (Fa 13 g)) t) λv214=>(BV d g t v214 · K)) (K (.exit 6) [d,g,t] [.undef,d])) h
def DP:=(Q d) h
def BP:=(wX x ((DP d · Q)) [(6,(DP d · Q)),(0,Q (.str []))] (Q c)) h
def Si(r:Nat)(c1 c2 c3:Rec)(d g v196:AV)(h:AH)(Q:QT):=(ArY .add .n (ys [99,111,109,112,111,115,101,32,117,112,100,97,116,101,32]) v196 λv197 _=>FaY 12 .n g λv198 _=>LdY .n v198 λv199 c6=>wdA (r+7) (ij 1 1 [I 0] [(0,1,v199)]) λv200 c7=>MvY .n (ArY .add .n v197 (CaY 40 [v200])) λd _=>wK c3 c6 <| wK c1 c7 <| wK c2 c7 <| wL (nL3 Br) [d,g,I 0] (nX2 BP Q)) h
def OW:=(Ld v180 λv181=>wI (Ar .eql v181 (xi 14)) (Q (.str [99,111,109,112,111,115,101,32,98,101,103,105,110])) (wI (Ar .eql v181 (xi 17)) (Q (.str [99,111,109,112,111,115,101,32,99,97,110,99,101,108])) (wI (Ar .eql v181 (xi 16)) (Ld (Fa 1 g) λv189=>Ca 45 [o0 (λh=>kX h .r2s [v189])] λv191=>(Sf v191 · Q)) (wdR 11 λr=>FaY 1 .n g λv193 _=>LdY .n v193 λv194 c1=>λh=>wdp h (kX h .r2s [v194]) (rdK (xRd .r2s [v194])) λv195 c2 h=>(CaY 45 [v195] λv196 c3=>(Si r c1 c2 c3 d g v196 · Q)) h)))) h
def nQ:=(wI v90 (Ld (Fa 0 (Fa 12 j)) λv93=>wJ (HX j (.str [108,105,103,104,116]) (.str [110,111,114,109,97,108]) v93) (nJ3 TA Q)) (wI (Ar .eql P (xi 6)) (wL (nL3 GP) [j,.str [97,114,103,115],I 0] (nX2 HL Q)) (wI (Ar .eql P (xi 7)) (Ln 6 (Fa 16 j) λv137=>Nw [I 0,I 0,I 0,I 0,I 0,.str []] λT=>St 6 T v137 λ_=>wL (nL3 Dr) [d,T,I 0] (nX2 Pm Q)) (wI (Ar .eql P (xi 8)) (Ln 15 (Fa 22 j) λv179=>Nw [I 0,.D,.D,.D,I 0,I 0,.bool false,I 0,I 0,I 0,I 0,I 0,I 0,.D,I 0] λg=>St 15 g v179 λ_=>Fa 0 g λv180=>(OW d g v180 · Q)) (Q (.str [])))))) h
def g24:=(Bx a λj=>Ld (Fa 0 j) λP=>wI (Ar .eql P (xi 1)) (wJ (xQ j) (nJ2 yu Q)) (wI (Ar .eql P (xi 2)) (Ln 2 (Fa 7 j) λU=>Bs 2 1 [I 0,I 0] [(0,2,U)] λv60=>(Gd j v60 · Q)) (wI (Ar .eql P (xi 3)) (Ld (Fa 9 j) λv74=>(HW v74 · Q)) (wI (Ar .eql P (xi 4)) (Fa 10 j λv80=>(DG j v80 · Q)) (Ar .eql P (xi 5) λv90=>(nQ j (.str []) P v90 · Q)))))) h
def Wp:=(wI l (Ar .add e (xs' [32]) λA=>k [a,A,f]) (k [a,e,f])) h
def TX:=(Ar .add e (Ca 83 [Ln 2 (Ix 2 a f)]) λu=>Ar .add f (xi 1) λw=>K .nrm [a,u,w] [.undef,.undef,u]) h
def G7:=(wI (Ar .lss f (Le a)) (wI (Un .not (Ca 82 [Ln 2 (Ix 2 a f)])) (K .ret [a,e,f] [.str [],I 1,e]) (Ar .gtr f (xi 0) λl=>wJ (Wp a e f l) (nJ3 TX K))) (K (.exit 0) [a,e,f] [.undef,.undef,e])) h
def FL:=(wI (Ar .eql e (xs' [])) (Q (.tup [.str [],I 1])) (Q (.tup [e,I 0]))) h
def ER:=(wX x ((FL e · Q)) [(0,(FL e · Q))] (Q (.tup [c,d]))) h
def g41:=(wI (Ar .gtr (Le a) (xi 3)) (Q (.tup [.str [],I 2])) (wL (nL3 G7) [a,.str [],I 0] (nX3 ER Q))) h
def uR:=(Pk o xt v32 λv33=>k [c,d,v33]) h
def uH:=(wS (Pk L xt R) λo=>ArG false o .neq (LeG false o (LdG false o (FaG false o 3 c))) (LeG false o (LdG false o (FaG false o 3 d))) λv32=>(uR c d o v32 · k)) h
def uG:=(wS (Pk g xt (ArG false g .neq v (LdG false g w))) λL=>ArG false L .neq (LdG false L (FaG false L 2 c)) (LdG false L (FaG false L 2 d)) λR=>(uH c d L R · k)) h
def uU:=(wS (Ar .neq (Ld (Fa 0 c)) (Ld (Fa 0 d))) λg=>LdG false g (FaG false g 1 c) λv=>FaG false g 1 d λw=>(uG c d g v w · k)) h
def Td:=(K .ret [c,d,f] [.bool false]) h
def VK:=(Ar .add f (xi 1) λv40=>K .nrm [c,d,v40] [.undef]) h
def T_:=(LnY 4 .n v44 λN _=>FaY 3 .n d λv46 _=>IxY 4 .n (LdY .n v46) (MvY .n f) λv49 _=>UnY .not .n (CaY 77 [N,LnY 4 .n v49]) λB _=>wI B ((Td c d f · K)) ((VK c d f · K))) h
def FZ:=(wI (Ar .lss f (Le (Ld (Fa 3 c)))) (wdR 12 λr=>FaY 3 .n c λv41 _=>IxY 4 .n (LdY .n v41) (MvY .n f) λv44 _=>(T_ c d f v44 · K)) (K (.exit 0) [c,d,f] [.undef])) h
def Ge:=(Q (.bool true)) h
def Fx:=(wX x ((Ge · Q)) [(0,(Ge · Q))] (Q e)) h
def HN:=(wI v33 (Q (.bool false)) (wL (nL3 FZ) [c,d,I 0] (nX1 Fx Q))) h
def g77:=(Bx a λc=>Bx j λd=>wJ (uU c d) (nJ3 HN Q)) h
def UB:=(IxY 4 .n q l λR _=>UnY .not .n (CaY 77 [p,LnY 4 .n R]) λv26 _=>wI v26 (K .ret [a,j,f] [.bool false]) (Ar .add f (xi 1) λW=>K .nrm [a,j,W] [.undef])) h
def FC:=(wI (Ar .lss f (Le a)) (wdR 10 λr=>IxY 4 .n (MvY .n a) (MvY .n f) λM _=>LnY 4 .n M λp _=>MvY .n j λq _=>MvY .n f λl _=>(UB a j f p q l · K)) (K (.exit 0) [a,j,f] [.undef])) h
def GK:=(Q (.bool true)) h
def FX:=(wX x ((GK · Q)) [(0,(GK · Q))] (Q e)) h
def g33:=(wI (Ar .neq (Le a) (Le j)) (Q (.bool false)) (wL (nL3 FC) [a,j,I 0] (nX1 FX Q))) h
def Fs:=(IxY 1 .n q l λR _=>ArY .neq .n p (LdY .n R) λo _=>wI o (K .ret [a,j,f] [.bool false]) (Ar .add f (xi 1) λW=>K .nrm [a,j,W] [.undef])) h
def yh:=(wI (Ar .lss f (Le a)) (wdR 9 λr=>IxY 1 .n (MvY .n a) (MvY .n f) λM _=>LdY .n M λp _=>MvY .n j λq _=>MvY .n f λl _=>(Fs a j f p q l · K)) (K (.exit 0) [a,j,f] [.undef])) h
def Gk:=(Q (.bool true)) h
def FK:=(wX x ((Gk · Q)) [(0,(Gk · Q))] (Q e)) h
def g78:=(wI (Ar .neq (Le a) (Le j)) (Q (.bool false)) (wL (nL3 yh) [a,j,I 0] (nX1 FK Q))) h
def yA:=(Pk t xt M λp=>k [c,d,p]) h
def yp:=(wS (Un .not m) λt=>ArG false t .neq (LeG false t (LdG false t (FaG false t 1 c))) (LeG false t (LdG false t (FaG false t 1 d))) λM=>(yA c d t M · k)) h
def Vx:=(Ca 78 [Ld (Fa 0 c),Ld (Fa 0 d)] λm=>(yp c d m · k)) h
def V4:=(K .nrm [c,d,v27] [.undef]) h
def EL:=(LnY 2 .n u λv32 _=>FaY 1 .n d λv33 _=>IxY 2 .n (LdY .n v33) (MvY .n f) λv36 _=>EfY true [.int .i64,.int .i64] .n v32 (LnY 2 .n v36) λy _=>wI y (K .ret [c,d,f] [.bool false]) (Ar .add f (xi 1) λv27=>(V4 c d v27 · K))) h
def Hl:=(wI (Ar .lss f (Le (Ld (Fa 1 c)))) (wdR 11 λr=>FaY 1 .n c λv28 _=>IxY 2 .n (LdY .n v28) (MvY .n f) λu _=>(EL c d f u · K)) (K (.exit 0) [c,d,f] [.undef])) h
def Eu:=(Q (.bool true)) h
def FD:=(wX x ((Eu · Q)) [(0,(Eu · Q))] (Q e)) h
def yL:=(wI p (Q (.bool false)) (wL (nL3 Hl) [c,d,I 0] (nX1 FD Q))) h
def g79:=(Bx a λc=>Bx j λd=>wJ (Vx c d) (nJ3 yL Q)) h
def xP:=(Pk q xt (UnG false q .not (Cg false q 79 [R,(LnG false q 2 (FaG false q 2 d))])) λv28=>k [c,d,v28]) h
def HY:=(wS (Pk v xt (UnG false v .not (Cg false v 78 [(LdG false v w),(LdG false v (FaG false v 1 d))]))) λq=>LnG false q 2 (FaG false q 2 c) λR=>(xP c d q R · k)) h
def Gw:=(wS (Ar .neq (Le (Ld (Fa 13 c))) (Le (Ld (Fa 13 d)))) λv=>FaG false v 1 c λw=>(HY c d v w · k)) h
def Xl:=(K .nrm [c,d,v35] [c,d,.undef]) h
def F4:=(LnY 2 .n v39 λv40 _=>FaY 13 .n d λv41 _=>IxY 2 .n (LdY .n v41) (MvY .n f) λv44 _=>EfY true [.int .i64,.bool] .n v40 (LnY 2 .n v44) λv46 _=>wI v46 (K .ret [c,d,f] [c,d,.bool false]) (Ar .add f (xi 1) λv35=>(Xl c d v35 · K))) h
def EB:=(wI (Ar .lss f (Le (Ld (Fa 13 c)))) (wdR 11 λr=>FaY 13 .n c λv36 _=>IxY 2 .n (LdY .n v36) (MvY .n f) λv39 _=>(F4 c d f v39 · K)) (K (.exit 0) [c,d,f] [c,d,.undef])) h
def l_:=(Pk C (ArG true C .eql v110 (LdG true C v111)) xf λv114=>Q v114) h
def lX:=(wS (Pk V (ArG true V .eql (LdG true V v102) (LdG true V (FaG true V 12 d))) xf) λC=>LdG true C (FaG true C 14 c) λv110=>FaG true C 14 d λv111=>(l_ C v110 v111 · Q)) h
def l8:=(wS (Pk v87 v92 xf) λv94=>wS (Pk v94 (EfG true v94 false [.int .i64,.int .i64] (LnG true v94 2 (FaG true v94 10 c)) (LnG true v94 2 (FaG true v94 10 d))) xf) λV=>FaG true V 12 c λv102=>(lX c d V v102 · Q)) h
def lU:=(wS (Pk v80 (ArG true v80 .eql v82 (LdG true v80 v83)) xf) λv87=>ArG true v87 .eql (LdG true v87 (FaG true v87 9 c)) (LdG true v87 (FaG true v87 9 d)) λv92=>(l8 c d v87 v92 · Q)) h
def lV:=(wS (Pk v73 (ArG true v73 .eql (LdG true v73 v74) (LdG true v73 (FaG true v73 7 d))) xf) λv80=>LdG true v80 (FaG true v80 8 c) λv82=>FaG true v80 8 d λv83=>(lU c d v80 v82 v83 · Q)) h
def lQ:=(wS (Pk U v64 xf) λv66=>wS (Pk v66 (EsG true v66 false (LdG true v66 (FaG true v66 6 c)) (LdG true v66 (FaG true v66 6 d))) xf) λv73=>FaG true v73 7 c λv74=>(lV c d v73 v74 · Q)) h
def lO:=(wS (Pk B (ArG true B .eql v54 (LdG true B v55)) xf) λU=>ArG true U .eql (LdG true U (FaG true U 5 c)) (LdG true U (FaG true U 5 d)) λv64=>(lQ c d U v64 · Q)) h
def kq:=(wS (Ar .eql (Ld (Fa 0 c)) (Ld (Fa 0 d))) λB=>LdG true B (FaG true B 4 c) λv54=>FaG true B 4 d λv55=>(lO c d B v54 v55 · Q)) h
def HD:=(wX x ((kq c d · Q)) [(0,(kq c d · Q))] (Q e)) h
def Hh:=(wI v28 (Q (.bool false)) (wL (nL3 EB) [c,d,I 0] (nX3 HD Q))) h
def g34:=(Bx a λc=>Bx j λd=>wJ (Gw c d) (nJ3 Hh Q)) h
def n9:=(wS (Pk B v57 xf) λU=>Pk U (Cg true U 34 [(LnG true U 15 (FaG true U 22 c)),(LnG true U 15 (FaG true U 22 d))]) xf λv65=>Q v65) h
def qu:=(wS (Pk N (Cg true N 33 [v47,(LdG true N v48)]) xf) λB=>EfG true B false [.int .i64,.int .i64,.int .i64,.int .i64,.int .i64,.str] (LnG true B 6 (FaG true B 16 c)) (LnG true B 6 (FaG true B 16 d)) λv57=>(n9 c d B v57 · Q)) h
def qD:=(wS (Pk y (EfG true y false [.bool,.bool,.int .i64] (LnG true y 3 v39) (LnG true y 3 (FaG true y 12 d))) xf) λN=>LdG true N (FaG true N 15 c) λv47=>FaG true N 15 d λv48=>(qu c d N v47 v48 · Q)) h
def qk:=(wS (Pk A v29 xf) λu=>wS (Pk u (EfG true u false [.int .i64,.int .i64] (LnG true u 2 (FaG true u 10 c)) (LnG true u 2 (FaG true u 10 d))) xf) λy=>FaG true y 12 c λv39=>(qD c d y v39 · Q)) h
def qj:=(wS (Pk z (EfG true z false [.int .i64,.int .i64] M (LnG true z 2 p)) xf) λA=>ArG true A .eql (LdG true A (FaG true A 9 c)) (LdG true A (FaG true A 9 d)) λv29=>(qk c d A v29 · Q)) h
def qy:=(wS (Pk m (EfG true m false [.int .i64,.int .i64,.int .i64,.int .i64,.int .i64,.int .i64] (LnG true m 6 g) (LnG true m 6 (FaG true m 1 d))) xf) λz=>LnG true z 2 (FaG true z 7 c) λM=>FaG true z 7 d λp=>(qj c d z M p · Q)) h
def g18:=(Bx a λc=>Bx j λd=>wS (Ar .eql (Ld (Fa 0 c)) (Ld (Fa 0 d))) λm=>FaG true m 1 c λg=>(qy c d m g · Q)) h
def F6:=(PkY .n H yt (UnY .not (.b H) (CgY false H 18 [u,v35])) λy _=>k [a,e,f,i,y]) h
def FE:=(wdR 11 λr=>wSy (MvY .n (UnY .not .n (MvY .n S))) λH=>LnY 37 (.b H) s λu _=>IxY 37 (.b H) (MvY (.b H) a) (MvY (.b H) f) λv34 _=>LnY 37 (.b H) v34 λv35 _=>(F6 a e f i H u v35 · k)) h
def GL:=(wI y (K .ret [a,e,f] [.str [],I 1,e]) (Ar .add e (Ar .add i (xs' [10])) λv42=>Ar .add f (xi 1) λz=>K .nrm [a,v42,z] [.undef,.undef,v42])) h
def Vm:=(Ex 0 o λv26=>Ex 1 o λv27=>Nw z37 λs=>St 37 s v26 λ_=>wJ (FE a e f i s v27) (nJ5 GL K)) h
def Hg:=(wI (Ar .lss f (Le a)) (Ca 24 [Ln 37 (Ix 37 a f)] λl=>Ca 25 [l] λo=>(Vm a e f l o · K)) (K (.exit 0) [a,e,f] [.undef,.undef,e])) h
def Ia:=(Q (.tup [e,I 0])) h
def Hd:=(wX x ((Ia e · Q)) [(0,(Ia e · Q))] (Q (.tup [c,d]))) h
def g10:=(wI (Ar .gtr (Le a) (xi 200)) (Q (.tup [.str [],I 2])) (wL (nL3 Hg) [a,.str [],I 0] (nX3 Hd Q))) h
end
section
variable {a b:AV}{h:AH}{Q:QT}
theorem C80(G:g80 a h Q):ah prog 80 [a] h Q:=ax [] func80 G
theorem C38(G:g38 a b h Q):ah prog 38 [a,b] h Q:=ax [(7,.l [0,5,6,7,8,9] [0,5,6,7,8]),(15,.l [0,5,6,7,8,10] [6]),(18,.jn [0,5,6,7,8,10])] func38 G
theorem C37(G:g37 a b h Q):ah prog 37 [a,b] h Q:=ax [] func37 G
theorem C23(G:g23 a b h Q):ah prog 23 [a,b] h Q:=ax [(3,.jn [5])] func23 G
theorem C35(G:g35 a b h Q):ah prog 35 [a,b] h Q:=ax [(5,.l [0,5,6,7] [6])] func35 G
theorem C36(G:g36 a b h Q):ah prog 36 [a,b] h Q:=ax [(15,.l [0,3,4,5,6] [4,5]),(18,.jn [0,3,4,5,6])] func36 G
theorem C22(G:g22 a b h Q):ah prog 22 [a,b] h Q:=ax [(2,.j [0,4]),(7,.jn [0,1,4,11,17]),(18,.jn [4,5]),(23,.l [0,4,5,6,7,8] [4,5])] func22 G
theorem C21(G:g21 a h Q):ah prog 21 [a] h Q:=ax [] func21 G
theorem C20(G:g20 a h Q):ah prog 20 [a] h Q:=ax [(5,.l [0,3,4,5] [4])] func20 G
theorem C9(G:g9 a h Q):ah prog 9 [a] h Q:=ax [(24,.l [0,2,4,5] [2,4]),(35,.jn [0,2,6,100]),(36,.jn [0,2,6]),(39,.jn [2,6]),(43,.l [0,2,6,7] [2,6])] func9 G
theorem C40(G:g40 a h Q):ah prog 40 [a] h Q:=ax [(4,.l [0,3,4] [2,3]),(8,.jn [0,3,4,22])] func40 G
theorem C45(G:g45 a h Q):ah prog 45 [a] h Q:=ax [(4,.l [0,3,4] [3]),(7,.jn [0,3,4]),(11,.jn [0,3,4,14,21])] func45 G
theorem C43(G:g43 a h Q):ah prog 43 [a] h Q:=ax [(18,.l [1,3,4] [3]),(23,.jn [1,3,4])] func43 G
theorem C24(G:g24 a h Q):ah prog 24 [a] h Q:=ax [(6,.jn [1,29]),(24,.jn [1,6,7]),(27,.jn [1,6,7]),(35,.l [1,3,8] [2,3]),(50,.l [3,9,10] [3,9]),(53,.jn [3,9,10]),(76,.l [3,11,12] [2,3]),(85,.jn [3,11,12,13])] func24 G
theorem C41(G:g41 a h Q):ah prog 41 [a] h Q:=ax [(7,.l [0,4,5] [2,3,4]),(15,.jn [0,4,5])] func41 G
theorem C77(G:g77 a b h Q):ah prog 77 [a,b] h Q:=ax [(1,.jn [2,3,33]),(6,.l [2,3,5] [4])] func77 G
theorem C33(G:g33 a b h Q):ah prog 33 [a,b] h Q:=ax [(6,.l [0,1,5] [4])] func33 G
theorem C78(G:g78 a b h Q):ah prog 78 [a,b] h Q:=ax [(6,.l [0,1,5] [4])] func78 G
theorem C79(G:g79 a b h Q):ah prog 79 [a,b] h Q:=ax [(1,.jn [2,3,20]),(6,.l [2,3,5] [4])] func79 G
theorem C34(G:g34 a b h Q):ah prog 34 [a,b] h Q:=ax [(1,.jn [2,3,28]),(6,.l [2,3,5] [2,3,4])] func34 G
theorem C18(G:g18 a b h Q):ah prog 18 [a,b] h Q:=ax [] func18 G
theorem C10(G:g10 a h Q):ah prog 10 [a] h Q:=ax [(7,.l [0,4,5] [2,3,4]),(13,.jn [0,4,5,6,38])] func10 G
end
open Go.St
def ints(L:List Int):AV:=.psl (L.map λx=>[I x])
structure Sr where
 L:List Int
 a:Nat
def srC(x:Sr):LA:=[ints x.L,I x.a]
def Sr.Ok(x:Sr):Prop:=x.a<=x.L.length/\x.L.length<=4000
theorem Q?(L:List Int)(H:AH):Frz H false (ints L) (ints L):=
 .psl rfl _ _ rfl (λi x y hx G=>by rw[hx]at G;cases G;rfl) λi x y j c d hx G hc hd=>by
  rw[hx]at G;cases G;rw[hc]at hd;cases hd;obtain⟨n,_,rfl⟩:=eK.1 (cQ hx);match j with
  |0=>simp at hc;subst hc;exact .int _ _
  |j+1=>simp at hc
theorem kR(x:Sr):qv (srC x):=λH=>⟨Q? _ H,.int _ _,trivial⟩
def nV(x:Sr)(n:Int):Int:=if x.a<x.L.length/\1<=n then(if 0<=(x.L.getD x.a 0).tmod n then(x.L.getD x.a 0).tmod n else(x.L.getD x.a 0).tmod n+n)else 0
def nS(x:Sr)(n:Int):Sr:=if x.a<x.L.length/\1<=n then⟨x.L,x.a+1⟩else x
variable {n:Int}
theorem OQ{x:Int}(G:1<=n):x.tmod n<n:=Int.tmod_lt_of_pos x (by omega)
theorem Sd{x:Int}(G:1<=n):-n<x.tmod n:=by
 have h1:=Int.tmod_lt_of_pos (-x) (show 0<n by omega);have h2:(-x).tmod n = -(x.tmod n):=Int.neg_tmod x n;omega
theorem dK(x:Sr)(n:Int):0<=nV x n:=by
 unfold nV;split
 ·rename_i h;have:=Sd (x:=x.L.getD x.a 0) h.2;split<;>omega
 omega
theorem dr(x:Sr)(G:1<=n):nV x n<n:=by
 unfold nV;split
 ·have:=OQ (x:=x.L.getD x.a 0) G;split<;>omega
 omega
variable {x:Sr}
theorem aN(G:x.Ok)(n:Int):(nS x n).Ok:=by
 unfold nS;split
 ·rename_i h;exact⟨h.1,G.2⟩
 exact G
theorem uh(h:AH)(L:List Int):bn h (ints L)=some (I L.length,h):=by simp[ints]
theorem LJ(h:AH)(L:List Int)(a:Nat)(G:a<L.length):aC h 1 (ints L) (I a)=some (.ai [I (L.getD a 0)],h):=gQ (by simp[G]) rfl
variable {h:AH}{id:Nat}
theorem n_d{x:Sr}(n:Int)(hc:h.E id=some (srC x))(ar:id<h.nx)(hx:x.Ok/\n<=1000000000):ab prog 8 [.ptr id 0,I n] h (I (nV x n)) (h.set id (.cells (srC (nS x n)))):=by
 obtain⟨L,a⟩:=x;obtain⟨⟨ha,hL⟩,hn⟩:=hx;simp only at ha hL;refine fD ar (kR _) (C8 ?_);have af:h.E id=some [ints L,I a]:=hc;simp[g8];refine⟨λvs h'=>vs=[.ptr id 0,I n,.bool (!(decide (a<L.length/\1<=n)))]/\Ob h h' id (srC ⟨L,a⟩),?_,?_⟩
 ·by_cases h1:a<L.length
  ·have ad:¬(L.length:Int)<=a:=by omega
   by_cases h2:1<=n
   ·have aj:¬n<1:=by omega
    simp[y_,af,h1,h2,y8,uh,ad,aj];exact(Ob.start hc).bump _ (by simp)
   have aj:n<1:=by omega
   simp[y_,af,h1,h2,y8,uh,ad,aj];exact(Ob.start hc).bump _ (by simp)
  have ad:(L.length:Int)<=a:=by omega
  simp[y_,af,h1,y8,uh,ad];exact(Ob.start hc).bump _ (by simp)
 rintro vs h' ⟨rfl,ho⟩;have al:h'.E id=some [ints L,I a]:=ho.c;by_cases G:a<L.length/\1<=n
 ·have eV:nV ⟨L,a⟩ n=if 0<=(L.getD a 0).tmod n then(L.getD a 0).tmod n else(L.getD a 0).tmod n+n:=by unfold nV;rw[Z G]
  have eS:nS ⟨L,a⟩ n=⟨L,a+1⟩:=by unfold nS;rw[Z G]
  have av:=dK ⟨L,a⟩ n;have aw:=dr ⟨L,a⟩ G.2;have t1:=Sd (x:=L.getD a 0) G.2;have t2:=OQ (x:=L.getD a 0) G.2;have a1:L[a]'G.1=L.getD a 0:=by simp[List.getD,G.1]
  have aS:=λh=>LJ h L a G.1
  rw[eV]at av aw ⊢;rw[eS];rw[eD G];have a6:n≠0:=by omega
  generalize L.getD a 0=x at*;simp[IE,al,Ya];rw[aS];simp(disch:=first|go_size|fail)[ZN,al,Yg,al];refine⟨λvs h3=>vs=[I (if 0<=x.tmod n then x.tmod n else x.tmod n+n)]/\Ob h h3 id (srC ⟨L,a+1⟩),?_,?_⟩
  ·have ao:=(ho.bump (h'.nx+13) (by omega)).set (srC ⟨L,a+1⟩);by_cases h0:0<=x.tmod n
   ·have an:¬x.tmod n<0:=by omega
    simp[IV,h0,an];exact ao
   have an:x.tmod n<0:=by omega
   simp(disch:=first|go_size|fail)[IV,h0,an];exact ao
  rintro vs h3 ⟨rfl,aT⟩;simp(disch:=first|go_size|fail)[X5];exact aT
 have eV:nV ⟨L,a⟩ n=0:=by unfold nV;rw[O G]
 have eS:nS ⟨L,a⟩ n=⟨L,a⟩:=by unfold nS;rw[O G]
 rw[eV,eS,dx G];simp(disch:=first|go_size|fail)[IE];exact ho
def rgV(x:Sr)(G hi:Int):Int:=G+nV x (hi-G+1)
theorem rY(G hi:Int)(hc:h.E id=some (srC x))(ad:id<h.nx)(hx:x.Ok /\ -100000<=G/\G<=hi/\hi<=100000):ab prog 19 [.ptr id 0,I G,I hi] h (I (rgV x G hi)) (h.set id (.cells (srC (nS x (hi-G+1))))):=by
 refine fD ad (kR _) (C19 ?_);have af:=dK x (hi-G+1);have aj:=dr x (show 1<=hi-G+1 by omega);unfold rgV;simp(disch:=first|go_size|fail)[g19];refine sD (n_d (hi-G+1) hc ad ⟨hx.1,by omega⟩) ?_;simp(disch:=first|go_size|fail)[];exact(Ob.start hc).set _
set_option maxRecDepth 100000
section
variable (x:AX)(c16 c20:Rec)(c e m f l v9 P o v w R y g i S u z T U N V W v44 v47 v51 p v58 v59 j v67 v75 v81 v96 v97 v103 q A d B C H J L t:AV)(h:AH)(Q:QT)(k:NT)(K:KT)
def xV:=(FaY 1 (.a g) (NcY (.a g) u) λz _=>PkY .n g (ArY .neq (.a g) (IsY (.a g) S (LdY (.a g) z)) (yn .u8 32)) yf λU _=>k [c,e,U]) h
def HM:=(wSy (MvY .n (ArY .lss .n P (LsY .n w))) λg=>FaY 0 (.a g) (NcY (.a g) (MvY (.a g) c)) λi _=>LdY (.a g) i λS _=>MvY (.a g) c λu _=>(xV c e g S u · k)) h
def Ep:=(wdR 22 λr=>FaY 1 .n (NcY .n (MvY .n c)) λs _=>LdY .n s λP _=>FaY 0 .n (NcY .n (MvY .n c)) λv _=>LdY .n v λw _=>(HM c e P w · k)) h
def F_:=(wI U (Ar .add (Ld (Fa 1 (Nc c))) (xi 1) λv34=>Fa 1 (Nc c) λv36=>St 1 v36 v34 λ_=>K .nrm [c,e] [c,e]) (K (.exit 0) [c,e] [c,e])) h
def Ve:=(wJ (Ep c e) (nJ3 F_ K)) h
def Xs:=(LdY .n v44 λv45 _=>MvY .n (SsY (some W) (some v45) .n V) λv2 _=>Q v2) h
def Fi:=(wdR 11 λr=>FaY 0 .n (NcY .n (MvY .n c)) λv39 _=>LdY .n v39 λV _=>MvY .n e λW _=>FaY 1 .n (NcY .n (MvY .n c)) λv44 _=>(Xs V W v44 · Q)) h
def Uq:=(wX x ((Fi c e · Q)) [(0,(Fi c e · Q))] (Q .undef)) h
def g46:=(Ld (Fa 1 (Nc c)) λv7=>wL (nL2 Ve) [c,v7] (nX2 Uq Q)) h
def Fq:=(FaY 1 (.b o) (NcY (.b o) y) λv19 _=>PkY .n o yt (ArY .neq (.b o) (IsY (.b o) R (LdY (.b o) v19)) (yn .u8 32)) λu _=>k [c,u]) h
def Hb:=(wSy (MvY .n (ArY .geq .n f (LsY .n v9))) λo=>FaY 0 (.b o) (NcY (.b o) (MvY (.b o) c)) λw _=>LdY (.b o) w λR _=>MvY (.b o) c λy _=>(Fq c o R y · k)) h
def G3:=(wdR 22 λr=>FaY 1 .n (NcY .n (MvY .n c)) λm _=>LdY .n m λf _=>FaY 0 .n (NcY .n (MvY .n c)) λv8 _=>LdY .n v8 λv9 _=>(Hb c f v9 · k)) h
def Hy:=(wI u (St 1 (Fa 2 (Nc c)) xt λ_=>Q (.tup [])) (Ar .add (Ld (Fa 1 (Nc c))) (xi 1) λv31=>Fa 1 (Nc c) λv33=>St 1 v33 v31 λ_=>Q (.tup []))) h
def g47:=(wJ (G3 c) (nJ2 Hy Q)) h
def Ti(G l s:AV)(h:AH)(Q:QT):=(MvY .n (ArY .geq .n l (LsY .n s)) λG _=>Q G) h
def g51:=(wdR 11 λr=>FaY 1 .n (NcY .n (MvY .n c)) λf _=>LdY .n f λl _=>FaY 0 .n (NcY .n (MvY .n c)) λv9 _=>LdY .n v9 λs _=>(Ti (.bool false) l s · Q)) h
def HG:=(FaY 1 (.a i) (NcY (.a i) T) λv28 _=>PkY .n i (ArY .eql (.a i) (IsY (.a i) z (LdY (.a i) v28)) (yn .u8 45)) yf λN _=>k [c,e,m,N]) h
def FN:=(wSy (MvY .n (ArY .lss .n v (LsY .n g))) λi=>FaY 0 (.a i) (NcY (.a i) (MvY (.a i) c)) λv24 _=>LdY (.a i) v24 λz _=>MvY (.a i) c λT _=>(HG c e m i z T · k)) h
def HZ:=(wdR 22 λr=>FaY 1 .n (NcY .n (MvY .n c)) λv13 _=>LdY .n v13 λv _=>FaY 0 .n (NcY .n (MvY .n c)) λy _=>LdY .n y λg _=>(FN c e m v g · k)) h
def H8:=(wI N (Ar .add (Ld (Fa 1 (Nc c))) (xi 1) λv37=>Fa 1 (Nc c) λv39=>St 1 v39 v37 λ_=>k [c,e,.bool true]) (k [c,e,m])) h
def uM:=(wSy (MvY .n (PkY .n j (ArY .leq (.a j) v75 (yn .u8 57)) yf)) λv78=>PkY .n v78 (ArY .leq (.a v78) (MvY (.a v78) f) (yi 1099511627776)) yf λv81 _=>k [c,e,m,f,l,v81]) h
def ye:=(FaY 0 (.a j) (NcY (.a j) v67) λv69 _=>LdY (.a j) v69 λv70 _=>FaY 1 (.a j) (NcY (.a j) (MvY (.a j) c)) λv73 _=>IsY (.a j) v70 (LdY (.a j) v73) λv75 _=>(uM c e m f l j v75 · k)) h
def xW:=(FaY 1 (.a p) (NcY (.a p) v59) λv61 _=>wSy (MvY .n (PkY .n p (ArY .geq (.a p) (IsY (.a p) v58 (LdY (.a p) v61)) (yn .u8 48)) yf)) λj=>MvY (.a j) c λv67 _=>(ye c e m f l j v67 · k)) h
def Gp:=(wSy (MvY .n (ArY .lss .n v47 (LsY .n v51))) λp=>FaY 0 (.a p) (NcY (.a p) (MvY (.a p) c)) λv57 _=>LdY (.a p) v57 λv58 _=>MvY (.a p) c λv59 _=>(xW c e m f l p v58 v59 · k)) h
def FB:=(wdR 38 λr=>FaY 1 .n (NcY .n (MvY .n c)) λv46 _=>LdY .n v46 λv47 _=>FaY 0 .n (NcY .n (MvY .n c)) λv50 _=>LdY .n v50 λv51 _=>(Gp c e m f l v47 v51 · k)) h
def VO:=(Ar .add (Ld (Fa 1 v97)) (xi 1) λv100=>Fa 1 (Nc v96) λv102=>St 1 v102 v100 λ_=>K .nrm [c,e,m,f,l] [c,e,m,f,l]) h
def Xb(c e m f l v83 v87 G:AV)(h:AH)(k:KT):=(FaY 1 .n G λv90 _=>MvY .n (ArY .add .n v83 (CvY .i64 .n (ArY .sub .n (IsY .n v87 (LdY .n v90)) (yn .u8 48)))) λf _=>Nc c λv97=>(VO c e m f l c v97 · k)) h
def F0:=(wI v81 (wdR 15 λr=>ArY .mul .n (yi 10) (MvY .n f) λv83 _=>FaY 0 .n (NcY .n (MvY .n c)) λv86 _=>LdY .n v86 λv87 _=>NcY .n (MvY .n c) λv89 _=>(Xb c e m f l v83 v87 v89 · K)) (K (.exit 0) [c,e,m,f,l] [c,e,m,f,l])) h
def Wq:=(wJ (FB c e m f l) (nJ6 F0 K)) h
def EN:=(wI v103 (Un .neg f λv105=>k [c,e,v105,l]) (k [c,e,f,l])) h
def uP:=(FaY 1 (.b d) L λv130 _=>LdY (.b d) v130 λv131 c25=>PkY .n d yt (ArY .neq (.b d) C (SsY (some J) (some v131) (.b d) H)) λt _=>wK c16 c20 <| wK c16 c25 <| k [c,f,t]) h
def xb:=(CgY false d 81 [B] λC c16=>FaY 0 (.b d) (NcY (.b d) (MvY (.b d) c)) λv125 _=>LdY (.b d) v125 λH c20=>MvY (.b d) e λJ _=>NcY (.b d) (MvY (.b d) c) λL _=>(uP c16 c20 c f d C H J L · k)) h
def wO:=(wSy (MvY .n (PkY .n q yt (ArY .gtr (.b q) A (yi 1099511627776)))) λM=>wSy (MvY .n (PkY .n M yt (ArY .lss (.b M) (MvY (.b M) f) (yi (-1099511627776))))) λd=>MvY (.b d) f λB _=>(xb c e f d B · k)) h
def GC:=(wdR 29 λr=>FaY 1 .n (NcY .n (MvY .n c)) λv108 _=>wSy (MvY .n (ArY .eql .n (LdY .n v108) (MvY .n l))) λq=>MvY (.b q) f λA _=>(wO c e f q A · k)) h
def Fz:=(wI t (St 1 (Fa 2 (Nc c)) xt λ_=>k [f]) (k [f])) h
def VT:=(Q f) h
def Pc:=(wJ (Fz c f t) (nJ1 VT Q)) h
def OH:=(wJ (GC c e f l) (nJ3 Pc Q)) h
def D3:=(wJ (EN c e f l m) (nJ4 OH Q)) h
def Q5:=(wX x ((D3 c e m f l · Q)) [(0,(D3 c e m f l · Q))] (Q .undef)) h
def So:=(wdR 6 λr=>FaY 1 .n (NcY .n (MvY .n c)) λv42 _=>LdY .n v42 λv43 _=>MvY .n (yi 0) λf _=>MvY .n v43 λl _=>wL (nL5 Wq) [c,e,m,f,l] (nX5 Q5 Q)) h
def P_:=(wJ (H8 c e m N) (nJ3 So Q)) h
def g85:=(Ld (Fa 1 (Nc c)) λs=>wJ (HZ c s (.bool false)) (nJ4 P_ Q)) h
def g49:=(Ca 47 [c] λm=>Ca 85 [c] λl=>Q l) h
def Yn:=(o0 (λh=>kX h .s2r [c]) λm=>Ar .eql (o0 (λh=>kX h .r2s [m])) c λv7=>Q v7) h
end
section
variable {a:AV}{h:AH}{Q:QT}
theorem C46(G:g46 a h Q):ah prog 46 [a] h Q:=ax [(3,.l [0,3] [0,3]),(4,.jn [0,3,29])] func46 G
theorem C47(G:g47 a h Q):ah prog 47 [a] h Q:=ax [(0,.jn [0,23])] func47 G
theorem C51(G:g51 a h Q):ah prog 51 [a] h Q:=ax [] func51 G
theorem C85(G:g85 a h Q):ah prog 85 [a] h Q:=ax [(2,.jn [0,3,4,32]),(3,.jn [0,3,4]),(8,.l [0,3,4,5,6] [0,3,4,5,6]),(9,.jn [0,3,4,5,6,81]),(15,.jn [0,3,5,6]),(17,.jn [0,5,134]),(18,.jn [5])] func85 G
theorem C49(G:g49 a h Q):ah prog 49 [a] h Q:=ax [] func49 G
end
theorem ahZ{v0 h Q}(G:Yn v0 h Q):ah prog 117 [v0] h Q:=ax [] func117 G
section
variable (x:AX)(r:Nat)(c0 c1 c2 c3 c4 c5 c6:Rec)(d g f i c e p v7 v8 M l m q v13 y C o v20 H v22 v26 v27 v28 v29 v30 u v36 N w v39 v40 v41 v43 v44 v45 v46 P z v51 v52 R v55 v56 v58 v59 v61 v63 v64 v65 v66 v69 v70 S v73 v74 v76 s L v83 v84 v86 A v90 v92 v93 v97 v98 T v102 U V v113 v114 W v118 v127 v129 t v134 v135 v140 v142 v143 v145 v146 v v154 v155 v158 v159 v164 v165 v169 B v174 v175 v188 v189 v193 v196 v197 v198 v201 v203 v207 v212 v224 v226 v234 v238 v242 v246 v251 v257 v258:AV)(h:AH)(Q:QT)(k:NT)(K:KT)(J:JT)
def HR:=(FaY 1 (.b y) (NcY (.b y) H) λv23 _=>PkY .n y yt (ArY .neq (.b y) (IsY (.b y) v20 (LdY (.b y) v23)) (yn .u8 34)) λv27 _=>k [d,v27]) h
def EF:=(wSy (MvY .n (ArY .geq .n M (LsY .n v13))) λy=>FaY 0 (.b y) (NcY (.b y) (MvY (.b y) d)) λv19 _=>LdY (.b y) v19 λv20 _=>MvY (.b y) d λH _=>(HR d y v20 H · k)) h
def Fo:=(wdR 22 λr=>FaY 1 .n (NcY .n (MvY .n d)) λv8 _=>LdY .n v8 λM _=>FaY 0 .n (NcY .n (MvY .n d)) λq _=>LdY .n q λv13 _=>(EF d M v13 · k)) h
def Ew:=(FaY 1 (.a z) (NcY (.a z) R) λv55 _=>PkY .n z (ArY .neq (.a z) (IsY (.a z) v52 (LdY (.a z) v55)) (yn .u8 34)) yf λv59 _=>k [d,i,v59]) h
def Ig:=(wSy (MvY .n (ArY .lss .n v41 (LsY .n v45))) λz=>FaY 0 (.a z) (NcY (.a z) (MvY (.a z) d)) λv51 _=>LdY (.a z) v51 λv52 _=>MvY (.a z) d λR _=>(Ew d i z v52 R · k)) h
def HK:=(wdR 22 λr=>FaY 1 .n (NcY .n (MvY .n d)) λv40 _=>LdY .n v40 λv41 _=>FaY 0 .n (NcY .n (MvY .n d)) λv44 _=>LdY .n v44 λv45 _=>(Ig d i v41 v45 · k)) h
def xK:=(FaY 0 (.a s) (NcY (.a s) (MvY (.a s) d)) λv86 _=>PkY .n s (ArY .lss (.a s) v83 (LsY (.a s) (LdY (.a s) v86))) yf λv90 _=>k [d,i,c,v90]) h
def yS:=(wdR 15 λr=>wSy (MvY .n (ArY .eql .n (MvY .n c) (yn .u8 92))) λs=>FaY 1 (.a s) (NcY (.a s) (MvY (.a s) d)) λv81 _=>ArY .add (.a s) (LdY (.a s) v81) (yi 1) λv83 _=>(xK d i c s v83 · k)) h
def GR:=(wS (Ar .neq c (xn .u8 34)) λV=>Pk V (ArG true V .neq (qm true V c) (xn .u8 92)) xf λv114=>k [d,i,c,v114]) h
def Fk:=(wI v114 (St 1 (Fa 2 (Nc d)) xt λ_=>k [d,i,c]) (k [d,i,c])) h
def FQ(d i c v106:AV)(h:AH)(k:NT):=(MvY .n v106 λc _=>wI (Ar .eql c (xn .u8 110)) (k [d,i,.int .u8 10]) (wJ (GR d i c) (nJ4 Fk k))) h
def W5:=(FaY 0 .n (NcY .n v98) λT _=>LdY .n T λv101 _=>FaY 1 .n (NcY .n (MvY .n d)) λv104 _=>IsY .n v101 (LdY .n v104) λv106 _=>(FQ d i c v106 · k)) h
def yl:=(wI v90 (Ar .add (Ld (Fa 1 (Nc d))) (xi 1) λv95=>Fa 1 (Nc d) λv97=>St 1 v97 v95 λ_=>wdR 10 λr=>MvY .n d λv98 _=>(W5 d i c v98 · k)) (wI (Ar .eql c (xn .u8 92)) (St 1 (Fa 2 (Nc d)) xt λ_=>k [d,i,c]) (k [d,i,c]))) h
def S_:=(St 1 v66 v64 λ_=>K .nrm [d,i] [d,i]) h
def Tk:=(Ap 1 1 i (Bs 1 1 [.int .u8 0] [(0,1,c)]) λv126=>Ar .add (Ld (Fa 1 (Nc d))) (xi 1) λv64=>Fa 1 (Nc d) λv66=>(S_ d v126 v64 v66 · K)) h
def VL:=(wJ (yl d i c v90) (nJ3 Tk K)) h
def V9:=(MvY .n (IsY .n v70 v74) λc _=>wJ (yS d i c) (nJ4 VL K)) h
def Gv:=(wI v59 (wdR 10 λr=>FaY 0 .n (NcY .n (MvY .n d)) λv69 _=>LdY .n v69 λv70 _=>FaY 1 .n (NcY .n (MvY .n d)) λv73 _=>LdY .n v73 λv74 _=>(V9 d i v70 v74 · K)) (K (.exit 0) [d,i] [d,i])) h
def Sn:=(wJ (HK d i) (nJ3 Gv K)) h
def Dv:=(PkY .n t yt v142 λv143 _=>FaY 2 .n (NcY .n v127) λv145 _=>StE 1 v145 v143 λ_ _ h=>(k [d,i]) h) h
def CI:=(FaY 1 (.b t) v134 λv135 _=>LdY (.b t) v135 λv136 _=>FaY 0 (.b t) (NcY (.b t) (MvY (.b t) d)) λv139 _=>ArY .geq (.b t) v136 (LsY (.b t) (LdY (.b t) v139)) λv142 _=>(Dv d i v127 t v142 · k)) h
def Ct:=(wdR 20 λr=>MvY .n d λv127 _=>FaY 2 .n (NcY .n (MvY .n d)) λv130 _=>wSy (MvY .n (LdY .n v130)) λt=>NcY (.b t) (MvY (.b t) d) λv134 _=>(CI d i v127 t v134 · k)) h
def Dq:=(St 1 (Fa 2 v165) v164 λ_=>k [e]) h
def CF:=(wS (Ld (Fa 2 (Nc d))) λv160=>Pk v160 xt (UnG false v160 .not (Cg false v160 117 [(qm false v160 e)])) λv164=>Nc d λv165=>(Dq e v164 v165 · k)) h
def R1:=(Q e) h
def RX:=(wJ (CF d v154) (nJ1 R1 Q)) h
def Qg:=(Ar .add (Ld (Fa 1 (Nc d))) (xi 1) λv150=>Fa 1 (Nc d) λv152=>St 1 v152 v150 λ_=>o0 (λh=>kX h .b2s [i]) λv154=>(RX d v154 · Q)) h
def DK:=(wJ (Ct d i) (nJ2 Qg Q)) h
def O6:=(wX x ((DK d i · Q)) [(0,(DK d i · Q))] (Q .undef)) h
def CZ:=(wI v27 (St 1 (Fa 2 (Nc d)) xt λ_=>Q (.str [])) (Ar .add (Ld (Fa 1 (Nc d))) (xi 1) λv35=>Fa 1 (Nc d) λN=>St 1 N v35 λ_=>wL (nL2 Sn) [d,.D] (nX2 O6 Q))) h
def g88:=(wJ (Fo d) (nJ2 CZ Q)) h
def g53:=(Ca 47 [d] λc=>Ca 88 [d] λp=>Q p) h
def HC:=(PkY .n o yt v36 λN _=>k [d,g,N]) h
def GU:=(FaY 1 (.b o) v28 λv29 _=>ArY .add (.b o) (LdY (.b o) v29) (LsY (.b o) (MvY (.b o) g)) λu _=>ArY .neq (.b o) (SsY (some v26) (some u) (.b o) v22) (MvY (.b o) g) λv36 _=>(HC d g o v36 · k)) h
def G4:=(FaY 0 (.b o) v20 λH _=>LdY (.b o) H λv22 _=>FaY 1 (.b o) (NcY (.b o) (MvY (.b o) d)) λv25 _=>LdY (.b o) v25 λv26 _=>NcY (.b o) (MvY (.b o) d) λv28 _=>(GU d g o v22 v26 v28 · k)) h
def Fh:=(wSy (MvY .n (ArY .lss .n (ArY .sub .n M (LdY .n q)) (LsY .n (MvY .n g)))) λo=>NcY (.b o) (MvY (.b o) d) λv20 _=>(G4 d g o v20 · k)) h
def H_:=(wdR 33 λr=>FaY 0 .n (NcY .n (MvY .n d)) λv7 _=>LsY .n (LdY .n v7) λM _=>FaY 1 .n (NcY .n (MvY .n d)) λq _=>(Fh d g M q · k)) h
def W3:=(Q (.bool true)) h
def H5:=(wI N (Q (.bool false)) (Ar .add (Ld (Fa 1 (Nc d))) (Ls g) λv44=>Fa 1 (Nc d) λv46=>St 1 v46 v44 λ_=>(W3 · Q))) h
def g87:=(wJ (H_ d g) (nJ3 H5 Q)) h
def Ff:=(FaY 1 (.a u) (NcY (.a u) w) λv40 _=>MvY .n (PkY .n u (ArY .eql (.a u) (IsY (.a u) N (LdY (.a u) v40)) (yn .u8 34)) yf) λv22 _=>k [d,g,c,v22]) h
def Fp:=(wSy (MvY .n (ArY .lss .n v26 (LsY .n v30))) λu=>FaY 0 (.a u) (NcY (.a u) (MvY (.a u) d)) λv36 _=>LdY (.a u) v36 λN _=>MvY (.a u) d λw _=>(Ff d g c u N w · k)) h
def F2:=(wdR 23 λr=>FaY 1 .n (NcY .n (MvY .n d)) λv25 _=>LdY .n v25 λv26 _=>FaY 0 .n (NcY .n (MvY .n d)) λv29 _=>LdY .n v29 λv30 _=>(Fp d g c v26 v30 · k)) h
def G6:=(St 1 v61 v59 λ_=>k [d,g,c]) h
def xI:=(wS (Ld (Fa 2 (Nc d))) λv56=>Pk v56 xt (ArG false v56 .gtr (qm false v56 g) (xi 16)) λv59=>Fa 2 (Nc d) λv61=>(G6 d g c v59 v61 · k)) h
def Ev:=(wS (Un .not (Ld (Fa 2 (Nc d)))) λv68=>Pk v68 (UnG true v68 .not (Cg true v68 87 [(qm true v68 d),(xs' [93])])) xf λS=>k [d,g,c,e,S]) h
def Gu:=(wI v76 (Ca 47 [d] λs=>k [d,g,c,e]) (k [d,g,c,e])) h
def Xr:=(StE 1 (FaY 3 .n e) v86 λ_ _ h=>(wK c1 c5 <| wK c1 c6 <| K .nrm [d,g,c,e] [c,e]) h) h
def Wn:=(wdR 10 λr=>FaY 3 .n e λv79 _=>LdY .n v79 λv80 c1=>CaY 52 [MvY .n d,ArY .add .n (MvY .n g) (yi 1)] λv84 c5=>wdA (r+6) (ij 4 1 [I 0,I 0,.str [],.D] [(0,4,v84)]) λv85 c6=>ApE 4 56 v80 v85 λv86 _ h=>((Xr c1 c5 c6 d g c e v86 · K)) h) h
def FT:=(wI S (Ar .gtr (Le (Ld (Fa 3 e))) (xi 0) λv76=>wJ (Gu d g c e v76) (nJ4 Wn K)) (K (.exit 1) [d,g,c,e] [c,e])) h
def Vd:=(wJ (Ev d g c e) (nJ5 FT K)) h
def EW:=(St 4 c (Ln 4 e) λ_=>wV [.cell c (some 4)] Q) h
def UZ:=(wX x ((EW c e · Q)) [(1,(EW c e · Q)),(0,St 4 c (Bd [I 0,I 0,.str [],.D] []) λ_=>wV [.cell c (some 4)] Q)] (wV [.cell c (some 4)] Q)) h
def Bz:=(Bd [I 0,I 0,.str [],.D] [(0,1,I 4)] λv62=>Nw [I 0,I 0,.str [],.D] λe=>St 4 e v62 λ_=>wL (nL4 Vd) [d,g,c,e] (nX2 UZ Q)) h
def D5:=(wI v22 (Ca 88 [d] λv46=>St 4 c (Bd [I 0,I 0,.str [],.D] [(0,1,I 3),(2,1,v46)]) λ_=>wV [.cell c (some 4)] Q) (wI (Ca 87 [d,xs' [91]]) (wJ (xI d g c) (nJ3 Bz Q)) (Ca 85 [d] λv7=>St 4 c (Bd [I 0,I 0,.str [],.D] [(0,1,I 1),(1,1,v7)]) λ_=>wV [.cell c (some 4)] Q))) h
def g52:=(Nw [I 0,I 0,.str [],.D] λc=>wI (Ld (Fa 2 (Nc d))) (St 4 c (Bd [I 0,I 0,.str [],.D] []) λ_=>wV [.cell c (some 4)] Q) (wI (Ca 87 [d,xs' [116,114,117,101]]) (St 4 c (Bd [I 0,I 0,.str [],.D] [(0,1,I 2),(1,1,I 1)]) λ_=>wV [.cell c (some 4)] Q) (wI (Ca 87 [d,xs' [102,97,108,115,101]]) (St 4 c (Bd [I 0,I 0,.str [],.D] [(0,1,I 2)]) λ_=>wV [.cell c (some 4)] Q) (wJ (F2 d g c) (nJ4 D5 Q))))) h
def HI:=(wS (Ar .eql (Ld (Ix 1 d e)) g) λo=>Pk o (ArG true o .neq (qm true o g) (xs' [])) xf λH=>k [d,g,e,H]) h
def EJ:=(wI H (K .ret [d,g,e] [e]) (Ar .add e (xi 1) λm=>K .nrm [d,g,m] [.undef])) h
def E5:=(wI (Ar .lss e (Le d)) (wJ (HI d g e) (nJ4 EJ K)) (K (.exit 0) [d,g,e] [.undef])) h
def Gm:=(Q (I (-1))) h
def Gf:=(wX x ((Gm · Q)) [(0,(Gm · Q))] (Q c)) h
def g48:=(wL (nL3 E5) [d,g,I 0] (nX1 Gf Q)) h
def g39:=(Bs 1 7 [.str [],.str [],.str [],.str [],.str [],.str [],.str []] [(0,1,.str []),(1,1,.str [100,111,119,110]),(2,1,.str [109,111,118,101]),(3,1,.str [117,112]),(4,1,.str [99,97,110,99,101,108]),(5,1,.str [116,105,99,107]),(6,1,.str [119,104,101,101,108])] λg=>Q g) h
def g44:=(Bs 1 9 [.str [],.str [],.str [],.str [],.str [],.str [],.str [],.str [],.str []] [(0,1,.str [112,114,101,115,115]),(1,1,.str [102,111,99,117,115]),(2,1,.str [105,110,99,114,101,97,115,101]),(3,1,.str [100,101,99,114,101,97,115,101]),(4,1,.str [115,101,116,116,101,120,116]),(5,1,.str [115,101,108,101,99,116]),(6,1,.str [115,99,114,111,108,108,117,112]),(7,1,.str [115,99,114,111,108,108,100,111,119,110]),(8,1,.str [100,105,115,109,105,115,115])] λg=>Q g) h
def WI:=(o0 (λh=>kX h .s2r [v29]) λv30=>Fa 1 (Nc v27) λv32=>St 1 v32 v30 λ_=>Q (.tup [])) h
def VH:=(Ca 53 [d] λv29=>(WI g v29 · Q)) h
def EO:=(wS (Un .not (Ld (Fa 2 (Nc d)))) λv54=>Pk v54 (UnG true v54 .not (Cg true v54 51 [(qm true v54 d)])) xf λv58=>k [d,g,v58]) h
def TC:=(Ap 2 16 v65 (Bs 2 1 [I 0,.bool false] [(0,2,S)]) λv74=>Fa 13 (Nc v61) λv76=>St 1 v76 v74 λ_=>K .nrm [d,g] []) h
def E1:=(wI v58 (Ca 49 [d] λv60=>Ld (Fa 13 (Nc g)) λv65=>Mm true v60 (Un .neg v60) λv69=>Ar .lss v60 (xi 0) λv71=>Bd [I 0,.bool false] [(0,1,v69),(1,1,v71)] λS=>(TC d g g v65 S · K)) (K (.exit 1) [d,g] [])) h
def UD:=(wJ (EO d g) (nJ3 E1 K)) h
def G2:=(Q (.tup [])) h
def SR:=(wX x ((G2 · Q)) [(1,(G2 · Q)),(0,Q (.tup []))] (Q (.tup []))) h
def S1:=(St 1 (Fa 12 (Nc v44)) v46 λ_=>wL (nL2 UD) [d,g] (λx vs h=>SR x h Q)) h
def V0:=(o0 (λh=>kX h .s2r [v40]) λv41=>Fa 1 (Nc w) λv43=>St 1 v43 v41 λ_=>Ca 49 [d] λv46=>(S1 d g g v46 · Q)) h
def Ww:=(St 1 N (xi 15) λ_=>Ca 53 [d] λv40=>(V0 d g g v40 · Q)) h
def Xk:=(St 1 m xt λ_=>Q (.tup [])) h
def g54:=(Ca 47 [d] λp=>Ca 46 [d] λv8=>wI (Ar .eql v8 (xs' [98,101,103,105,110])) (St 1 (Fa 0 (Nc g)) (xi 14) λ_=>Q (.tup [])) (wI (Ar .eql v8 (xs' [99,97,110,99,101,108])) (St 1 (Fa 0 (Nc g)) (xi 17) λ_=>Q (.tup [])) (wI (Ar .eql v8 (xs' [99,111,109,109,105,116])) (St 1 (Fa 0 (Nc g)) (xi 16) λ_=>(VH d g · Q)) (wI (Ar .eql v8 (xs' [117,112,100,97,116,101])) (Fa 0 (Nc g) λN=>(Ww d g N · Q)) (Fa 2 (Nc d) λm=>(Xk m · Q)))))) h
def WC:=(St 1 v40 w λ_=>k [f,c,e,p]) h
def Xe:=(wS (Ld (Fa 2 (Nc c))) λv35=>Pk v35 xt (ArG false v35 .lss (qm false v35 p) (xi 0)) λw=>Fa 2 (Nc c) λv40=>(WC f c e p w v40 · k)) h
def Us:=(St 1 (Fa 5 (Fa 1 e)) v59 λ_=>k [f,c,e]) h
def S6:=(St 1 (Fa 4 (Fa 1 e)) v55 λ_=>Ca 49 [c] λv59=>(Us f c e v59 · k)) h
def Vu:=(St 1 (Fa 3 (Fa 1 e)) v51 λ_=>Ca 49 [c] λv55=>(S6 f c e v55 · k)) h
def Vt:=(St 1 (Fa 2 (Fa 1 e)) P λ_=>Ca 49 [c] λv51=>(Vu f c e v51 · k)) h
def Tr:=(Bd [I 0,I 0,I 0,I 0,I 0,I 0] [(0,1,v41),(1,1,v43)] λv44=>Fa 1 e λv45=>St 6 v45 v44 λ_=>Ca 49 [c] λP=>(Vt f c e P · k)) h
def VA:=(Ca 49 [c] λv43=>(Tr f c e p v43 · k)) h
def Ug:=(Ca 48 [v26,Ca 46 [c]] λv29=>wJ (Xe f c e v29) (nJ4 VA k)) h
def Tv:=(Pk L xt (ArG false L .neq v84 (xi 1)) λv86=>Fa 2 (Nc v73) λA=>St 1 A v86 λ_=>k [f,c,e,v7]) h
def W_:=(wS (Ld (Fa 2 (Nc c))) λs=>wS (Pk s xt (ArG false s .neq (qm false s v8) (xi 0))) λL=>LeG false L (qm false L v7) λv84=>(Tv f c e v7 c L v84 · k)) h
def Gq:=(wI v93 (Ln 2 (Ix 2 v7 (xi 0)) λv96=>Fa 7 e λv97=>St 2 v97 v96 λ_=>k [f,c,e]) (k [f,c,e])) h
def U9:=(Ca 49 [c] λv99=>Fa 9 e λT=>St 1 T v99 λ_=>k [f,c,e]) h
def U4:=(Un .not (Ld (Fa 2 (Nc c))) λv93=>wJ (Gq f c e v7 v93) (nJ3 U9 k)) h
def Wg:=(Ex 0 v70 λv71=>Ex 1 v70 λS=>wJ (W_ f c e v71 S) (nJ4 U4 k)) h
def Q8:=(Ca 50 [v69] λv70=>(Wg f c e v70 · k)) h
def OI:=(St 1 (Fa 1 (Fa 10 e)) W λ_=>k [f,c,e]) h
def O2:=(St 1 (Fa 0 (Fa 10 e)) V λ_=>Ca 49 [c] λW=>(OI f c e W · k)) h
def Qy:=(Pk v xt v154 λv155=>Fa 2 (Nc v135) λv157=>St 1 v157 v155 λ_=>k [f,c,e]) h
def Sq:=(wS (Pk v140 xt (PkG false v140 v143 v145 xf)) λv=>ArG false v .neq (qm false v l) (xs' [104,105,103,104]) λv150=>wS (qm false v v150) λv151=>PkG false v v151 (ArG true v151 .neq (qm true v151 l) (xs' [110,111,114,109,97,108])) xf λv154=>(Qy f c e v135 v v154 · k)) h
def WQ:=(wS (Ld (Fa 2 (Nc c))) λv140=>ArG false v140 .neq (qm false v140 M) (xs' [100,97,114,107]) λv142=>wS (qm false v140 v142) λv143=>ArG true v143 .neq (qm true v143 M) (xs' [108,105,103,104,116]) λv145=>(Sq f c e l c v140 v143 v145 · k)) h
def Sz:=(St 1 (Fa 2 (Fa 12 e)) v159 λ_=>k [f,c,e]) h
def WO:=(Ca 49 [c] λv159=>(Sz f c e v159 · k)) h
def Sj:=(Ca 46 [c] λv124=>Ca 47 [c] λv126=>Ca 46 [c] λv128=>Ar .eql v124 (xs' [100,97,114,107]) λv130=>Ar .eql v128 (xs' [104,105,103,104]) λt=>Bd [.bool false,.bool false,I 0] [(0,1,v130),(1,1,t)] λv133=>Fa 12 e λv134=>St 3 v134 v133 λ_=>wJ (WQ f c e v124 v128) (nJ3 WO k)) h
def G5:=(wS (Un .not (Ld (Fa 2 (Nc c)))) λB=>Pk B (UnG true B .not (Cg true B 51 [(qm true B c)])) xf λv174=>k [f,c,e,v174]) h
def DC:=(St 1 (Fa 2 v189) v188 λ_=>k [f,c,e,m]) h
def C0:=(wS (Ld (Fa 2 (Nc c))) λv184=>Pk v184 xt (ArG false v184 .neq (Cg false v184 42 [(LnG false v184 4 m)]) (xi 0)) λv188=>Nc c λv189=>(DC f c e m v188 v189 · k)) h
def Ra:=(λh=>wde h (kSt h 4 v197 v193) (λ_ c8 h=>wde h (kSt h 1 v198 v196) (λ_ c9 h=>bT c1 c4=true/\bT c2 c4=true/\K .nrm [f,c,e] [f,c,e] h))/\wde h (kSt h 1 v198 v196) (λ_ c8 h=>wde h (kSt h 4 v197 v193) (λ_ c9 h=>bT c1 c4=true/\bT c2 c4=true/\K .nrm [f,c,e] [f,c,e] h))) h
def Rs:=(wdR 10 λr=>FaY 15 .n e λv191 _=>LdY .n v191 λv192 c1=>LnY 4 .n m λv193 c2=>LeY .n v192 λv194 _=>wdA (r+4) (ij 4 1 [I 0,I 0,.str [],.D] [(0,4,.agg [I 0,I 0,.str [],.D])]) λv195 c4=>ApE 4 56 v192 v195 λv196 _ h=>(IxY 4 .n v196 v194 λv197 _=>FaY 15 .n e λv198 _=>(Ra c1 c2 c4 f c e v193 v196 v197 v198 · K)) h) h
def BM:=(wI v174 (Ca 47 [c] λv176=>Ca 52 [c,xi 1] λv178=>Nw [I 0,I 0,.str [],.D] λm=>St 4 m v178 λ_=>wJ (C0 f c e m) (nJ4 Rs K)) (K (.exit 1) [f,c,e] [f,c,e])) h
def OE:=(wJ (G5 f c e) (nJ4 BM K)) h
def BZ:=(k [f,c,e]) h
def Ro:=(wX x ((BZ f c e · k)) [(1,(BZ f c e · k)),(0,k [f,c,e])] (wF)) h
def Rl:=(St 1 v226 v224 λ_=>k [f,c,e,q]) h
def QS:=(wS (Ld (Fa 2 (Nc c))) λv221=>Pk v221 xt (ArG false v221 .lss (qm false v221 q) (xi 0)) λv224=>Fa 2 (Nc c) λv226=>(Rl f c e q v224 v226 · k)) h
def OZ:=(St 1 (Fa 5 (Fa 16 e)) v242 λ_=>k [f,c,e]) h
def Qv:=(St 1 (Fa 4 (Fa 16 e)) v238 λ_=>Ca 53 [c] λv242=>(OZ f c e v242 · k)) h
def QQ:=(St 1 (Fa 3 (Fa 16 e)) v234 λ_=>Ca 49 [c] λv238=>(Qv f c e v238 · k)) h
def RY:=(Ar .shl (xi 1) (Cv .u64 (Mm true q (xi 0))) λv230=>Fa 2 (Fa 16 e) λv232=>St 1 v232 v230 λ_=>Ca 49 [c] λv234=>(QQ f c e v234 · k)) h
def QD:=(Ca 48 [v212,Ca 46 [c]] λv215=>wJ (QS f c e v215) (nJ4 RY k)) h
def O0:=(St 1 (Fa 1 (Fa 16 e)) v207 λ_=>Ca 47 [c] λv211=>Ca 44 [] λv212=>(QD f c e v212 · k)) h
def RE:=(St 1 (Fa 0 (Fa 16 e)) v203 λ_=>Ca 49 [c] λv207=>(O0 f c e v207 · k)) h
def QO:=(St 1 v201 (xi 7) λ_=>Ca 49 [c] λv203=>(RE f c e v203 · k)) h
def Dn:=(wI v246 (St 1 (Fa 0 e) (xi 8) λ_=>Ca 54 [c,Fa 22 e] λv250=>k [f,c,e]) (St 1 (Fa 2 (Nc c)) xt λ_=>k [f,c,e])) h
def lR:=(wI (Ar .eql C (xs' [112,111,105,110,116,101,114])) (St 1 (Fa 0 e) (xi 1) λ_=>Ca 47 [c] λv25=>Ca 39 [] λv26=>(Ug f c e v26 · k)) (wI (Ar .eql C (xs' [107,101,121])) (St 1 (Fa 0 e) (xi 2) λ_=>Ca 47 [c] λv66=>Ca 46 [c] λv69=>(Q8 f c e v69 · k)) (wI (Ar .eql C (xs' [116,105,109,101])) (St 1 (Fa 0 e) (xi 3) λ_=>Ca 49 [c] λv105=>Fa 9 e λv106=>St 1 v106 v105 λ_=>k [f,c,e]) (wI (Ar .eql C (xs' [115,105,122,101])) (St 1 (Fa 0 e) (xi 4) λ_=>Ca 49 [c] λV=>(O2 f c e V · k)) (wI (Ar .eql C (xs' [109,111,100,101])) (St 1 (Fa 0 e) (xi 5) λ_=>Ca 47 [c] λv122=>(Sj f c e · k)) (wI (Ar .eql C (xs' [97,114,103,115])) (St 1 (Fa 0 e) (xi 6) λ_=>wL (nL3 OE) [f,c,e] (nX3 Ro k)) (wI (Ar .eql C (xs' [97,99,99,101,115,115])) (Fa 0 e λv201=>(QO f c e v201 · k)) (Ar .eql C (xs' [99,111,109,112,111,115,101]) λv246=>(Dn f c e v246 · k))))))))) h
def Dy:=(CgY true v257 51 [v258] λv259 c8=>PkY .n v257 v259 yf λv260 _=>StE 37 f v251 λ_ _ h=>(MvY .n v260 λi _=>wK c0 c8 <| wV [.cell f (some 37),.val i] Q) h) h
def A2:=(wdR 12 λr=>LnY 37 .n e λv251 c0=>FaY 2 .n (NcY .n (MvY .n c)) λv254 _=>wSy (MvY .n (UnY .not .n (LdY .n v254))) λv257=>MvY (.a v257) c λv258 _=>(Dy c0 f v251 v257 v258 · Q)) h
def g25:=(Nw z37 λf=>Bx (Bd [.str [],I 0,.bool false] [(0,1,d)]) λv15=>Nw z37 λe=>Ca 46 [v15] λC=>wJ (lR f v15 e C) (nJ3 A2 Q)) h
def T9(r:Nat)(c2:Rec)(f o H:AV)(h:AH)(Q:QT):=(CvY .u8 .n H λv22 _=>wdA (r+7) (ij 1 1 [.int .u8 0] [(0,1,v22)]) λv23 c7=>λh=>wdp h (kX h .b2s [v23]) (rdK (xRd .b2s [v23])) λv24 c8 h=>(MvY .n (ArY .add .n o v24) λf _=>wK c2 c8 <| Q f) h) h
def g81:=(wI (Ar .lss d (xi 0)) (Ar .add (xs' [45]) (Ca 81 [Un .neg d]) λv8=>Q v8) (wI (Ar .lss d (xi 10)) (Cv .u8 (Ar .add (xi 48) d) λv13=>Bs 1 1 [.int .u8 0] [(0,1,v13)] λv14=>o0 (λh=>kX h .b2s [v14]) λv15=>Q v15) (wdR 11 λr=>CaY 81 [ArY .quo .n (MvY .n d) (yi 10)] λo c2=>ArY .add .n (yi 48) (ArY .rem .n (MvY .n d) (yi 10)) λH _=>(T9 r c2 (.str []) o H · Q)))) h
def Vj:=(Ex 0 M λl=>Ex 1 M λm=>Ex 2 M λq=>Nw [I 0,.D] λc=>St 2 c l λ_=>St 2 f (Ln 2 c) λ_=>wV [.cell f (some 2),.val q] Q) h
def g84:=(Bx d λg=>Nw [I 0,.D] λf=>Ca 116 [Ln 4 g,xi 1,xi 0] λM=>(Vj f M · Q)) h
def Vc:=(Ex 0 v7 λv8=>Ex 1 v7 λM=>Nw [I 0,.D] λi=>St 2 i v8 λ_=>Q M) h
def g42:=(Ca 84 [Ln 4 (Bx d)] λv7=>(Vc v7 · Q)) h
def C6:=(wS M λv24=>Pk v24 (ArG true v24 .gtr (qm true v24 g) (xi 16)) xf λv27=>k [g,f,i,p,M,v27]) h
def Da:=(ArG false v63 .gtr (LeG false v63 v65) (xi 0) λv67=>wS (qm false v63 v67) λv68=>Pk v63 xt (PkG false v63 v68 (UnG true v68 .not (qm true v68 M)) xf) λS=>k [g,f,i,p,S]) h
def Cc:=(wS (qm false R v56) λv57=>wS (Pk R xt (PkG false R v57 (ArG true v57 .neq (LdG true v57 (FaG true v57 0 i)) (xi 3)) xf)) λv63=>LdG false v63 (FaG false v63 3 i) λv65=>(Da g f i p M v63 v65 · k)) h
def CM:=(wS P λP=>wS (Pk w xt (PkG false w P (ArG true P .neq (LdG true P (FaG true P 0 i)) (xi 2)) xf)) λR=>ArG false R .neq (LdG false R (FaG false R 2 i)) (xs' []) λv56=>(Cc g f i p M R v56 · k)) h
def CA:=(ArG false w .neq (LdG false w v39) (xi 0) λv41=>wS (qm false w v41) λv42=>PkG false w v42 (ArG true v42 .neq (LdG true v42 (FaG true v42 0 i)) (xi 1)) xf λv46=>qm false w v46 λP=>(CM g f i p M w P · k)) h
def QP:=(wS (Ar .lss (Ld (Fa 0 i)) (xi 1)) λu=>wS (Pk u xt (ArG false u .gtr (LdG false u (FaG false u 0 i)) (xi 4))) λw=>FaG false w 1 i λv39=>(CA g f i p M w v39 · k)) h
def QB:=(Pk A xt (PkG false A v97 T xf) λv102=>k [g,f,i,p,v102]) h
def RM:=(wS v92 λv92=>PkG false A v92 (ArG true v92 .neq (LdG true v92 (FaG true v92 1 i)) (xi 0)) xf λv96=>wS (qm false A v96) λv97=>ArG true v97 .neq (LdG true v97 (FaG true v97 1 i)) (xi 1) λT=>(QB g f i p A v97 T · k)) h
def O5:=(wS (Pk s (PkG true s L xt (ArG false L .gtr (LdG false L v83) (xi 1099511627776))) xf) λA=>ArG false A .eql (LdG false A (FaG false A 0 i)) (xi 2) λv91=>qm false A v91 λv92=>(RM g f i p A v92 · k)) h
def Sx:=(wS (Ar .eql (Ld (Fa 0 i)) (xi 1)) λs=>ArG true s .lss (LdG true s (FaG true s 1 i)) (xi (-1099511627776)) λv81=>wS (qm true s v81) λL=>FaG false L 1 i λv83=>(O5 g f i p s L v83 · k)) h
def Se:=(wS (Pk U xt v113) λW=>Pk W xt (ArG false W .gtr (qm false W f) (xi 1000)) λv118=>k [g,f,i,p,v118]) h
def Q0:=(wS (Ar .gtr (Ls (Ld (Fa 2 i))) (xi 2000)) λU=>ArG false U .gtr (LeG false U (LdG false U (FaG false U 3 i))) (xi 100) λv113=>(Se g f i p U v113 · k)) h
def Rm:=(J .ret [g,f,i,p,v154,v155,l,m,q]) h
def MQ:=(Bs 2 1 [I 0,.D] [(0,2,v175)] λv176=>Fa 1 l λv177=>St 1 v177 v176 λ_=>J .nrm [g,f,i,p,.undef,.undef,l,m,q]) h
def M5:=(MvY .n (CaY 141 [v169,B]) λv165 _=>ExY 0 .n v165 λv172 _=>ExY 1 .n v165 λv173 _=>wdA (r+9) (zf [I 0,.D]) λy c9=>StE 2 y v172 λ_ _ h=>(MvY .n v173 λC _=>wK c1 c9 <| wK c3 c9 <| wK c4 c9 <| Ln 2 y λv175=>(MQ g f i p l C q v175 · J)) h) h
def KX:=(wI (Ar .eql (Le (Ld v158)) (xi 0)) (Ln 2 v13 λv162=>Bs 2 1 [I 0,.D] [(0,2,v162)] λv163=>Fa 1 l λv164=>St 1 v164 v163 λ_=>J .nrm [g,f,i,p,.undef,.undef,l,m,q]) (wdR 12 λr=>FaY 1 .n l λv166 _=>LdY .n v166 λv167 c1=>IxY 2 .n v167 (yi 0) λv168 _=>LnY 2 .n v168 λv169 c3=>LnY 2 .n v13 λB c4=>(M5 r c1 c3 c4 g f i p l q v169 B · J))) h
def AE:=(Ex 0 v146 λv147=>Ex 1 v146 λv=>Ex 2 v146 λv149=>Nw [I 0,.D] λv13=>St 2 v13 v147 λ_=>wI (Ar .neq v149 (xi 0)) (St 2 p (Bd [I 0,.D] []) λ_=>(Rm g v i p l m q v v149 · J)) (wI (Un .not m) (J .nrm [g,v,i,p,.undef,.undef,l,m,q]) (Fa 1 l λv158=>(KX g v i p l m q v13 v158 · J)))) h
def Qu:=(Ca 116 [Ln 4 (Ix 4 (Ld (Fa 3 i)) q),Ar .add g (xi 1),f] λv146=>(AE g i p l m q v146 · J)) h
def C_:=(λh=>xs x (wk (aG h .add q (I 1)) (λv136 h=>K .nrm [g,f,i,p,l,m,v136] [f,p,v7,v8,l,m] h)) (λj=>K (.exit j) [g,f,i,p,l,m,q] [f,p,v7,v8,l,m] h) (K .ret [g,f,i,p,l,m,q] [f,p,v7,v8,l,m] h)) h
def DH:=(wI (Ar .lss q (Le (Ld (Fa 3 i)))) (wJx (Qu g f i p l m q) (nX9 C_ K)) (K (.exit 0) [g,f,i,p,l,m,q] [f,p,.undef,.undef,l,m])) h
def wZ:=(wI (Un .not m) (St 2 p (Bd [I 0,.D] []) λ_=>wV [.cell p (some 2),.val f,.val (I 5)] Q) (St 2 p (Ln 2 l) λ_=>wV [.cell p (some 2),.val f,.val (I 0)] Q)) h
def D2:=(wX x ((wZ f p l m · Q)) [(0,(wZ f p l m · Q))] (wV [.cell p (some 2),.val v7,.val v8] Q)) h
def KA:=(St 2 l v129 λ_=>wL (nL7 DH) [g,f,i,p,l,.bool true,I 0] (nX6 D2 Q)) h
def KP:=(wI v118 (St 2 p (Bd [I 0,.D] []) λ_=>wV [.cell p (some 2),.val f,.val (I 2)] Q) (wI (Un .not (Ca 117 [Ld (Fa 2 i)])) (St 2 p (Bd [I 0,.D] []) λ_=>wV [.cell p (some 2),.val f,.val (I 3)] Q) (Ld (Fa 0 i) λv128=>Bd [I 0,.D] [(0,1,v128)] λv129=>Nw [I 0,.D] λl=>(KA g f i p l v129 · Q)))) h
def KL:=(wI v102 (St 2 p (Bd [I 0,.D] []) λ_=>wV [.cell p (some 2),.val f,.val (I 1)] Q) (wJ (Q0 g f i p) (nJ5 KP Q))) h
def KG:=(wI S (St 2 p (Bd [I 0,.D] []) λ_=>wV [.cell p (some 2),.val f,.val (I 9)] Q) (wJ (Sx g f i p) (nJ5 KL Q))) h
def Kp:=(wI v27 (St 2 p (Bd [I 0,.D] []) λ_=>wV [.cell p (some 2),.val f,.val (I 8)] Q) (wJ (QP g f i p M) (nJ5 KG Q))) h
def YG:=(Bx d λi=>Nw [I 0,.D] λp=>Ar .add f (xi 1) λv19=>Ar .eql (Ld (Fa 0 i)) (xi 4) λv22=>wJ (C6 g v19 i p v22) (nJ6 Kp Q)) h
end
section
variable {a b:AV}{h:AH}{Q:QT}
theorem C88(G:g88 a h Q):ah prog 88 [a] h Q:=ax [(1,.jn [0,27]),(8,.l [0,3] [0,3]),(9,.jn [0,3,59]),(13,.jn [0,3,4,90]),(14,.jn [0,3,4]),(20,.jn [0,3,4,114]),(28,.jn [0,3]),(31,.jn [5])] func88 G
theorem C53(G:g53 a h Q):ah prog 53 [a] h Q:=ax [] func53 G
theorem C87(G:g87 a b h Q):ah prog 87 [a,b] h Q:=ax [(1,.jn [0,1,37])] func87 G
theorem C52(G:g52 a b h Q):ah prog 52 [a,b] h Q:=ax [(10,.jn [0,1,4,22]),(15,.jn [0,1,4]),(18,.l [0,1,4,5] [4,5]),(19,.jn [0,1,4,5,72]),(23,.jn [0,1,4,5])] func52 G
theorem C48(G:g48 a b h Q):ah prog 48 [a,b] h Q:=ax [(3,.l [0,1,5] [4]),(7,.jn [0,1,5,21])] func48 G
theorem C39(G:g39 h Q):ah prog 39 [] h Q:=ax [] func39 G
theorem C44(G:g44 h Q):ah prog 44 [] h Q:=ax [] func44 G
theorem C54(G:g54 a b h Q):ah prog 54 [a,b] h Q:=ax [(19,.l [0,1] []),(20,.jn [0,1,58])] func54 G
theorem C25(G:g25 a h Q):ah prog 25 [a] h Q:=ax [(4,.jn [2,4,5]),(10,.jn [2,4,5,6]),(21,.jn [2,4,5,7]),(23,.jn [2,4,5]),(43,.jn [2,4,5]),(49,.l [2,4,5] [2,4,5]),(50,.jn [2,4,5,174]),(55,.jn [2,4,5,11]),(64,.jn [2,4,5,12])] func25 G
theorem C81(G:g81 a h Q):ah prog 81 [a] h Q:=ax [] func81 G
theorem C84(G:g84 a h Q):ah prog 84 [a] h Q:=ax [] func84 G
theorem C42(G:g42 a h Q):ah prog 42 [a] h Q:=ax [] func42 G
end
theorem ahJ{v0 v1 v2 h Q}(G:YG v0 v1 v2 h Q):ah prog 116 [v0,v1,v2] h Q:=ax [(3,.jn [1,2,3,6,9,27]),(6,.jn [1,2,3,6,72]),(9,.jn [1,2,3,6,102]),(12,.jn [1,2,3,6,118]),(22,.l [1,2,3,6,10,11,12] [2,6,7,8,10,11]),(25,.j [1,2,3,6,7,8,10,11,12])] func116 G
section
variable (r:Nat)(c1 c3 c5 c7:Rec)(w x b c a g d e:AV)(h:AH)(Q:QT)
def Pf:=(St 2 a (Bd [I 0,.D] []) λ_=>wV [.cell a (some 2),.val (.bool false)] Q) h
def OC:=(St 2 a (Ln 2 b) λ_=>wV [.cell a (some 2),.val (.bool true)] Q) h
def Sb:=(St 2 a (Bd [I 0,.D] []) λ_=>wV [.cell a (some 2),.val (.bool false)] Q) h
def Sh:=(Ld (Fa 0 b) λi=>Ln 2 g λj=>Bs 2 1 [I 0,.D] [(0,2,j)] λl=>St 2 a (Bd [I 0,.D] [(0,1,i),(1,1,l)]) λ_=>wV [.cell a (some 2),.val (.bool true)] Q) h
def O7:=(MvY .n (CaY 141 [d,e]) λf _=>ExY 0 .n f λm _=>ExY 1 .n f λo _=>wdA (r+12) (zf [I 0,.D]) λg c12=>StE 2 g m λ_ _ h=>(MvY .n o λy _=>wK c1 c12 <| wK c3 c12 <| wK c5 c12 <| wK c7 c12 <| wI (Un .not y) ((Sb a · Q)) ((Sh b a g · Q))) h) h
def OJ:=(FaY 1 .n b λp _=>LdY .n p λq c1=>IxY 2 .n q (yi 0) λs _=>LnY 2 .n s λd c3=>FaY 1 .n c λt _=>LdY .n t λu c5=>IxY 2 .n u (yi 0) λv _=>LnY 2 .n v λe c7=>(O7 r c1 c3 c5 c7 b a d e · Q)) h
def Bp:=(wI (Ar .eql (Le (Ld (Fa 1 b))) (xi 0)) (St 2 a (Ln 2 c) λ_=>wV [.cell a (some 2),.val (.bool true)] Q) (wI (Ar .eql (Le (Ld (Fa 1 c))) (xi 0)) ((OC b a · Q)) (wdR 15 λr=>(OJ r b c a · Q)))) h
def Js:=(Bx w λb=>Bx x λc=>Nw [I 0,.D] λa=>wI (Ar .neq (Ld (Fa 0 b)) (Ld (Fa 0 c))) ((Pf a · Q)) ((Bp b c a · Q))) h
end
theorem ahx{v0 v1 h Q}(G:Js v0 v1 h Q):ah prog 141 [v0,v1] h Q:=ax [] func141 G
section
variable (x:AX)(c0 c1 c3 c6 c12:Rec)(c g d e b i l f C U V H L W p v s w o M B P q y t v40 u N v49 v58 z v69 R S v86 v94:AV)(h:AH)(Q:QT)(k:NT)(K:KT)(J:JT)
def U7:=(wS (Ar .lss (Ld (Fa 1 g)) (xi 0)) λf=>Pk f xt (ArG false f .gtr (LdG false f (FaG false f 1 g)) (xi 15)) λU=>k [g,U]) h
def S9:=(wS (Ar .geq e (xi 1)) λH=>Pk H (ArG true H .leq (qm true H e) (xi 23)) xf λW=>k [e,W]) h
def W6:=(Pk q (PkG true q y xt t) xf λu=>Q u) h
def Vk:=(wS (Pk v (PkG true v o xt (ArG false o .gtr M (xi 57343))) xf) λq=>ArG true q .lss (qm true q e) (xi 65) λv36=>wS (qm true q v36) λy=>ArG false y .gtr (qm false y e) (xi 90) λt=>(W6 q y t · Q)) h
def UO:=(wI W (Q (.bool true)) (wS (Ar .geq e (xi 32)) λm=>wS (Pk m (ArG true m .leq (qm true m e) (xi 1114111)) xf) λv=>ArG true v .lss (qm true v e) (xi 55296) λw=>wS (qm true v w) λo=>qm false o e λM=>(Vk e v o M · Q))) h
def E8:=(wI U (Q (.bool false)) (Ld (Fa 0 g) λv13=>wJ (S9 v13) (nJ2 UO Q))) h
def g82:=(Bx c λg=>wJ (U7 g) (nJ2 E8 Q)) h
def Ui:=(Ar .add H (Ar .add (Ld (Ix 1 L b)) (xs' [43])) λm=>k [g,m,b]) h
def yd:=(wI (Ar .eql (Ar .and (Ar .shr (Ld (Fa 1 g)) (Cv .u64 b)) (xi 1)) (xi 1)) (Ca 114 [] λL=>(Ui g b e L · k)) (k [g,e,b])) h
def Fc:=(Ar .add b (xi 1) λC=>K .nrm [g,e,C] [g,e]) h
def xp:=(wI (Ar .lss b (xi 4)) (wJ (yd g e b) (nJ3 Fc K)) (K (.exit 0) [g,e,b] [g,e])) h
def Er:=(MvY .n (ArY .add .n s (LdY .n B)) λd _=>wK c1 c3 <| Q d) h
def EE:=(Cv .i32 N λv43=>Ar .add v40 (o0 (λh=>kX h .i2s [v43])) λv45=>Q v45) h
def qI:=(wI (Ar .leq (Ld (Fa 0 g)) (xi 23)) (wdR 8 λr=>MvY .n e λs _=>CaY 115 [] λw c1=>FaY 0 .n g λo _=>LdY .n o λM c3=>IxY 1 .n w M λB _=>(Er c1 c3 s B · Q)) (wI (Ar .eql (Ld (Fa 0 g)) (xi 32)) (Ar .add e (xs' [115,112,97,99,101]) λt=>Q t) (Ld (Fa 0 g) λN=>(EE e N · Q)))) h
def EA:=(wX x ((qI g e · Q)) [(0,(qI g e · Q))] (Q .undef)) h
def g83:=(Bx c λg=>wL (nL3 xp) [g,.str [],I 0] (nX2 EA Q)) h
def ET:=(Pk p (ArG true p .eql w o) xf λB=>k [c,d,b,i,l,B]) h
def Es:=(wS (Ar .gtr (Ls c) (Ls l)) λp=>qm true p c λv25=>LsG true p (qm true p l) λs=>SsG true p none (some s) v25 λw=>qm true p l λo=>(ET c d b i l p w o · k)) h
def We:=(Ss (some u) none t λN=>k [N,d,b,i]) h
def Hw:=(wI B (Ar .add (Ld (Fa 1 b)) (Ar .shl (xi 1) (Cv .u64 i)) λy=>Fa 1 b λv38=>St 1 v38 y λ_=>Ls l λu=>(We d b i c u · k)) (k [c,d,b,i])) h
def TL:=(Ar .add (Ld (Ix 1 V i)) (xs' [43]) λv18=>wJ (Es c d b i v18) (nJ6 Hw k)) h
def Uo:=(Ca 114 [] λV=>(TL c d b i V · k)) h
def Xi:=(Ar .add i (xi 1) λv13=>K .nrm [c,d,b,v13] [c,d,b]) h
def E6:=(wI (Ar .lss i (xi 4)) (wJ (Uo c d b i) (nJ4 Xi K)) (K (.exit 0) [c,d,b,i] [c,d,b])) h
def Ta:=(wI (Ar .eql (Ld (Ix 1 v49 C)) c) (St 1 (Fa 0 b) C λ_=>k [c,d,b,f,C]) (k [c,d,b,f,C])) h
def U6:=(Ca 115 [] λv49=>(Ta c d b f C v49 · k)) h
def W0:=(Ar .add C (xi 1) λv48=>K .nrm [c,d,b,f,v48] [c,d,b,f]) h
def EG:=(wI (Ar .leq C (xi 23)) (wJ (U6 c d b f C) (nJ5 W0 K)) (K (.exit 2) [c,d,b,f,C] [c,d,b,f])) h
def EX:=(wI v58 (St 1 (Fa 0 b) (xi 32) λ_=>k [c,d,b,f]) (k [c,d,b,f])) h
def yO:=(Pk z (ArG true z .gtr (LdG true z (IxG true z 1 v69 (xi 0))) (xn .i32 32)) xf λR=>k [c,d,b,f,R]) h
def Bf:=(wS (Ar .eql (Ld (Fa 0 b)) (xi 0)) λT=>wS (Pk T (ArG true T .eql (LeG true T (qm true T f)) (xi 1)) xf) λz=>qm true z f λv69=>(yO c d b f z v69 · k)) h
def Dj:=(wI R (Cv .i64 (Ld (Ix 1 f (xi 0))) λv77=>Fa 0 b λv78=>St 1 v78 v77 λ_=>k [c,d,b]) (k [c,d,b])) h
def yR:=(StE 2 d S λ_ _ h=>(MvY .n v94 λe _=>wK c0 c6 <| wK c0 c12 <| wV [.cell d (some 2),.val e] Q) h) h
def yC:=(wSy (MvY .n v86) λA=>FaY 0 (.a A) b λv88 _=>LdY (.a A) v88 λv89 _=>CgY true A 83 [(BdY [I 0,I 0] [(0,1,v89)] (.a A))] λv91 c12=>PkY .n A (ArY .eql (.a A) v91 (MvY (.a A) c)) yf λv94 _=>(yR c0 c6 c12 d S v94 · Q)) h
def Sp:=(wdR 18 λr=>LnY 2 .n b λS c0=>FaY 0 .n b λv80 _=>wSy (MvY .n (ArY .gtr .n (LdY .n v80) (yi 0))) λv83=>CgY true v83 82 [(LnY 2 (.a v83) b)] λv85 c6=>PkY .n v83 v85 yf λv86 _=>(yC c0 c6 c d b S v86 · Q)) h
def PY:=(wJ (Dj c d b f R) (nJ3 Sp Q)) h
def PZ:=(wJ (Bf c d b f) (nJ5 PY Q)) h
def B0:=(Ar .eql c (xs' [115,112,97,99,101]) λv58=>wJ (EX c d b f v58) (nJ4 PZ Q)) h
def Sg:=(wX x ((B0 c d b f · Q)) [(2,(B0 c d b f · Q))] (wV [.cell d (some 2),.val .undef] Q)) h
def BN:=(o0 (λh=>kX h .s2r [c]) λv44=>wL (nL5 EG) [c,d,b,v44,I 1] (nX4 Sg Q)) h
def R7:=(wX x ((BN c d b · Q)) [(0,(BN c d b · Q))] (wV [.cell d (some 2),.val .undef] Q)) h
def g86:=(Nw [I 0,I 0] λd=>Bd [I 0,I 0] [] λv9=>Nw [I 0,I 0] λb=>St 2 b v9 λ_=>wL (nL4 E6) [c,d,b,I 0] (nX3 R7 Q)) h
def Fv:=(wS (Ar .lss l (Ls c)) λm=>Pk m (ArG true m .neq (IsG true m (qm true m c) (qm true m l)) (xn .u8 32)) xf λs=>k [c,b,i,l,s]) h
def Wu:=(Ar .add l (xi 1) λv43=>J .nrm [c,.undef,.undef,u,v43,l]) h
def S4:=(Ex 0 P λq=>Ex 1 P λv35=>Nw [I 0,I 0] λf=>St 2 f q λ_=>wI (Un .not v35) (J .ret [c,.D,I 3,b,i,l]) (Ln 2 f λt=>Ap 2 16 b (Bs 2 1 [I 0,I 0] [(0,2,t)]) λu=>(Wu c l u · J))) h
def GQ:=(wI s (J .nrm [c,.undef,.undef,b,i,l]) (Ca 86 [Ss (some i) (some l) c] λP=>(S4 c b i l P · J))) h
def TF:=(wJ (Fv c b i l) (nJ5 GQ J)) h
def xO:=(λh=>xs x (wk (aG h .add l (I 1)) (λL h=>K .nrm [c,b,i,L] [d,e,b] h)) (λj=>K (.exit j) [c,b,i,l] [d,e,b] h) (K .ret [c,b,i,l] [d,e,b] h)) h
def GS:=(wI (Ar .leq l (Ls c)) (wJx (TF c b i l) (nX6 xO K)) (K (.exit 0) [c,b,i,l] [.undef,.undef,b])) h
def Ii:=(wI (Ar .gtr (Le b) (xi 3)) (Q (.tup [.D,I 2])) (Q (.tup [b,I 0]))) h
def Fw:=(wX x ((Ii b · Q)) [(0,(Ii b · Q))] (Q (.tup [d,e]))) h
def g50:=(wI (Ar .gtr (Ls c) (xi 100)) (Q (.tup [.D,I 2])) (wL (nL4 GS) [c,.D,I 0,I 0] (nX3 Fw Q))) h
def YF:=(Bs 1 4 [.str [],.str [],.str [],.str []] [(0,1,.str [99,116,114,108]),(1,1,.str [97,108,116]),(2,1,.str [115,104,105,102,116]),(3,1,.str [109,101,116,97])] λg=>Q g) h
end
section
variable {a:AV}{h:AH}{Q:QT}
theorem C82(G:g82 a h Q):ah prog 82 [a] h Q:=ax [(1,.jn [1,11]),(5,.jn [3,19])] func82 G
theorem C83(G:g83 a h Q):ah prog 83 [a] h Q:=ax [(4,.l [1,3,4] [1,3]),(7,.jn [1,3,4])] func83 G
theorem C86(G:g86 a h Q):ah prog 86 [a] h Q:=ax [(4,.l [0,2,4,5] [0,2,4]),(7,.jn [0,2,4,5]),(9,.jn [0,2,4,5,6,31]),(17,.l [0,2,4,7,8] [0,2,4,7]),(20,.jn [0,2,4,7,8]),(26,.jn [0,2,4,7]),(28,.jn [0,2,4,7,73]),(29,.jn [0,2,4])] func86 G
theorem C50(G:g50 a h Q):ah prog 50 [a] h Q:=ax [(8,.l [0,4,5,6] [2,3,4]),(11,.j [0,2,3,4,5,6]),(12,.jn [0,4,5,6,27])] func50 G
end
theorem ahX{h Q}(G:YF h Q):ah prog 114 [] h Q:=ax [] func114 G
def Yj(h:AH)(Q:QT):=(Bs 1 24 [.str [],.str [],.str [],.str [],.str [],.str [],.str [],.str [],.str [],.str [],.str [],.str [],.str [],.str [],.str [],.str [],.str [],.str [],.str [],.str [],.str [],.str [],.str [],.str []] [(0,1,.str []),(1,1,.str [116,97,98]),(2,1,.str [101,110,116,101,114]),(3,1,.str [101,115,99,97,112,101]),(4,1,.str [98,97,99,107,115,112,97,99,101]),(5,1,.str [100,101,108,101,116,101]),(6,1,.str [108,101,102,116]),(7,1,.str [114,105,103,104,116]),(8,1,.str [117,112]),(9,1,.str [100,111,119,110]),(10,1,.str [104,111,109,101]),(11,1,.str [101,110,100]),(12,1,.str [102,49]),(13,1,.str [102,50]),(14,1,.str [102,51]),(15,1,.str [102,52]),(16,1,.str [102,53]),(17,1,.str [102,54]),(18,1,.str [102,55]),(19,1,.str [102,56]),(20,1,.str [102,57]),(21,1,.str [102,49,48]),(22,1,.str [102,49,49]),(23,1,.str [102,49,50])] λv1=>Q v1) h
theorem ahU{h Q}(G:Yj h Q):ah prog 115 [] h Q:=ax [] func115 G
structure RS where
 pos:Nat
 bad:Bool
structure Rd where
 s:Str
 t:RS
def rdC(x:Rd):LA:=[.str x.s,I x.t.pos,.bool x.t.bad]
theorem nK(x:Rd):qv (rdC x):=by
 intro H;rw[dW];refine⟨rfl,λi a b G hb=>?_⟩;rw[G]at hb;cases hb;match i with
 |0=>simp[rdC]at G;subst G;exact .str _
 |1=>simp[rdC]at G;subst G;exact .int _ _
 |2=>simp[rdC]at G;subst G;exact .bool _
 |i+3=>simp[rdC]at G
def Rd.Ok(x:Rd):Prop:=x.s.length<=1000000000/\x.t.pos<=x.s.length+1
def ae(s:Str)(t:RS):RS:=if s[t.pos]?=some 32 then⟨t.pos+1,t.bad⟩else⟨t.pos,true⟩
def aJ(s:Str)(t:RS):Str:=(s.drop t.pos).takeWhile (aH false)
def a_(s:Str)(t:RS):RS:=⟨t.pos+(aJ s t).length,t.bad⟩
def dR(s:Str)(t:RS):Int:=eg (s.drop (ae s t).pos)
def ef(s:Str)(t:RS):RS:=⟨t.pos+((s.drop t.pos).length-(fq (s.drop t.pos)).length),t.bad || !(jG (s.drop t.pos))⟩
def bA(s:Str)(t:RS):RS:=ef s (ae s t)
def rQ1(s:Str)(c:UInt8)(t:RS):UInt8×RS:=if c=92 then(match s[t.pos+1]? with|some d=>(if d=110 then 10 else d,⟨t.pos+2,t.bad || !(jI d)⟩)|none=>(92,⟨t.pos+1,true⟩))else(c,⟨t.pos+1,t.bad⟩)
def rQL(s:Str):Nat->Str->RS->Str×RS
 |0,out,t=>(out,t)
 |n+1,out,t=>match s[t.pos]? with
  |some c=>if c=34 then(out,t)else rQL s n (out++[(rQ1 s c t).1]) (rQ1 s c t).2
  |none=>(out,t)
def mD(s:Str)(t:RS):Str:=if s[t.pos]?=some 34 then(rQL s s.length [] ⟨t.pos+1,t.bad⟩).1 else []
def iQ(s:Str)(t:RS):RS:=if s[t.pos]?=some 34 then⟨(rQL s s.length [] ⟨t.pos+1,t.bad⟩).2.pos+1,((rQL s s.length [] ⟨t.pos+1,t.bad⟩).2.bad||decide (s.length<=(rQL s s.length [] ⟨t.pos+1,t.bad⟩).2.pos)) || !(Lib.validD (rQL s s.length [] ⟨t.pos+1,t.bad⟩).1)⟩else⟨t.pos,true⟩
def jT(s:Str)(t:RS):Str:=mD s (ae s t)
def jF(s:Str)(t:RS):RS:=iQ s (ae s t)
variable {s:Str}{t:RS}
theorem Bc(h:t.pos<=s.length+1):(ae s t).pos<=s.length+1:=by
 unfold ae;split
 ·rename_i G;have:=(aL.1 G).1;simp only;omega
 exact h
theorem IP{x:Rd}(hc:h.E id=some (rdC x))(af:id<h.nx)(hx:x.Ok):ab prog 51 [.ptr id 0] h (.bool (decide (x.s.length<=x.t.pos))) h:=by
 obtain⟨s,⟨p,b⟩⟩:=x;refine kY (R:=λv G=>v =.bool (decide (s.length<=p))/\h.nx<=G.nx/\G.H=h.H) (C51 ?_) λv' G ⟨h1,h2,h3⟩=>⟨by rw[h1];exact .bool _,h2,λi _=>by rw[h3]⟩
 have ad:h.E id=some [.str s,I p,.bool b]:=hc;simp[g51,ad,Ti]
theorem s_{x:Rd}(hc:h.E id=some (rdC x))(an:id<h.nx)(hx:x.Ok):ab prog 47 [.ptr id 0] h (.tup []) (h.set id (.cells (rdC ⟨x.s,ae x.s x.t⟩))):=by
 obtain⟨s,⟨p,b⟩⟩:=x;have hs:s.length<=1000000000:=hx.1;have hp:p<=s.length+1:=hx.2;refine fD an (nK _) (C47 ?_);have ad:h.E id=some [.str s,I p,.bool b]:=hc;simp[g47];refine⟨λvs h'=>vs=[.ptr id 0,.bool (!(s[p]?== some 32))]/\Ob h h' id (rdC ⟨s,⟨p,b⟩⟩),?_,?_⟩
 ·by_cases ao:p<s.length
  ·obtain⟨c,aj⟩:∃c,s[p]?=some c:=⟨s[p],bF ao⟩;have G:¬(s.length:Int)<=p:=by omega
   have k1:=xZ c;rw[aj];simp[G3,ad,Hb,ad,G,Fq,ad,dA aj,k1];exact⟨rfl,(Ob.start hc).bump _ (by simp)⟩
  have G:(s.length:Int)<=p:=by omega
  have hn:s[p]?=none:=by rw[jO];omega
  rw[hn];simp[G3,ad,Hb,G,Fq];exact(Ob.start hc).bump _ (by simp)
 rintro vs h' ⟨rfl,ho⟩;have al:h'.E id=some [.str s,I p,.bool b]:=ho.c;by_cases af:s[p]?=some 32
 ·have e:ae s ⟨p,b⟩=⟨p+1,b⟩:=by unfold ae;rw[Z af]
  rw[e,af];simp(disch:=first|go_size|fail)[Hy,al];exact ho.set _
 have e:ae s ⟨p,b⟩=⟨p,true⟩:=by unfold ae;rw[O af]
 have hb:(!(s[p]?== some 32))=true:=by simp[af]
 rw[e,hb];simp[Hy,al];exact ho.set _
theorem BU{x:Rd}(hc:h.E id=some (rdC x))(aS:id<h.nx)(hx:x.Ok/\x.t.pos<=x.s.length):ab prog 46 [.ptr id 0] h (.str (aJ x.s x.t)) (h.set id (.cells (rdC ⟨x.s,a_ x.s x.t⟩))):=by
 obtain⟨s,⟨p,b⟩⟩:=x;have hs:s.length<=1000000000:=hx.1.1;have hp:p<=s.length:=hx.2;have hw:p+(aJ s ⟨p,b⟩).length<=s.length:=by
  have:=ln (aH false) (s.drop p);rw[bW]at this;unfold aJ;simp only;omega
 refine fD aS (nK _) (C46 ?_);have aT:h.E id=some [.str s,I p,.bool b]:=hc;have eT:a_ s ⟨p,b⟩=⟨p+(aJ s ⟨p,b⟩).length,b⟩:=rfl;rw[eT];generalize hW:aJ s ⟨p,b⟩=W at*;have al:(s.drop p).takeWhile (aH false)=W:=hW;simp[g46,aT];refine⟨λm vs h'=>∃q,vs=[.ptr id 0,I p]/\Ob h h' id (rdC ⟨s,⟨q,b⟩⟩)/\p<=q/\q<=p+W.length/\m=p+W.length-q,W.length,?_,?_⟩
 ·exact⟨p,rfl,Ob.start hc,by omega,by omega,by omega⟩
 rintro m vs h' ⟨q,rfl,ho,a7,a8,rfl⟩;have G:h'.E id=some [.str s,I q,.bool b]:=ho.c;simp[Ve];refine⟨λvs h2=>vs=[.ptr id 0,I p,.bool (decide (q<p+W.length))]/\Ob h h2 id (rdC ⟨s,⟨q,b⟩⟩),?_,?_⟩
 ·by_cases aj:q<s.length
  ·obtain⟨c,an⟩:∃c,s[q]?=some c:=⟨s[q],bF aj⟩;have ad:(q:Int)<s.length:=by omega
   have ao:=IG (aH false) (s.drop p) (q-p) (by rw[al];omega);rw[al,ew,show p+(q-p)=q by omega,an]at ao;have af:decide (q<p+W.length)=aH false c:=by
    cases hb:aH false c
    ·rw[jx,show q<p+W.length↔q-p<W.length by omega,ao];rintro⟨x,a1,aw⟩;cases a1;rw[hb]at aw;cases aw
    rw[decide_eq_true_iff,show q<p+W.length↔q-p<W.length by omega,ao];exact⟨c,rfl,hb⟩
   rw[af];have h8:=xZ c;simp[Ep,G,HM,G,ad];by_cases a6:c=32
   ·simp[xV,G,dA an,a6];exact⟨by simp[aH],ho.bump _ (by simp)⟩
   simp[xV,G,dA an,h8];exact⟨by simp[aH],ho.bump _ (by simp)⟩
  have ad:¬(q:Int)<s.length:=by omega
  have af:¬q<p+W.length:=by omega
  simp[Ep,G,HM,ad,xV,af];exact ho.bump _ (by simp)
 rintro vs h2 ⟨rfl,ar⟩;have av:h2.E id=some [.str s,I q,.bool b]:=ar.c;by_cases aj:q<p+W.length
 ·simp(disch:=first|go_size|fail)[F_,aj,av];exact⟨p+W.length-(q+1),by omega,q+1,ar.set _,by omega,by omega,rfl⟩
 obtain rfl:q=p+W.length:=by omega
 simp only[aj,tO];simp[F_,Uq];generalize hq:p+W.length=q at*;simp[Fi,av,Xs,av,uD (show p<=q by omega) (show q<=s.length by omega)];refine⟨?_,ar.bump _ (by simp)⟩;have:=OY (aH false) (s.drop p);rw[al]at this;rw[show q-p=W.length by omega];exact this
