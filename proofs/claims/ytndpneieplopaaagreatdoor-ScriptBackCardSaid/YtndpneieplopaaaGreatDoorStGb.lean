/- Functions of the law, as plain transformers of predicates; printed by a program of ours. -/
import Derived.Test.YtndpneieplopaaaGreatDoorStO
set_option linter.unusedSimpArgs false
set_option linter.unusedVariables false
noncomputable section
namespace Go.Proofs.YtndpneieplopaaaGreatDoor
open Go.Eng Tryz
set_option maxRecDepth 100000
def Qp(cl:CL)(v0 v5:AV)(h:AH)(k:NT):=wif v5 (wk (kSl h 1 v0 none (some (I 4000)) none) λv7 h=>k [v7] h) (k [v0] h)
def O6(cl:CL)(v0:AV)(h:AH)(Q:QT):=wk (aO h [.aa,I 0] [(0,1,v0)]) λv9 h=>wk (fh h v9) λv10 h=>Q v10 h
def g7(cl:CL)(v0:AV)(h:AH)(Q:QT):=wk (bh h v0) λv4 h=>wk (ae h .gtr v4 (I 4000)) λv5 h=>aI (Qp cl v0 v5 h) λvs h=>O6 cl (ai vs 0) h Q
theorem C7{cl}(hcl:bt prog cl){v0 h Q}(hg:g7 cl v0 h Q):aJ prog 7 [v0] h Q:=bI hcl [(2,.jn [0])] func7 (by kernel_rfl) (by kernel_rfl) hg
def Kb(cl:CL)(v0 v1 v9 v13:AV)(h:AH)(k:NT):=wP h (bh h v13) λv14 c8 h=>wP h (ae h .geq v9 v14) λv15 c9 h=>wP h (aB h v15) λv16 c10 h=>wsp v16 λv16=>wB v16 (aB h v1) h λv17 c11 h=>wB v16 (ae h .lss v17 (I 1)) h λv18 c12 h=>wP h (aG h v16 (.bool true) v18) λv19 c13 h=>k [v0,v1,v19] h
def Jo(cl:CL)(v0 v1:AV)(h:AH)(k:NT):=wdr h 14 λr h=>wP h (aB h v0) λv6 c0 h=>wP h (aq h v6) λv7 c1 h=>wP h (ah h 1 v7) λv8 c2 h=>wR h (eK h v8) v8 λv9 c3 h=>wP h (aB h v0) λv10 c4 h=>wP h (aq h v10) λv11 c5 h=>wP h (ah h 0 v11) λv12 c6 h=>wR h (eK h v12) v12 λv13 c7 h=>Kb cl v0 v1 v9 v13 h k
def Pb(cl:CL)(v1 v5 v40:AV)(h:AH)(k:NT):=wif v40 (wk (ae h .add v5 v1) λv43 h=>k [v43] h) (k [v5] h)
def X6(cl:CL)(v5:AV)(h:AH)(Q:QT):=Q v5 h
def X8(cl:CL)(v1 v5 v32 v35:AV)(h:AH)(Q:QT):=wk (ae h .add v35 (I 1)) λv36 h=>wk (aq h v32) λv37 h=>wk (ah h 1 v37) λv38 h=>wk (kSt h 1 v38 v36) λ_ h=>wk (ae h .lss v5 (I 0)) λv40 h=>aI (Pb cl v1 v5 v40 h) λvs h=>X6 cl (ai vs 0) h Q
def Yu(cl:CL)(v0 v1 v23 v27:AV)(h:AH)(Q:QT):=wP h (aF h 1 v23 v27) λv28 c8 h=>wR h (eK h v28) v28 λv29 c9 h=>wP h (aB h v1) λv30 c10 h=>wP h (ae h .rem v29 v30) λv31 c11 h=>wP h (aB h v31) λv5 c12 h=>wk (aq h v0) λv33 h=>wk (ah h 1 v33) λv34 h=>wk (eK h v34) λv35 h=>X8 cl v1 v5 v0 v35 h Q
def Oc(cl:CL)(v0 v1 v19:AV)(h:AH)(Q:QT):=wif v19 (Q ((I 0)) h) (wdr h 13 λr h=>wP h (aB h v0) λv20 c0 h=>wP h (aq h v20) λv21 c1 h=>wP h (ah h 0 v21) λv22 c2 h=>wR h (eK h v22) v22 λv23 c3 h=>wP h (aB h v0) λv24 c4 h=>wP h (aq h v24) λv25 c5 h=>wP h (ah h 1 v25) λv26 c6 h=>wR h (eK h v26) v26 λv27 c7 h=>Yu cl v0 v1 v23 v27 h Q)
def g8(cl:CL)(v0 v1:AV)(h:AH)(Q:QT):=aI (Jo cl v0 v1 h) λvs h=>Oc cl (ai vs 0) (ai vs 1) (ai vs 2) h Q
theorem C8{cl}(hcl:bt prog cl){v0 v1 h Q}(hg:g8 cl v0 v1 h Q):aJ prog 8 [v0,v1] h Q:=bI hcl [(1,.jn [0,1,19]),(7,.jn [5])] func8 (by kernel_rfl) (by kernel_rfl) hg
def g19(cl:CL)(v0 v1 v2:AV)(h:AH)(Q:QT):=wk (ae h .sub v2 v1) λv11 h=>wk (ae h .add v11 (I 1)) λv12 h=>ax cl (F 8) [v0,v12] h λv13 h=>wk (ae h .add v1 v13) λv14 h=>Q v14 h
theorem C19{cl}(hcl:bt prog cl){v0 v1 v2 h Q}(hg:g19 cl v0 v1 v2 h Q):aJ prog 19 [v0,v1,v2] h Q:=bI hcl [] func19 (by kernel_rfl) (by kernel_rfl) hg
def Jy(cl:CL)(v1 v7:AV)(h:AH)(Q:QT):=wk (ae h .sub v1 (I 1)) λv9 h=>wk (ae h .eql v7 v9) λv10 h=>Q v10 h
def afS(cl:CL)(v0 v1:AV)(h:AH)(Q:QT):=ax cl (F 8) [v0,v1] h λv7 h=>Jy cl v1 v7 h Q
theorem ah2{cl}(hcl:bt prog cl){v0 v1 h Q}(hg:afS cl v0 v1 h Q):aJ prog 112 [v0,v1] h Q:=bI hcl [] func112 (by kernel_rfl) (by kernel_rfl) hg
def LC(cl:CL)(v2 v23 v26:AV)(h:AH)(Q:QT):=wR h (eK h v26) v26 λv27 c7 h=>wP h (ae h .sub v27 (I 1)) λv28 c8 h=>wP h (aF h 1 v23 v28) λv29 c9 h=>wR h (eK h v29) v29 λv30 c10 h=>wP h (aB h v30) λv2 c11 h=>Q v2 h
def KS(cl:CL)(v0 v2 v17 v19:AV)(h:AH)(Q:QT):=wk (kSt h 1 v19 v17) λ_ h=>wdr h 12 λr h=>wP h (aB h v0) λv20 c0 h=>wP h (aq h v20) λv21 c1 h=>wP h (ah h 0 v21) λv22 c2 h=>wR h (eK h v22) v22 λv23 c3 h=>wP h (aB h v0) λv24 c4 h=>wP h (aq h v24) λv25 c5 h=>wP h (ah h 1 v25) λv26 c6 h=>LC cl v2 v23 v26 h Q
def Cg(cl:CL)(v0 v2 v6 v10:AV)(h:AH)(Q:QT):=wP h (bh h v10) λv11 c8 h=>wP h (ae h .geq v6 v11) λv12 c9 h=>wif v12 (Q ((I 0)) h) (wk (aq h v0) λv14 h=>wk (ah h 1 v14) λv15 h=>wk (eK h v15) λv16 h=>wk (ae h .add v16 (I 1)) λv17 h=>wk (aq h v0) λv18 h=>wk (ah h 1 v18) λv19 h=>KS cl v0 v2 v17 v19 h Q)
def aeU(cl:CL)(v0:AV)(h:AH)(Q:QT):=wdr h 10 λr h=>wP h (aB h v0) λv3 c0 h=>wP h (aq h v3) λv4 c1 h=>wP h (ah h 1 v4) λv5 c2 h=>wR h (eK h v5) v5 λv6 c3 h=>wP h (aB h v0) λv7 c4 h=>wP h (aq h v7) λv8 c5 h=>wP h (ah h 0 v8) λv9 c6 h=>wR h (eK h v9) v9 λv10 c7 h=>Cg cl v0 ((I 0)) v6 v10 h Q
theorem ahk{cl}(hcl:bt prog cl){v0 h Q}(hg:aeU cl v0 h Q):aJ prog 113 [v0] h Q:=bI hcl [] func113 (by kernel_rfl) (by kernel_rfl) hg
def aeV(cl:CL)(h:AH)(Q:QT):=wk (aQ h 1 89 [.int .i32 0,.int .i32 0,.int .i32 0,.int .i32 0,.int .i32 0,.int .i32 0,.int .i32 0,.int .i32 0,.int .i32 0,.int .i32 0,.int .i32 0,.int .i32 0,.int .i32 0,.int .i32 0,.int .i32 0,.int .i32 0,.int .i32 0,.int .i32 0,.int .i32 0,.int .i32 0,.int .i32 0,.int .i32 0,.int .i32 0,.int .i32 0,.int .i32 0,.int .i32 0,.int .i32 0,.int .i32 0,.int .i32 0,.int .i32 0,.int .i32 0,.int .i32 0,.int .i32 0,.int .i32 0,.int .i32 0,.int .i32 0,.int .i32 0,.int .i32 0,.int .i32 0,.int .i32 0,.int .i32 0,.int .i32 0,.int .i32 0,.int .i32 0,.int .i32 0,.int .i32 0,.int .i32 0,.int .i32 0,.int .i32 0,.int .i32 0,.int .i32 0,.int .i32 0,.int .i32 0,.int .i32 0,.int .i32 0,.int .i32 0,.int .i32 0,.int .i32 0,.int .i32 0,.int .i32 0,.int .i32 0,.int .i32 0,.int .i32 0,.int .i32 0,.int .i32 0,.int .i32 0,.int .i32 0,.int .i32 0,.int .i32 0,.int .i32 0,.int .i32 0,.int .i32 0,.int .i32 0,.int .i32 0,.int .i32 0,.int .i32 0,.int .i32 0,.int .i32 0,.int .i32 0,.int .i32 0,.int .i32 0,.int .i32 0,.int .i32 0,.int .i32 0,.int .i32 0,.int .i32 0,.int .i32 0,.int .i32 0,.int .i32 0] [(0,1,(.int .i32 97)),(1,1,(.int .i32 98)),(2,1,(.int .i32 102)),(3,1,(.int .i32 105)),(4,1,(.int .i32 88)),(5,1,(.int .i32 49)),(6,1,(.int .i32 50)),(7,1,(.int .i32 32)),(8,1,(.int .i32 32)),(9,1,(.int .i32 46)),(10,1,(.int .i32 44)),(11,1,(.int .i32 45)),(12,1,(.int .i32 39)),(13,1,(.int .i32 34)),(14,1,(.int .i32 40)),(15,1,(.int .i32 41)),(16,1,(.int .i32 91)),(17,1,(.int .i32 93)),(18,1,(.int .i32 60)),(19,1,(.int .i32 33)),(20,1,(.int .i32 58)),(21,1,(.int .i32 95)),(22,1,(.int .i32 37)),(23,1,(.int .i32 43)),(24,1,(.int .i32 47)),(25,1,(.int .i32 9)),(26,1,(.int .i32 10)),(27,1,(.int .i32 13)),(28,1,(.int .i32 11)),(29,1,(.int .i32 133)),(30,1,(.int .i32 160)),(31,1,(.int .i32 173)),(32,1,(.int .i32 183)),(33,1,(.int .i32 769)),(34,1,(.int .i32 1488)),(35,1,(.int .i32 1489)),(36,1,(.int .i32 1470)),(37,1,(.int .i32 1456)),(38,1,(.int .i32 1536)),(39,1,(.int .i32 1575)),(40,1,(.int .i32 1576)),(41,1,(.int .i32 1587)),(42,1,(.int .i32 1600)),(43,1,(.int .i32 1611)),(44,1,(.int .i32 1633)),(45,1,(.int .i32 1642)),(46,1,(.int .i32 1548)),(47,1,(.int .i32 1564)),(48,1,(.int .i32 1777)),(49,1,(.int .i32 2307)),(50,1,(.int .i32 2309)),(51,1,(.int .i32 2364)),(52,1,(.int .i32 4352)),(53,1,(.int .i32 4449)),(54,1,(.int .i32 4520)),(55,1,(.int .i32 44032)),(56,1,(.int .i32 44033)),(57,1,(.int .i32 8201)),(58,1,(.int .i32 8203)),(59,1,(.int .i32 8204)),(60,1,(.int .i32 8205)),(61,1,(.int .i32 8206)),(62,1,(.int .i32 8207)),(63,1,(.int .i32 8217)),(64,1,(.int .i32 8232)),(65,1,(.int .i32 8233)),(66,1,(.int .i32 8234)),(67,1,(.int .i32 8235)),(68,1,(.int .i32 8236)),(69,1,(.int .i32 8237)),(70,1,(.int .i32 8238)),(71,1,(.int .i32 8288)),(72,1,(.int .i32 8294)),(73,1,(.int .i32 8295)),(74,1,(.int .i32 8296)),(75,1,(.int .i32 8297)),(76,1,(.int .i32 9728)),(77,1,(.int .i32 12288)),(78,1,(.int .i32 12289)),(79,1,(.int .i32 12300)),(80,1,(.int .i32 12301)),(81,1,(.int .i32 12450)),(82,1,(.int .i32 19968)),(83,1,(.int .i32 65039)),(84,1,(.int .i32 127462)),(85,1,(.int .i32 127463)),(86,1,(.int .i32 127995)),(87,1,(.int .i32 128104)),(88,1,(.int .i32 1114111))]) λv1 h=>Q v1 h
theorem ah7{cl}(hcl:bt prog cl){h Q}(hg:aeV cl h Q):aJ prog 111 [] h Q:=bI hcl [] func111 (by kernel_rfl) (by kernel_rfl) hg
def Sd(cl:CL)(v10 v14:AV)(h:AH)(Q:QT):=wk (aF h 1 v10 v14) λv15 h=>wk (eK h v15) λv16 h=>Q v16 h
def g80(cl:CL)(v0:AV)(h:AH)(Q:QT):=ax cl (F 111) [] h λv4 h=>ax cl (F 112) [v0,I 40] h λv6 h=>wif v6 (ax cl (F 113) [v0] h λv8 h=>wk (cB h .i32 v8) λv9 h=>Q v9 h) (wk (bh h v4) λv13 h=>ax cl (F 8) [v0,v13] h λv14 h=>Sd cl v4 v14 h Q)
theorem C80{cl}(hcl:bt prog cl){v0 h Q}(hg:g80 cl v0 h Q):aJ prog 80 [v0] h Q:=bI hcl [] func80 (by kernel_rfl) (by kernel_rfl) hg
def TC(cl:CL)(v0 v5 v6 v7 v9 v21 v23:AV)(h:AH)(k:KT):=wk (aQ h 1 1 [.int .i32 0] [(0,1,v23)]) λv24 h=>wk (dK h 1 4 v21 v24) λv25 h=>wk (ae h .add v9 (I 1)) λv20 h=>k .nrm [v0,v5,v6,v7,v25,v20] [v0,v5,v6,v7,v25] h
def Gy(cl:CL)(v0 v5 v6 v7 v8 v9:AV)(h:AH)(k:KT):=wk (ae h .lss v9 (I 5)) λv18 h=>wif v18 (ax cl (F 80) [v0] h λv23 h=>TC cl v0 v5 v6 v7 v9 v8 v23 h k) (k (.exit 0) [v0,v5,v6,v7,v8,v9] [v0,v5,v6,v7,v8] h)
def TD(cl:CL)(v0 v5 v7 v8 v10 v33 v34 v36:AV)(h:AH)(k:NT):=wk (aF h 1 v34 v36) λv37 h=>wk (eK h v37) λv38 h=>wk (aQ h 1 1 [.int .i32 0] [(0,1,v38)]) λv39 h=>wk (dK h 1 4 v33 v39) λv40 h=>k [v0,v5,v40,v7,v8,v10] h
def SL(cl:CL)(v0 v5 v7 v8 v10 v41 v43:AV)(h:AH)(k:NT):=wk (aQ h 1 1 [.int .i32 0] [(0,1,v43)]) λv44 h=>wk (dK h 1 4 v41 v44) λv45 h=>k [v0,v5,v45,v7,v8,v10] h
def F8(cl:CL)(v0 v5 v6 v7 v8 v10:AV)(h:AH)(k:NT):=wk (ae h .gtr v7 (I 0)) λv32 h=>wif v32 (ax cl (F 8) [v0,I 5] h λv36 h=>TD cl v0 v5 v7 v8 v10 v6 v8 v36 h k) (ax cl (F 80) [v0] h λv43 h=>SL cl v0 v5 v7 v8 v10 v6 v43 h k)
def Q4(cl:CL)(v0 v5 v6 v7 v8 v10:AV)(h:AH)(k:KT):=wk (ae h .add v10 (I 1)) λv30 h=>k .nrm [v0,v5,v6,v7,v8,v30] [v6] h
def Il(cl:CL)(v0 v5 v6 v7 v8 v10:AV)(h:AH)(k:KT):=wk (ae h .lss v10 v5) λv28 h=>wif v28 (aI (F8 cl v0 v5 v6 v7 v8 v10 h) λvs h=>Q4 cl (ai vs 0) (ai vs 1) (ai vs 2) (ai vs 3) (ai vs 4) (ai vs 5) h k) (k (.exit 2) [v0,v5,v6,v7,v8,v10] [v6] h)
def GM(cl:CL)(v6:AV)(h:AH)(Q:QT):=Q v6 h
def OM(cl:CL)(x:AX)(v6:AV)(h:AH)(Q:QT):=xs x (GM cl v6 h Q) (λj=>cond (Nat.beq j 2) (GM cl v6 h Q) (False)) (Q (.undef) h)
def ID(cl:CL)(v0 v5 v6 v7 v8:AV)(h:AH)(Q:QT):=b9 (λvs h k=>Il cl (ai vs 0) (ai vs 1) (ai vs 2) (ai vs 3) (ai vs 4) (ai vs 5) h k) [v0,v5,v6,v7,v8,I 0] h λx vs h=>OM cl x (ai vs 0) h Q
def Ot(cl:CL)(x:AX)(v0 v5 v6 v7 v8:AV)(h:AH)(Q:QT):=xs x (ID cl v0 v5 v6 v7 v8 h Q) (λj=>cond (Nat.beq j 0) (ID cl v0 v5 v6 v7 v8 h Q) (False)) (Q (.undef) h)
def g38(cl:CL)(v0 v1:AV)(h:AH)(Q:QT):=wk (ae h .add v1 (I 1)) λv13 h=>ax cl (F 8) [v0,v13] h λv14 h=>ax cl (F 8) [v0,I 3] h λv16 h=>b9 (λvs h k=>Gy cl (ai vs 0) (ai vs 1) (ai vs 2) (ai vs 3) (ai vs 4) (ai vs 5) h k) [v0,v14,(.aa),v16,(.aa),I 0] h λx vs h=>Ot cl x (ai vs 0) (ai vs 1) (ai vs 2) (ai vs 3) (ai vs 4) h Q
theorem C38{cl}(hcl:bt prog cl){v0 v1 h Q}(hg:g38 cl v0 v1 h Q):aJ prog 38 [v0,v1] h Q:=bI hcl [(7,.l [0,5,6,7,8,9] [0,5,6,7,8]),(15,.l [0,5,6,7,8,10] [6]),(18,.jn [0,5,6,7,8,10])] func38 (by kernel_rfl) (by kernel_rfl) hg
def g37(cl:CL)(v0 v1:AV)(h:AH)(Q:QT):=wk (kX h .r2s [v1]) λv6 h=>wk (kX h .s2r [v6]) λv7 h=>Q v7 h
theorem C37{cl}(hcl:bt prog cl){v0 v1 h Q}(hg:g37 cl v0 v1 h Q):aJ prog 37 [v0,v1] h Q:=bI hcl [] func37 (by kernel_rfl) (by kernel_rfl) hg
def I3(cl:CL)(v1 v5 v14:AV)(h:AH)(k:NT):=wif v14 (wk (kSl h 1 v5 none (some v1) none) λv17 h=>k [v17] h) (k [v5] h)
def SW(cl:CL)(v5:AV)(h:AH)(Q:QT):=Q v5 h
def g23(cl:CL)(v0 v1:AV)(h:AH)(Q:QT):=ax cl (F 38) [v0,v1] h λv9 h=>ax cl (F 37) [v0,v9] h λv10 h=>wk (bh h v10) λv12 h=>wk (ae h .gtr v12 v1) λv14 h=>aI (I3 cl v1 v10 v14 h) λvs h=>SW cl (ai vs 0) h Q
theorem C23{cl}(hcl:bt prog cl){v0 v1 h Q}(hg:g23 cl v0 v1 h Q):aJ prog 23 [v0,v1] h Q:=bI hcl [(3,.jn [5])] func23 (by kernel_rfl) (by kernel_rfl) hg
def SO(cl:CL)(v0 v5 v6 v7 v19 v20 v22:AV)(h:AH)(k:KT):=wk (ae h .add (I 97) v22) λv23 h=>wk (cB h .u8 v23) λv24 h=>wk (aF h 1 v19 v20) λv25 h=>wk (kSt h 1 v25 v24) λ_ h=>wk (ae h .add v7 (I 1)) λv18 h=>k .nrm [v0,v5,v6,v18] [v6] h
def HS(cl:CL)(v0 v5 v6 v7:AV)(h:AH)(k:KT):=wk (ae h .lss v7 v5) λv16 h=>wif v16 (ax cl (F 8) [v0,I 4] h λv22 h=>SO cl v0 v5 v6 v7 v6 v7 v22 h k) (k (.exit 0) [v0,v5,v6,v7] [v6] h)
def F1(cl:CL)(v6:AV)(h:AH)(Q:QT):=wk (kX h .b2s [v6]) λv27 h=>Q v27 h
def TU(cl:CL)(x:AX)(v6:AV)(h:AH)(Q:QT):=xs x (F1 cl v6 h Q) (λj=>cond (Nat.beq j 0) (F1 cl v6 h Q) (False)) (Q (.undef) h)
def g35(cl:CL)(v0 v1:AV)(h:AH)(Q:QT):=wk (ae h .add v1 (I 1)) λv10 h=>ax cl (F 8) [v0,v10] h λv11 h=>wk (nZ h 1 1 [.int .u8 0] v11 v11) λv13 h=>b9 (λvs h k=>HS cl (ai vs 0) (ai vs 1) (ai vs 2) (ai vs 3) h k) [v0,v11,v13,I 0] h λx vs h=>TU cl x (ai vs 0) h Q
theorem C35{cl}(hcl:bt prog cl){v0 v1 h Q}(hg:g35 cl v0 v1 h Q):aJ prog 35 [v0,v1] h Q:=bI hcl [(5,.l [0,5,6,7] [6])] func35 (by kernel_rfl) (by kernel_rfl) hg
def SC(cl:CL)(v4 v18:AV)(h:AH)(Q:QT):=wk (kSt h 4 v4 v18) λ_ h=>bP (na h [.cell v4 (some 4)]) h Q
def T9(cl:CL)(v4 v22:AV)(h:AH)(Q:QT):=wk (aO h [I 0,I 0,.str [],.aa] [(0,1,(I 3)),(2,1,v22)]) λv23 h=>wk (kSt h 4 v4 v23) λ_ h=>bP (na h [.cell v4 (some 4)]) h Q
def Tq(cl:CL)(r:Nat)(c1:Rec)(v0 v3 v4 v5 v6 v36 v37 v39 v40:AV)(h:AH)(k:NT):=wP h (aF h 4 v39 v40) λv41 c6 h=>wR h (bj h 4 v41) v41 λv42 c7 h=>wdc cl (F 36) [v37,v42] h λv43 c8 h=>wda (r+9) h (dC 4 1 [I 0,I 0,.str [],.aa] [(0,4,v43)]) λv44 c9 h=>wde h (dK h 4 56 v36 v44) λv45 c10 h=>wP h (ah h 3 v5) λv46 c11 h=>wde h (kSt h 1 v46 v45) λ_ c12 h=>aU c1 c8=true/\aU c1 c9=true/\k [v0,v3,v4,v5,v6] h
def Ud(cl:CL)(v0 v3 v4 v5 v6:AV)(h:AH)(k:NT):=ax cl (F 8) [v0,I 3] h λv33 h=>wk (ae h .gtr v33 (I 0)) λv34 h=>wif v34 (wdr h 13 λr h=>wP h (ah h 3 v5) λv35 c0 h=>wR h (eK h v35) v35 λv36 c1 h=>wP h (aB h v0) λv37 c2 h=>wP h (ah h 3 v3) λv38 c3 h=>wR h (eK h v38) v38 λv39 c4 h=>wP h (aB h v6) λv40 c5 h=>Tq cl r c1 v0 v3 v4 v5 v6 v36 v37 v39 v40 h k) (k [v0,v3,v4,v5,v6] h)
def P4(cl:CL)(v0 v3 v4 v5 v6:AV)(h:AH)(k:KT):=wk (ae h .add v6 (I 1)) λv31 h=>k .nrm [v0,v3,v4,v5,v31] [v4,v5] h
def IU(cl:CL)(v0 v3 v4 v5 v6:AV)(h:AH)(k:KT):=wk (ah h 3 v3) λv26 h=>wk (eK h v26) λv27 h=>wk (bh h v27) λv28 h=>wk (ae h .lss v6 v28) λv29 h=>wif v29 (aI (Ud cl v0 v3 v4 v5 v6 h) λvs h=>P4 cl (ai vs 0) (ai vs 1) (ai vs 2) (ai vs 3) (ai vs 4) h k) (k (.exit 1) [v0,v3,v4,v5,v6] [v4,v5] h)
def FP(cl:CL)(v4 v5:AV)(h:AH)(Q:QT):=wk (bj h 4 v5) λv47 h=>wk (kSt h 4 v4 v47) λ_ h=>bP (na h [.cell v4 (some 4)]) h Q
def Q8(cl:CL)(x:AX)(v4 v5:AV)(h:AH)(Q:QT):=xs x (FP cl v4 v5 h Q) (λj=>cond (Nat.beq j 1) (FP cl v4 v5 h Q) (False)) (bP (na h [.cell v4 (some 4)]) h Q)
def TI(cl:CL)(v0 v3 v4 v24:AV)(h:AH)(Q:QT):=wk (cU h [I 0,I 0,.str [],.aa]) λv5 h=>wk (kSt h 4 v5 v24) λ_ h=>b9 (λvs h k=>IU cl (ai vs 0) (ai vs 1) (ai vs 2) (ai vs 3) (ai vs 4) h k) [v0,v3,v4,v5,I 0] h λx vs h=>Q8 cl x (ai vs 0) (ai vs 1) h Q
def g36(cl:CL)(v0 v1:AV)(h:AH)(Q:QT):=wk (fh h v1) λv3 h=>wk (cU h [I 0,I 0,.str [],.aa]) λv4 h=>wk (ah h 0 v3) λv7 h=>wk (eK h v7) λv8 h=>wk (ae h .eql v8 (I 1)) λv10 h=>wif v10 (ax cl (F 19) [v0,(I (-3)),I 9] h λv12 h=>wk (aO h [I 0,I 0,.str [],.aa] [(0,1,(I 1)),(1,1,v12)]) λv13 h=>wk (kSt h 4 v4 v13) λ_ h=>bP (na h [.cell v4 (some 4)]) h Q) (wk (ae h .eql v8 (I 2)) λv15 h=>wif v15 (ax cl (F 8) [v0,I 2] h λv17 h=>wk (aO h [I 0,I 0,.str [],.aa] [(0,1,(I 2)),(1,1,v17)]) λv18 h=>SC cl v4 v18 h Q) (wk (ae h .eql v8 (I 3)) λv20 h=>wif v20 (ax cl (F 35) [v0,I 4] h λv22 h=>T9 cl v4 v22 h Q) (wk (aO h [I 0,I 0,.str [],.aa] [(0,1,(I 4))]) λv24 h=>TI cl v0 v3 v4 v24 h Q)))
theorem C36{cl}(hcl:bt prog cl){v0 v1 h Q}(hg:g36 cl v0 v1 h Q):aJ prog 36 [v0,v1] h Q:=bI hcl [(15,.l [0,3,4,5,6] [4,5]),(18,.jn [0,3,4,5,6])] func36 (by kernel_rfl) (by kernel_rfl) hg
def Ay(cl:CL)(v0 v1 v4 v11 v17:AV)(h:AH)(k:NT):=wif v17 (k [v0,v1,v4,v11,v17] h) (wk (ae h .eql v11 (I 2)) λv19 h=>k [v0,v1,v4,v11,v19] h)
def TG(cl:CL)(c1 c4 c5:Rec)(v0 v4 v5 v6 v7 v8 v53:AV)(h:AH)(k:KT):=wP h (ah h 3 v5) λv54 c7 h=>wde h (kSt h 1 v54 v53) λ_ c8 h=>aU c1 c4=true/\aU c1 c5=true/\wk (ae h .add v8 (I 1)) λv46 h=>k .nrm [v0,v4,v5,v6,v7,v46] [v4,v5] h
def E0(cl:CL)(v0 v4 v5 v6 v7 v8:AV)(h:AH)(k:KT):=wk (ae h .lss v8 v6) λv44 h=>wif v44 (wdr h 9 λr h=>wP h (ah h 3 v5) λv47 c0 h=>wR h (eK h v47) v47 λv48 c1 h=>wP h (aB h v0) λv49 c2 h=>wR h (bj h 4 v7) v7 λv50 c3 h=>wdc cl (F 36) [v49,v50] h λv51 c4 h=>wda (r+5) h (dC 4 1 [I 0,I 0,.str [],.aa] [(0,4,v51)]) λv52 c5 h=>wde h (dK h 4 56 v48 v52) λv53 c6 h=>TG cl c1 c4 c5 v0 v4 v5 v6 v7 v8 v53 h k) (k (.exit 1) [v0,v4,v5,v6,v7,v8] [v4,v5] h)
def Ir(cl:CL)(v4 v5:AV)(h:AH)(k:NT):=k [v4,v5] h
def O0(cl:CL)(x:AX)(v4 v5:AV)(h:AH)(k:NT):=xs x (Ir cl v4 v5 h k) (λj=>cond (Nat.beq j 1) (Ir cl v4 v5 h k) (False)) (False)
def OE(cl:CL)(v0 v4 v5 v6 v7 v37 v39:AV)(h:AH)(k:NT):=wk (dK h 4 56 v37 v39) λv40 h=>wk (ah h 3 v5) λv41 h=>wk (kSt h 1 v41 v40) λ_ h=>b9 (λvs h k=>E0 cl (ai vs 0) (ai vs 1) (ai vs 2) (ai vs 3) (ai vs 4) (ai vs 5) h k) [v0,v4,v5,v6,v7,I 1] h λx vs h=>O0 cl x (ai vs 0) (ai vs 1) h k
def GO(cl:CL)(v0 v1 v4 v5 v6 v31:AV)(h:AH)(k:NT):=wif v31 (wk (ae h .sub v1 (I 1)) λv34 h=>ax cl (F 22) [v0,v34] h λv35 h=>wk (cU h [I 0,I 0,.str [],.aa]) λv7 h=>wk (kSt h 4 v7 v35) λ_ h=>wk (ah h 3 v5) λv36 h=>wk (eK h v36) λv37 h=>wk (bj h 4 v7) λv38 h=>wk (aQ h 4 1 [I 0,I 0,.str [],.aa] [(0,4,v38)]) λv39 h=>OE cl v0 v4 v5 v6 v7 v37 v39 h k) (k [v4,v5] h)
def FQ(cl:CL)(v4 v5:AV)(h:AH)(k:JT):=wk (bj h 4 v5) λv55 h=>wk (kSt h 4 v4 v55) λ_ h=>k .ret [.undef,v4] h
def qF(cl:CL)(v0 v1 v4 v11 v17:AV)(h:AH)(k:JT):=wif v17 (ax cl (F 35) [v0,I 4] h λv21 h=>wk (aO h [I 0,I 0,.str [],.aa] [(0,1,(I 3)),(2,1,v21)]) λv22 h=>wk (kSt h 4 v4 v22) λ_ h=>k .ret [v0,v4] h) (wk (ae h .eql v11 (I 3)) λv24 h=>wif v24 (wk (ae h .gtr v1 (I 0)) λv26 h=>wif v26 (wk (aO h [I 0,I 0,.str [],.aa] [(0,1,(I 4))]) λv27 h=>wk (cU h [I 0,I 0,.str [],.aa]) λv5 h=>wk (kSt h 4 v5 v27) λ_ h=>ax cl (F 8) [v0,I 4] h λv29 h=>wk (ae h .gtr v29 (I 0)) λv31 h=>aI (GO cl v0 v1 v4 v5 v29 v31 h) λvs h=>FQ cl (ai vs 0) (ai vs 1) h k) (k .nrm [v0,v4] h)) (k .nrm [v0,v4] h))
def Bv(cl:CL)(v0 v1 v4 v11:AV)(h:AH)(k:JT):=wk (ae h .eql v11 (I 0)) λv13 h=>wif v13 (ax cl (F 8) [v0,I 2] h λv15 h=>wk (aO h [I 0,I 0,.str [],.aa] [(0,1,(I 2)),(1,1,v15)]) λv16 h=>wk (kSt h 4 v4 v16) λ_ h=>k .ret [v0,v4] h) (wk (ae h .eql v11 (I 1)) λv18 h=>aI (Ay cl v0 v1 v4 v11 v18 h) λvs h=>qF cl (ai vs 0) (ai vs 1) (ai vs 2) (ai vs 3) (ai vs 4) h k)
def RH(cl:CL)(v4 v57 v61:AV)(h:AH)(Q:QT):=wk (aF h 1 v57 v61) λv62 h=>wk (eK h v62) λv63 h=>wk (aO h [I 0,I 0,.str [],.aa] [(0,1,(I 1)),(1,1,v63)]) λv64 h=>wk (kSt h 4 v4 v64) λ_ h=>bP (na h [.cell v4 (some 4)]) h Q
def BI(cl:CL)(x:AX)(v0 v4:AV)(h:AH)(Q:QT):=xs x (wk (aQ h 1 10 [I 0,I 0,I 0,I 0,I 0,I 0,I 0,I 0,I 0,I 0] [(0,1,(I 0)),(1,1,(I 1)),(2,1,(I 2)),(3,1,(I 3)),(4,1,(I (-1))),(5,1,(I 7)),(6,1,(I 10)),(7,1,(I 1099511627776)),(8,1,(I (-1099511627776))),(9,1,(I 1099511627775))]) λv56 h=>wk (bh h v56) λv60 h=>ax cl (F 8) [v0,v60] h λv61 h=>RH cl v4 v56 v61 h Q) (λj=>False) (bP (na h [.cell v4 (some 4)]) h Q)
def g22(cl:CL)(v0 v1:AV)(h:AH)(Q:QT):=wk (cU h [I 0,I 0,.str [],.aa]) λv4 h=>ax cl (F 8) [v0,I 5] h λv11 h=>vJ (Bv cl v0 v1 v4 v11 h) λx vs h=>BI cl x (ai vs 0) (ai vs 1) h Q
theorem C22{cl}(hcl:bt prog cl){v0 v1 h Q}(hg:g22 cl v0 v1 h Q):aJ prog 22 [v0,v1] h Q:=bI hcl [(2,.j [0,4]),(7,.jn [0,1,4,11,17]),(18,.jn [4,5]),(23,.l [0,4,5,6,7,8] [4,5])] func22 (by kernel_rfl) (by kernel_rfl) hg
def Rb(cl:CL)(v2 v5 v8 v9 v11:AV)(h:AH)(Q:QT):=wk (aF h 1 v9 v11) λv12 h=>wk (eK h v12) λv13 h=>wk (aO h [.bool false,.bool false,I 0] [(0,1,v5),(1,1,v8),(2,1,v13)]) λv14 h=>wk (kSt h 3 v2 v14) λ_ h=>bP (na h [.cell v2 (some 3)]) h Q
def Qg(cl:CL)(v0 v2 v5 v7:AV)(h:AH)(Q:QT):=wk (ae h .eql v7 (I 1)) λv8 h=>wk (aQ h 1 5 [I 0,I 0,I 0,I 0,I 0] [(0,1,(I 100)),(1,1,(I 100)),(2,1,(I 50)),(3,1,(I 150)),(4,1,(I 400))]) λv9 h=>ax cl (F 8) [v0,I 5] h λv11 h=>Rb cl v2 v5 v8 v9 v11 h Q
def QK(cl:CL)(v0 v2 v4:AV)(h:AH)(Q:QT):=wk (ae h .eql v4 (I 1)) λv5 h=>ax cl (F 8) [v0,I 2] h λv7 h=>Qg cl v0 v2 v5 v7 h Q
def g21(cl:CL)(v0:AV)(h:AH)(Q:QT):=wk (cU h [.bool false,.bool false,I 0]) λv2 h=>ax cl (F 8) [v0,I 2] h λv4 h=>QK cl v0 v2 v4 h Q
theorem C21{cl}(hcl:bt prog cl){v0 h Q}(hg:g21 cl v0 h Q):aJ prog 21 [v0] h Q:=bI hcl [] func21 (by kernel_rfl) (by kernel_rfl) hg
def Sp(cl:CL)(v0 v3 v4 v12:AV)(h:AH)(k:KT):=k .nrm [v0,v3,v4,v12] [v4] h
def QP(cl:CL)(r:Nat)(v0 v3 v4 v5 v13 v19:AV)(h:AH)(k:KT):=wR h (eK h v19) v19 λv20 c7 h=>wP h (aB h v0) λv21 c8 h=>wdc cl (F 8) [v21,I 3] h λv22 c9 h=>wP h (aO h [I 0,I 0] [(0,1,v20),(1,1,v22)]) λv23 c10 h=>wda (r+11) h (dC 2 1 [I 0,I 0] [(0,2,v23)]) λv24 c11 h=>wde h (dK h 2 16 v13 v24) λv25 c12 h=>wP h (aB h v25) λv4 c13 h=>aU c7 c9=true/\wk (ae h .sub v5 (I 1)) λv12 h=>Sp cl v0 v3 v4 v12 h k
def Gf(cl:CL)(v0 v3 v4 v5:AV)(h:AH)(k:KT):=wk (ae h .gtr v5 (I 0)) λv10 h=>wif v10 (wdr h 14 λr h=>wP h (aB h v4) λv13 c0 h=>wP h (aB h v3) λv14 c1 h=>wP h (aB h v0) λv15 c2 h=>wP h (aB h v3) λv16 c3 h=>wP h (bh h v16) λv17 c4 h=>wdc cl (F 8) [v15,v17] h λv18 c5 h=>wP h (aF h 1 v14 v18) λv19 c6 h=>QP cl r v0 v3 v4 v5 v13 v19 h k) (k (.exit 0) [v0,v3,v4,v5] [v4] h)
def FB(cl:CL)(v4:AV)(h:AH)(Q:QT):=Q v4 h
def OC(cl:CL)(x:AX)(v4:AV)(h:AH)(Q:QT):=xs x (FB cl v4 h Q) (λj=>cond (Nat.beq j 0) (FB cl v4 h Q) (False)) (Q (.undef) h)
def g20(cl:CL)(v0:AV)(h:AH)(Q:QT):=wk (aQ h 1 7 [I 0,I 0,I 0,I 0,I 0,I 0,I 0] [(0,1,(I 97)),(1,1,(I 107)),(2,1,(I 99)),(3,1,(I 49)),(4,1,(I 32)),(5,1,(I 2)),(6,1,(I 12))]) λv6 h=>ax cl (F 19) [v0,I 1,I 3] h λv8 h=>b9 (λvs h k=>Gf cl (ai vs 0) (ai vs 1) (ai vs 2) (ai vs 3) h k) [v0,v6,(.aa),v8] h λx vs h=>OC cl x (ai vs 0) h Q
theorem C20{cl}(hcl:bt prog cl){v0 h Q}(hg:g20 cl v0 h Q):aJ prog 20 [v0] h Q:=bI hcl [(5,.l [0,3,4,5] [4])] func20 (by kernel_rfl) (by kernel_rfl) hg
def YF(cl:CL)(v2 v15 v17 v18 v20 v22 v24:AV)(h:AH)(Q:QT):=wk (aO h [I 0,I 0,I 0,I 0,I 0,I 0] [(0,1,v15),(1,1,v17),(2,1,v18),(3,1,v20),(4,1,v22),(5,1,v24)]) λv25 h=>wk (aO h [I 0,I 0,I 0,I 0,I 0,I 0,I 0,I 0,I 0,I 0,I 0,I 0,.bool false,.bool false,I 0,.aa,I 0,I 0,I 0,I 0,I 0,.str [],I 0,.aa,.aa,.aa,I 0,I 0,.bool false,I 0,I 0,I 0,I 0,I 0,I 0,.aa,I 0] [(0,1,(I 1)),(1,6,v25)]) λv26 h=>wk (kSt h 37 v2 v26) λ_ h=>bP (na h [.cell v2 (some 37)]) h Q
def XS(cl:CL)(v0 v2 v15 v17 v18 v20 v22:AV)(h:AH)(Q:QT):=ax cl (F 19) [v0,(I (-9)),I 9] h λv24 h=>YF cl v2 v15 v17 v18 v20 v22 v24 h Q
def XQ(cl:CL)(v0 v2 v3 v15 v17:AV)(h:AH)(Q:QT):=wk (kUn h .neg v3) λv20 h=>ax cl (F 8) [v0,I 99] h λv22 h=>XS cl v0 v2 v15 v17 v3 v20 v22 h Q
def Qk(cl:CL)(v0 v2 v3 v15:AV)(h:AH)(Q:QT):=ax cl (F 8) [v0,I 9] h λv17 h=>XQ cl v0 v2 v3 v15 v17 h Q
def Ya(cl:CL)(v0 v2 v31:AV)(h:AH)(Q:QT):=wR h (bj h 2 v31) v31 λv32 c3 h=>wP h (aB h v0) λv33 c4 h=>wdc cl (F 8) [v33,I 99] h λv34 c5 h=>wP h (aO h [I 0,I 0,I 0,I 0,I 0,I 0,I 0,I 0,I 0,I 0,I 0,I 0,.bool false,.bool false,I 0,.aa,I 0,I 0,I 0,I 0,I 0,.str [],I 0,.aa,.aa,.aa,I 0,I 0,.bool false,I 0,I 0,I 0,I 0,I 0,I 0,.aa,I 0] [(0,1,(I 2)),(7,2,v32),(9,1,v34)]) λv35 c6 h=>wde h (kSt h 37 v2 v35) λ_ c7 h=>aU c3 c5=true/\bP (na h [.cell v2 (some 37)]) h Q
def Yk(cl:CL)(v2 v42 v44:AV)(h:AH)(Q:QT):=wk (aO h [I 0,I 0] [(0,1,v42),(1,1,v44)]) λv45 h=>wk (aO h [I 0,I 0,I 0,I 0,I 0,I 0,I 0,I 0,I 0,I 0,I 0,I 0,.bool false,.bool false,I 0,.aa,I 0,I 0,I 0,I 0,I 0,.str [],I 0,.aa,.aa,.aa,I 0,I 0,.bool false,I 0,I 0,I 0,I 0,I 0,I 0,.aa,I 0] [(0,1,(I 4)),(10,2,v45)]) λv46 h=>wk (kSt h 37 v2 v46) λ_ h=>bP (na h [.cell v2 (some 37)]) h Q
def YK(cl:CL)(c1 c3 c4:Rec)(v0 v2 v4 v5 v66 v67:AV)(h:AH)(k:KT):=wde h (kSt h 1 v67 v66) λ_ c7 h=>aU c1 c3=true/\aU c1 c4=true/\wk (ae h .sub v5 (I 1)) λv60 h=>k .nrm [v0,v2,v4,v60] [v2,v4] h
def Oj(cl:CL)(v0 v2 v4 v5:AV)(h:AH)(k:KT):=wk (ae h .gtr v5 (I 0)) λv58 h=>wif v58 (wdr h 8 λr h=>wP h (ah h 15 v4) λv61 c0 h=>wR h (eK h v61) v61 λv62 c1 h=>wP h (aB h v0) λv63 c2 h=>wdc cl (F 22) [v63,I 2] h λv64 c3 h=>wda (r+4) h (dC 4 1 [I 0,I 0,.str [],.aa] [(0,4,v64)]) λv65 c4 h=>wde h (dK h 4 56 v62 v65) λv66 c5 h=>wP h (ah h 15 v4) λv67 c6 h=>YK cl c1 c3 c4 v0 v2 v4 v5 v66 v67 h k) (k (.exit 1) [v0,v2,v4,v5] [v2,v4] h)
def R9(cl:CL)(v2 v4:AV)(h:AH)(Q:QT):=wk (bj h 37 v4) λv68 h=>wk (kSt h 37 v2 v68) λ_ h=>bP (na h [.cell v2 (some 37)]) h Q
def afR(cl:CL)(v2 v6 v95 v99:AV)(h:AH)(k:NT):=wk (aG h v95 (.bool true) v99) λgF h=>k [.undef,v2,v6,gF] h
def ae1(cl:CL)(v2 v6:AV)(h:AH)(k:NT):=wk (ah h 22 v6) λv91 h=>wk (ah h 0 v91) λv92 h=>wk (eK h v92) λv93 h=>wk (ae h .eql v93 (I 15)) λv94 h=>wsp v94 λv95=>gB v95 (ah h 22 v6) h λv96 h=>gB v95 (ah h 0 v96) h λv97 h=>gB v95 (eK h v97) h λv98 h=>gB v95 (ae h .eql v98 (I 16)) h λv99 h=>afR cl v2 v6 v95 v99 h k
def adv(cl:CL)(v0 v2 v6 iW:AV)(h:AH)(k:NT):=wk (ah h 22 v6) λmO h=>wk (ah h 1 mO) λpV h=>wk (kSt h 1 pV iW) λ_ h=>k [v0,v2,v6] h
def afQ(cl:CL)(v0 v2 v6 gF:AV)(h:AH)(k:NT):=wif gF (ax cl (F 23) [v0,I 5] h λiW h=>adv cl v0 v2 v6 iW h k) (k [v0,v2,v6] h)
def abg(cl:CL)(v0 v2 v6 kG:AV)(h:AH)(k:KT):=k .nrm [v0,v2,v6,kG] [v2,v6] h
def Zh(cl:CL)(r:Nat)(c2 c4 c6:Rec)(v0 v2 v6 v7 kK nf ni:AV)(h:AH)(k:KT):=wP h (ae h .eql ni (I 1)) λoq c7 h=>wP h (aO h [I 0,.bool false] [(0,1,nf),(1,1,oq)]) λv127 c8 h=>wda (r+9) h (dC 2 1 [I 0,.bool false] [(0,2,v127)]) λnh c9 h=>wde h (dK h 2 16 kK nh) λou c10 h=>wP h (ah h 22 v6) λv130 c11 h=>wP h (ah h 13 v130) λv131 c12 h=>wde h (kSt h 1 v131 ou) λ_ c13 h=>aU c2 c4=true/\aU c2 c6=true/\aU c2 c9=true/\wk (ae h .sub v7 (I 1)) λkG h=>abg cl v0 v2 v6 kG h k
def adP(cl:CL)(v0 v2 v6 v7:AV)(h:AH)(k:KT):=wk (ae h .gtr v7 (I 0)) λjC h=>wif jC (wdr h 14 λr h=>wP h (ah h 22 v6) λkJ c0 h=>wP h (ah h 13 kJ) λfB c1 h=>wR h (eK h fB) fB λkK c2 h=>wP h (aB h v0) λow c3 h=>wdc cl (F 19) [ow,I 1,I 3] h λnf c4 h=>wP h (aB h v0) λv124 c5 h=>wdc cl (F 8) [v124,I 2] h λni c6 h=>Zh cl r c2 c4 c6 v0 v2 v6 v7 kK nf ni h k) (k (.exit 3) [v0,v2,v6,v7] [v2,v6] h)
def Yr(cl:CL)(v2 v6:AV)(h:AH)(k:NT):=k [v2,v6] h
def afc(cl:CL)(x:AX)(v2 v6:AV)(h:AH)(k:NT):=xs x (Yr cl v2 v6 h k) (λj=>cond (Nat.beq j 3) (Yr cl v2 v6 h k) (False)) (False)
def Z5(cl:CL)(v0 v2 v6 kq:AV)(h:AH)(k:NT):=wk (ah h 22 v6) λgp h=>wk (ah h 12 gp) λjD h=>wk (kSt h 1 jD kq) λ_ h=>ax cl (F 8) [v0,I 3] h λiV h=>b9 (λvs h k=>adP cl (ai vs 0) (ai vs 1) (ai vs 2) (ai vs 3) h k) [v0,v2,v6,iV] h λx vs h=>afc cl x (ai vs 0) (ai vs 1) h k
def afh(cl:CL)(v0 v2 v6 iL:AV)(h:AH)(k:NT):=wif iL (ax cl (F 8) [v0,I 6] h λkq h=>Z5 cl v0 v2 v6 kq h k) (k [v2,v6] h)
def aeg(cl:CL)(v2 v6:AV)(h:AH)(Q:QT):=wk (bj h 37 v6) λgG h=>wk (kSt h 37 v2 gG) λ_ h=>bP (na h [.cell v2 (some 37)]) h Q
def abn(cl:CL)(v0 v2 v6:AV)(h:AH)(Q:QT):=wk (ah h 22 v6) λv105 h=>wk (ah h 0 v105) λmg h=>wk (eK h mg) λv107 h=>wk (ae h .eql v107 (I 15)) λiL h=>aI (afh cl v0 v2 v6 iL h) λvs h=>aeg cl (ai vs 0) (ai vs 1) h Q
def abb(cl:CL)(v0 v2 v6 gF:AV)(h:AH)(Q:QT):=aI (afQ cl v0 v2 v6 gF h) λvs h=>abn cl (ai vs 0) (ai vs 1) (ai vs 2) h Q
def abf(cl:CL)(v2 v88:AV)(h:AH)(Q:QT):=wk (aO h [I 0,.aa,.aa,.aa,I 0,I 0,.bool false,I 0,I 0,I 0,I 0,I 0,I 0,.aa,I 0] [(0,1,v88)]) λv89 h=>wk (aO h [I 0,I 0,I 0,I 0,I 0,I 0,I 0,I 0,I 0,I 0,I 0,I 0,.bool false,.bool false,I 0,.aa,I 0,I 0,I 0,I 0,I 0,.str [],I 0,.aa,.aa,.aa,I 0,I 0,.bool false,I 0,I 0,I 0,I 0,I 0,I 0,.aa,I 0] [(0,1,(I 8)),(22,15,v89)]) λv90 h=>wk (cU h [I 0,I 0,I 0,I 0,I 0,I 0,I 0,I 0,I 0,I 0,I 0,I 0,.bool false,.bool false,I 0,.aa,I 0,I 0,I 0,I 0,I 0,.str [],I 0,.aa,.aa,.aa,I 0,I 0,.bool false,I 0,I 0,I 0,I 0,I 0,I 0,.aa,I 0]) λv6 h=>wk (kSt h 37 v6 v90) λ_ h=>aI (ae1 cl v2 v6 h) λvs h=>abb cl (ai vs 0) (ai vs 1) (ai vs 2) (ai vs 3) h Q
def Pg(cl:CL)(x:AX)(v2 v4:AV)(h:AH)(Q:QT):=xs x (R9 cl v2 v4 h Q) (λj=>cond (Nat.beq j 1) (R9 cl v2 v4 h Q) (cond (Nat.beq j 0) (ax cl (F 19) [.undef,I 14,I 17] h λv88 h=>abf cl v2 v88 h Q) (False))) (bP (na h [.cell v2 (some 37)]) h Q)
def Tr(cl:CL)(v2 v72 v73 v77 v79 v81 v83:AV)(h:AH)(Q:QT):=wk (kX h .r2s [v83]) λv84 h=>wk (aO h [I 0,I 0,I 0,I 0,I 0,.str []] [(0,1,v72),(1,1,v73),(2,1,v77),(3,1,v79),(4,1,v81),(5,1,v84)]) λv85 h=>wk (aO h [I 0,I 0,I 0,I 0,I 0,I 0,I 0,I 0,I 0,I 0,I 0,I 0,.bool false,.bool false,I 0,.aa,I 0,I 0,I 0,I 0,I 0,.str [],I 0,.aa,.aa,.aa,I 0,I 0,.bool false,I 0,I 0,I 0,I 0,I 0,I 0,.aa,I 0] [(0,1,(I 7)),(16,6,v85)]) λv86 h=>wk (kSt h 37 v2 v86) λ_ h=>bP (na h [.cell v2 (some 37)]) h Q
def Sw(cl:CL)(v0 v2 v72 v73 v77 v79 v81:AV)(h:AH)(Q:QT):=ax cl (F 23) [v0,I 4] h λv83 h=>Tr cl v2 v72 v73 v77 v79 v81 v83 h Q
def RY(cl:CL)(v0 v2 v72 v73 v77 v79:AV)(h:AH)(Q:QT):=ax cl (F 8) [v0,I 9] h λv81 h=>Sw cl v0 v2 v72 v73 v77 v79 v81 h Q
def TJ(cl:CL)(v0 v2 v72 v73 v75:AV)(h:AH)(Q:QT):=wk (cB h .u64 v75) λv76 h=>wk (ae h .shl (I 1) v76) λv77 h=>ax cl (F 8) [v0,I 9] h λv79 h=>RY cl v0 v2 v72 v73 v77 v79 h Q
def Gg(cl:CL)(v0 v2 v3 v72:AV)(h:AH)(Q:QT):=ax cl (F 8) [v0,I 9] h λv75 h=>TJ cl v0 v2 v72 v3 v75 h Q
def A1(cl:CL)(v0 v2 v6 v95 v99:AV)(h:AH)(k:NT):=wk (aG h v95 (.bool true) v99) λgF h=>k [v0,v2,v6,gF] h
def AZ(cl:CL)(v0 v2 v6:AV)(h:AH)(k:NT):=wk (ah h 22 v6) λv91 h=>wk (ah h 0 v91) λv92 h=>wk (eK h v92) λv93 h=>wk (ae h .eql v93 (I 15)) λv94 h=>wsp v94 λv95=>gB v95 (ah h 22 v6) h λv96 h=>gB v95 (ah h 0 v96) h λv97 h=>gB v95 (eK h v97) h λv98 h=>gB v95 (ae h .eql v98 (I 16)) h λv99 h=>A1 cl v0 v2 v6 v95 v99 h k
def Pz(cl:CL)(v0 v2 v6 iW:AV)(h:AH)(k:NT):=wk (ah h 22 v6) λmO h=>wk (ah h 1 mO) λpV h=>wk (kSt h 1 pV iW) λ_ h=>k [v0,v2,v6] h
def IZ(cl:CL)(v0 v2 v6 gF:AV)(h:AH)(k:NT):=wif gF (ax cl (F 23) [v0,I 5] h λiW h=>Pz cl v0 v2 v6 iW h k) (k [v0,v2,v6] h)
def QA(cl:CL)(v0 v2 v6 kG:AV)(h:AH)(k:KT):=k .nrm [v0,v2,v6,kG] [v2,v6] h
def Pt(cl:CL)(r:Nat)(c2 c4 c6:Rec)(v0 v2 v6 v7 kK nf ni:AV)(h:AH)(k:KT):=wP h (ae h .eql ni (I 1)) λoq c7 h=>wP h (aO h [I 0,.bool false] [(0,1,nf),(1,1,oq)]) λv127 c8 h=>wda (r+9) h (dC 2 1 [I 0,.bool false] [(0,2,v127)]) λnh c9 h=>wde h (dK h 2 16 kK nh) λou c10 h=>wP h (ah h 22 v6) λv130 c11 h=>wP h (ah h 13 v130) λv131 c12 h=>wde h (kSt h 1 v131 ou) λ_ c13 h=>aU c2 c4=true/\aU c2 c6=true/\aU c2 c9=true/\wk (ae h .sub v7 (I 1)) λkG h=>QA cl v0 v2 v6 kG h k
def B8(cl:CL)(v0 v2 v6 v7:AV)(h:AH)(k:KT):=wk (ae h .gtr v7 (I 0)) λjC h=>wif jC (wdr h 14 λr h=>wP h (ah h 22 v6) λkJ c0 h=>wP h (ah h 13 kJ) λfB c1 h=>wR h (eK h fB) fB λkK c2 h=>wP h (aB h v0) λow c3 h=>wdc cl (F 19) [ow,I 1,I 3] h λnf c4 h=>wP h (aB h v0) λv124 c5 h=>wdc cl (F 8) [v124,I 2] h λni c6 h=>Pt cl r c2 c4 c6 v0 v2 v6 v7 kK nf ni h k) (k (.exit 3) [v0,v2,v6,v7] [v2,v6] h)
def H7(cl:CL)(v2 v6:AV)(h:AH)(k:NT):=k [v2,v6] h
def IK(cl:CL)(x:AX)(v2 v6:AV)(h:AH)(k:NT):=xs x (H7 cl v2 v6 h k) (λj=>cond (Nat.beq j 3) (H7 cl v2 v6 h k) (False)) (False)
def P_(cl:CL)(v0 v2 v6 kq:AV)(h:AH)(k:NT):=wk (ah h 22 v6) λgp h=>wk (ah h 12 gp) λjD h=>wk (kSt h 1 jD kq) λ_ h=>ax cl (F 8) [v0,I 3] h λiV h=>b9 (λvs h k=>B8 cl (ai vs 0) (ai vs 1) (ai vs 2) (ai vs 3) h k) [v0,v2,v6,iV] h λx vs h=>IK cl x (ai vs 0) (ai vs 1) h k
def HL(cl:CL)(v0 v2 v6 iL:AV)(h:AH)(k:NT):=wif iL (ax cl (F 8) [v0,I 6] h λkq h=>P_ cl v0 v2 v6 kq h k) (k [v2,v6] h)
def Al(cl:CL)(v2 v6:AV)(h:AH)(Q:QT):=wk (bj h 37 v6) λgG h=>wk (kSt h 37 v2 gG) λ_ h=>bP (na h [.cell v2 (some 37)]) h Q
def FI(cl:CL)(v0 v2 v6:AV)(h:AH)(Q:QT):=wk (ah h 22 v6) λv105 h=>wk (ah h 0 v105) λmg h=>wk (eK h mg) λv107 h=>wk (ae h .eql v107 (I 15)) λiL h=>aI (HL cl v0 v2 v6 iL h) λvs h=>Al cl (ai vs 0) (ai vs 1) h Q
def Pm(cl:CL)(v0 v2 v6 gF:AV)(h:AH)(Q:QT):=aI (IZ cl v0 v2 v6 gF h) λvs h=>FI cl (ai vs 0) (ai vs 1) (ai vs 2) h Q
def GA(cl:CL)(v0 v2 v88:AV)(h:AH)(Q:QT):=wk (aO h [I 0,.aa,.aa,.aa,I 0,I 0,.bool false,I 0,I 0,I 0,I 0,I 0,I 0,.aa,I 0] [(0,1,v88)]) λv89 h=>wk (aO h [I 0,I 0,I 0,I 0,I 0,I 0,I 0,I 0,I 0,I 0,I 0,I 0,.bool false,.bool false,I 0,.aa,I 0,I 0,I 0,I 0,I 0,.str [],I 0,.aa,.aa,.aa,I 0,I 0,.bool false,I 0,I 0,I 0,I 0,I 0,I 0,.aa,I 0] [(0,1,(I 8)),(22,15,v89)]) λv90 h=>wk (cU h [I 0,I 0,I 0,I 0,I 0,I 0,I 0,I 0,I 0,I 0,I 0,I 0,.bool false,.bool false,I 0,.aa,I 0,I 0,I 0,I 0,I 0,.str [],I 0,.aa,.aa,.aa,I 0,I 0,.bool false,I 0,I 0,I 0,I 0,I 0,I 0,.aa,I 0]) λv6 h=>wk (kSt h 37 v6 v90) λ_ h=>aI (AZ cl v0 v2 v6 h) λvs h=>Pm cl (ai vs 0) (ai vs 1) (ai vs 2) (ai vs 3) h Q
def sg(cl:CL)(v0 v2 v3 v11 v48:AV)(h:AH)(Q:QT):=wif v48 (ax cl (F 21) [v0] h λv50 h=>wk (aO h [I 0,I 0,I 0,I 0,I 0,I 0,I 0,I 0,I 0,I 0,I 0,I 0,.bool false,.bool false,I 0,.aa,I 0,I 0,I 0,I 0,I 0,.str [],I 0,.aa,.aa,.aa,I 0,I 0,.bool false,I 0,I 0,I 0,I 0,I 0,I 0,.aa,I 0] [(0,1,(I 5)),(12,3,v50)]) λv51 h=>wk (kSt h 37 v2 v51) λ_ h=>bP (na h [.cell v2 (some 37)]) h Q) (wk (ae h .eql v11 (I 5)) λv53 h=>wif v53 (wk (aO h [I 0,I 0,I 0,I 0,I 0,I 0,I 0,I 0,I 0,I 0,I 0,I 0,.bool false,.bool false,I 0,.aa,I 0,I 0,I 0,I 0,I 0,.str [],I 0,.aa,.aa,.aa,I 0,I 0,.bool false,I 0,I 0,I 0,I 0,I 0,I 0,.aa,I 0] [(0,1,(I 6))]) λv54 h=>wk (cU h [I 0,I 0,I 0,I 0,I 0,I 0,I 0,I 0,I 0,I 0,I 0,I 0,.bool false,.bool false,I 0,.aa,I 0,I 0,I 0,I 0,I 0,.str [],I 0,.aa,.aa,.aa,I 0,I 0,.bool false,I 0,I 0,I 0,I 0,I 0,I 0,.aa,I 0]) λv4 h=>wk (kSt h 37 v4 v54) λ_ h=>ax cl (F 8) [v0,I 3] h λv56 h=>b9 (λvs h k=>Oj cl (ai vs 0) (ai vs 1) (ai vs 2) (ai vs 3) h k) [v0,v2,v4,v56] h λx vs h=>Pg cl x (ai vs 0) (ai vs 1) h Q) (wk (ae h .eql v11 (I 6)) λv70 h=>wif v70 (ax cl (F 8) [v0,I 9] h λv72 h=>Gg cl v0 v2 v3 v72 h Q) (ax cl (F 19) [v0,I 14,I 17] h λv88 h=>GA cl v0 v2 v88 h Q)))
def g9(cl:CL)(v0:AV)(h:AH)(Q:QT):=wk (cU h [I 0,I 0,I 0,I 0,I 0,I 0,I 0,I 0,I 0,I 0,I 0,I 0,.bool false,.bool false,I 0,.aa,I 0,I 0,I 0,I 0,I 0,.str [],I 0,.aa,.aa,.aa,I 0,I 0,.bool false,I 0,I 0,I 0,I 0,I 0,I 0,.aa,I 0]) λv2 h=>ax cl (F 19) [v0,(I (-3)),I 999] h λv9 h=>ax cl (F 8) [v0,I 8] h λv11 h=>wk (ae h .eql v11 (I 0)) λv13 h=>wif v13 (ax cl (F 19) [v0,I 1,I 6] h λv15 h=>Qk cl v0 v2 v9 v15 h Q) (wk (ae h .eql v11 (I 1)) λv28 h=>wif v28 (wdr h 8 λr h=>wP h (aB h v0) λv29 c0 h=>wdc cl (F 20) [v29] h λv30 c1 h=>wP h (aF h 2 v30 (I 0)) λv31 c2 h=>Ya cl v0 v2 v31 h Q) (wk (ae h .eql v11 (I 2)) λv37 h=>wif v37 (wk (aO h [I 0,I 0,I 0,I 0,I 0,I 0,I 0,I 0,I 0,I 0,I 0,I 0,.bool false,.bool false,I 0,.aa,I 0,I 0,I 0,I 0,I 0,.str [],I 0,.aa,.aa,.aa,I 0,I 0,.bool false,I 0,I 0,I 0,I 0,I 0,I 0,.aa,I 0] [(0,1,(I 3)),(9,1,v9)]) λv39 h=>wk (kSt h 37 v2 v39) λ_ h=>bP (na h [.cell v2 (some 37)]) h Q) (wk (ae h .eql v11 (I 3)) λv41 h=>wif v41 (ax cl (F 8) [v0,I 99] h λv44 h=>Yk cl v2 v9 v44 h Q) (wk (ae h .eql v11 (I 4)) λv48 h=>sg cl v0 v2 v9 v11 v48 h Q))))
theorem C9{cl}(hcl:bt prog cl){v0 h Q}(hg:g9 cl v0 h Q):aJ prog 9 [v0] h Q:=bI hcl [(24,.l [0,2,4,5] [2,4]),(35,.jn [0,2,6,100]),(36,.jn [0,2,6]),(39,.jn [2,6]),(43,.l [0,2,6,7] [2,6])] func9 (by kernel_rfl) (by kernel_rfl) hg
def sG(cl:CL)(v2 v3 v25 v32:AV)(h:AH)(k:NT):=wk (aG h v25 (.bool true) v32) λv33 h=>k [v2,v3,v33] h
def sE(cl:CL)(v2 v3 v18 v23:AV)(h:AH)(k:NT):=wk (aG h v18 (.bool true) v23) λv24 h=>wsp v24 λv25=>gB v25 (ah h 3 v2) h λv26 h=>gB v25 (eK h v26) h λv27 h=>gB v25 (bh h v27) h λv28 h=>gB v25 (ah h 3 v3) h λv29 h=>gB v25 (eK h v29) h λv30 h=>gB v25 (bh h v30) h λv31 h=>gB v25 (ae h .neq v28 v31) h λv32 h=>sG cl v2 v3 v25 v32 h k
def sH(cl:CL)(v2 v3 v11 v13 v14:AV)(h:AH)(k:NT):=gB v11 (eK h v14) h λv15 h=>gB v11 (ae h .neq v13 v15) h λv16 h=>wk (aG h v11 (.bool true) v16) λv17 h=>wsp v17 λv18=>gB v18 (ah h 2 v2) h λv19 h=>gB v18 (eK h v19) h λv20 h=>gB v18 (ah h 2 v3) h λv21 h=>gB v18 (eK h v21) h λv22 h=>gB v18 (ae h .neq v20 v22) h λv23 h=>sE cl v2 v3 v18 v23 h k
def sS(cl:CL)(v2 v3:AV)(h:AH)(k:NT):=wk (ah h 0 v2) λv6 h=>wk (eK h v6) λv7 h=>wk (ah h 0 v3) λv8 h=>wk (eK h v8) λv9 h=>wk (ae h .neq v7 v9) λv10 h=>wsp v10 λv11=>gB v11 (ah h 1 v2) h λv12 h=>gB v11 (eK h v12) h λv13 h=>gB v11 (ah h 1 v3) h λv14 h=>sH cl v2 v3 v11 v13 v14 h k
def Qa(cl:CL)(v2 v3 v5:AV)(h:AH)(k:KT):=k .ret [v2,v3,v5] [.bool false] h
def Rr(cl:CL)(v2 v3 v5:AV)(h:AH)(k:KT):=wk (ae h .add v5 (I 1)) λv40 h=>k .nrm [v2,v3,v40] [.undef] h
def Th(cl:CL)(v2 v3 v5 v44:AV)(h:AH)(k:KT):=wR h (bj h 4 v44) v44 λv45 c4 h=>wP h (ah h 3 v3) λv46 c5 h=>wR h (eK h v46) v46 λv47 c6 h=>wP h (aB h v5) λv48 c7 h=>wP h (aF h 4 v47 v48) λv49 c8 h=>wR h (bj h 4 v49) v49 λv50 c9 h=>wdc cl (F 77) [v45,v50] h λv51 c10 h=>wP h (kUn h .not v51) λv52 c11 h=>wif v52 (Qa cl v2 v3 v5 h k) (Rr cl v2 v3 v5 h k)
def IB(cl:CL)(v2 v3 v5:AV)(h:AH)(k:KT):=wk (ah h 3 v2) λv35 h=>wk (eK h v35) λv36 h=>wk (bh h v36) λv37 h=>wk (ae h .lss v5 v37) λv38 h=>wif v38 (wdr h 12 λr h=>wP h (ah h 3 v2) λv41 c0 h=>wR h (eK h v41) v41 λv42 c1 h=>wP h (aB h v5) λv43 c2 h=>wP h (aF h 4 v42 v43) λv44 c3 h=>Th cl v2 v3 v5 v44 h k) (k (.exit 0) [v2,v3,v5] [.undef] h)
def G4(cl:CL)(h:AH)(Q:QT):=Q ((.bool true)) h
def FC(cl:CL)(x:AX)(v4:AV)(h:AH)(Q:QT):=xs x (G4 cl h Q) (λj=>cond (Nat.beq j 0) (G4 cl h Q) (False)) (Q v4 h)
def HK(cl:CL)(v2 v3 v33:AV)(h:AH)(Q:QT):=wif v33 (Q ((.bool false)) h) (b9 (λvs h k=>IB cl (ai vs 0) (ai vs 1) (ai vs 2) h k) [v2,v3,I 0] h λx vs h=>FC cl x (ai vs 0) h Q)
def g77(cl:CL)(v0 v1:AV)(h:AH)(Q:QT):=wk (fh h v0) λv2 h=>wk (fh h v1) λv3 h=>aI (sS cl v2 v3 h) λvs h=>HK cl (ai vs 0) (ai vs 1) (ai vs 2) h Q
theorem C77{cl}(hcl:bt prog cl){v0 v1 h Q}(hg:g77 cl v0 v1 h Q):aJ prog 77 [v0,v1] h Q:=bI hcl [(1,.jn [2,3,33]),(6,.l [2,3,5] [4])] func77 (by kernel_rfl) (by kernel_rfl) hg
def Pp(cl:CL)(v0 v1 v5 v20 v21 v22:AV)(h:AH)(k:KT):=wP h (aF h 4 v21 v22) λv23 c6 h=>wR h (bj h 4 v23) v23 λv24 c7 h=>wdc cl (F 77) [v20,v24] h λv25 c8 h=>wP h (kUn h .not v25) λv26 c9 h=>wif v26 (k .ret [v0,v1,v5] [.bool false] h) (wk (ae h .add v5 (I 1)) λv16 h=>k .nrm [v0,v1,v16] [.undef] h)
def GD(cl:CL)(v0 v1 v5:AV)(h:AH)(k:KT):=wk (bh h v0) λv13 h=>wk (ae h .lss v5 v13) λv14 h=>wif v14 (wdr h 10 λr h=>wP h (aB h v0) λv17 c0 h=>wP h (aB h v5) λv18 c1 h=>wP h (aF h 4 v17 v18) λv19 c2 h=>wR h (bj h 4 v19) v19 λv20 c3 h=>wP h (aB h v1) λv21 c4 h=>wP h (aB h v5) λv22 c5 h=>Pp cl v0 v1 v5 v20 v21 v22 h k) (k (.exit 0) [v0,v1,v5] [.undef] h)
def Fv(cl:CL)(h:AH)(Q:QT):=Q ((.bool true)) h
def Fb(cl:CL)(x:AX)(v4:AV)(h:AH)(Q:QT):=xs x (Fv cl h Q) (λj=>cond (Nat.beq j 0) (Fv cl h Q) (False)) (Q v4 h)
def g33(cl:CL)(v0 v1:AV)(h:AH)(Q:QT):=wk (bh h v0) λv7 h=>wk (bh h v1) λv9 h=>wk (ae h .neq v7 v9) λv10 h=>wif v10 (Q ((.bool false)) h) (b9 (λvs h k=>GD cl (ai vs 0) (ai vs 1) (ai vs 2) h k) [v0,v1,I 0] h λx vs h=>Fb cl x (ai vs 0) h Q)
theorem C33{cl}(hcl:bt prog cl){v0 v1 h Q}(hg:g33 cl v0 v1 h Q):aJ prog 33 [v0,v1] h Q:=bI hcl [(6,.l [0,1,5] [4])] func33 (by kernel_rfl) (by kernel_rfl) hg
def E4(cl:CL)(v0 v1 v5 v20 v21 v22:AV)(h:AH)(k:KT):=wP h (aF h 1 v21 v22) λv23 c6 h=>wR h (eK h v23) v23 λv24 c7 h=>wP h (ae h .neq v20 v24) λv25 c8 h=>wif v25 (k .ret [v0,v1,v5] [.bool false] h) (wk (ae h .add v5 (I 1)) λv16 h=>k .nrm [v0,v1,v16] [.undef] h)
def Cc(cl:CL)(v0 v1 v5:AV)(h:AH)(k:KT):=wk (bh h v0) λv13 h=>wk (ae h .lss v5 v13) λv14 h=>wif v14 (wdr h 9 λr h=>wP h (aB h v0) λv17 c0 h=>wP h (aB h v5) λv18 c1 h=>wP h (aF h 1 v17 v18) λv19 c2 h=>wR h (eK h v19) v19 λv20 c3 h=>wP h (aB h v1) λv21 c4 h=>wP h (aB h v5) λv22 c5 h=>E4 cl v0 v1 v5 v20 v21 v22 h k) (k (.exit 0) [v0,v1,v5] [.undef] h)
def Ib(cl:CL)(h:AH)(Q:QT):=Q ((.bool true)) h
def Gd(cl:CL)(x:AX)(v4:AV)(h:AH)(Q:QT):=xs x (Ib cl h Q) (λj=>cond (Nat.beq j 0) (Ib cl h Q) (False)) (Q v4 h)
def g78(cl:CL)(v0 v1:AV)(h:AH)(Q:QT):=wk (bh h v0) λv7 h=>wk (bh h v1) λv9 h=>wk (ae h .neq v7 v9) λv10 h=>wif v10 (Q ((.bool false)) h) (b9 (λvs h k=>Cc cl (ai vs 0) (ai vs 1) (ai vs 2) h k) [v0,v1,I 0] h λx vs h=>Gd cl x (ai vs 0) h Q)
theorem C78{cl}(hcl:bt prog cl){v0 v1 h Q}(hg:g78 cl v0 v1 h Q):aJ prog 78 [v0,v1] h Q:=bI hcl [(6,.l [0,1,5] [4])] func78 (by kernel_rfl) (by kernel_rfl) hg
def Ci(cl:CL)(v2 v3 v12 v19:AV)(h:AH)(k:NT):=wk (aG h v12 (.bool true) v19) λv20 h=>k [v2,v3,v20] h
def zV(cl:CL)(v2 v3 v10:AV)(h:AH)(k:NT):=wk (kUn h .not v10) λv11 h=>wsp v11 λv12=>gB v12 (ah h 1 v2) h λv13 h=>gB v12 (eK h v13) h λv14 h=>gB v12 (bh h v14) h λv15 h=>gB v12 (ah h 1 v3) h λv16 h=>gB v12 (eK h v16) h λv17 h=>gB v12 (bh h v17) h λv18 h=>gB v12 (ae h .neq v15 v18) h λv19 h=>Ci cl v2 v3 v12 v19 h k
def Tz(cl:CL)(v2 v3:AV)(h:AH)(k:NT):=wk (ah h 0 v2) λv6 h=>wk (eK h v6) λv7 h=>wk (ah h 0 v3) λv8 h=>wk (eK h v8) λv9 h=>ax cl (F 78) [v7,v9] h λv10 h=>zV cl v2 v3 v10 h k
def Si(cl:CL)(v2 v3 v27:AV)(h:AH)(k:KT):=k .nrm [v2,v3,v27] [.undef] h
def Gq(cl:CL)(v2 v3 v5 v31:AV)(h:AH)(k:KT):=wR h (bj h 2 v31) v31 λv32 c4 h=>wP h (ah h 1 v3) λv33 c5 h=>wR h (eK h v33) v33 λv34 c6 h=>wP h (aB h v5) λv35 c7 h=>wP h (aF h 2 v34 v35) λv36 c8 h=>wR h (bj h 2 v36) v36 λv37 c9 h=>wP h (pb h true [.int .i64,.int .i64] v32 v37) λv38 c10 h=>wif v38 (k .ret [v2,v3,v5] [.bool false] h) (wk (ae h .add v5 (I 1)) λv27 h=>Si cl v2 v3 v27 h k)
def Gh(cl:CL)(v2 v3 v5:AV)(h:AH)(k:KT):=wk (ah h 1 v2) λv22 h=>wk (eK h v22) λv23 h=>wk (bh h v23) λv24 h=>wk (ae h .lss v5 v24) λv25 h=>wif v25 (wdr h 11 λr h=>wP h (ah h 1 v2) λv28 c0 h=>wR h (eK h v28) v28 λv29 c1 h=>wP h (aB h v5) λv30 c2 h=>wP h (aF h 2 v29 v30) λv31 c3 h=>Gq cl v2 v3 v5 v31 h k) (k (.exit 0) [v2,v3,v5] [.undef] h)
def IQ(cl:CL)(h:AH)(Q:QT):=Q ((.bool true)) h
def IT(cl:CL)(x:AX)(v4:AV)(h:AH)(Q:QT):=xs x (IQ cl h Q) (λj=>cond (Nat.beq j 0) (IQ cl h Q) (False)) (Q v4 h)
def BJ(cl:CL)(v2 v3 v20:AV)(h:AH)(Q:QT):=wif v20 (Q ((.bool false)) h) (b9 (λvs h k=>Gh cl (ai vs 0) (ai vs 1) (ai vs 2) h k) [v2,v3,I 0] h λx vs h=>IT cl x (ai vs 0) h Q)
def g79(cl:CL)(v0 v1:AV)(h:AH)(Q:QT):=wk (fh h v0) λv2 h=>wk (fh h v1) λv3 h=>aI (Tz cl v2 v3 h) λvs h=>BJ cl (ai vs 0) (ai vs 1) (ai vs 2) h Q
theorem C79{cl}(hcl:bt prog cl){v0 v1 h Q}(hg:g79 cl v0 v1 h Q):aJ prog 79 [v0,v1] h Q:=bI hcl [(1,.jn [2,3,20]),(6,.l [2,3,5] [4])] func79 (by kernel_rfl) (by kernel_rfl) hg
def Av(cl:CL)(v2 v3 v21 v23:AV)(h:AH)(k:NT):=gB v21 (ah h 2 v3) h λv24 h=>gB v21 (bj h 2 v24) h λv25 h=>wg (gdv false v21) (λk=>ax cl (F 79) [v23,v25] h k) h λv26 h=>gB v21 (kUn h .not v26) h λv27 h=>wk (aG h v21 (.bool true) v27) λv28 h=>k [v2,v3,v28] h
def Fa(cl:CL)(v2 v3 v13 v14:AV)(h:AH)(k:NT):=gB v13 (eK h v14) h λv15 h=>gB v13 (ah h 1 v3) h λv16 h=>gB v13 (eK h v16) h λv17 h=>wg (gdv false v13) (λk=>ax cl (F 78) [v15,v17] h k) h λv18 h=>gB v13 (kUn h .not v18) h λv19 h=>wk (aG h v13 (.bool true) v19) λv20 h=>wsp v20 λv21=>gB v21 (ah h 2 v2) h λv22 h=>gB v21 (bj h 2 v22) h λv23 h=>Av cl v2 v3 v21 v23 h k
def H5(cl:CL)(v2 v3:AV)(h:AH)(k:NT):=wk (ah h 13 v2) λv6 h=>wk (eK h v6) λv7 h=>wk (bh h v7) λv8 h=>wk (ah h 13 v3) λv9 h=>wk (eK h v9) λv10 h=>wk (bh h v10) λv11 h=>wk (ae h .neq v8 v11) λv12 h=>wsp v12 λv13=>gB v13 (ah h 1 v2) h λv14 h=>Fa cl v2 v3 v13 v14 h k
def TK(cl:CL)(v2 v3 v35:AV)(h:AH)(k:KT):=k .nrm [v2,v3,v35] [v2,v3,.undef] h
def IP(cl:CL)(v2 v3 v5 v39:AV)(h:AH)(k:KT):=wR h (bj h 2 v39) v39 λv40 c4 h=>wP h (ah h 13 v3) λv41 c5 h=>wR h (eK h v41) v41 λv42 c6 h=>wP h (aB h v5) λv43 c7 h=>wP h (aF h 2 v42 v43) λv44 c8 h=>wR h (bj h 2 v44) v44 λv45 c9 h=>wP h (pb h true [.int .i64,.bool] v40 v45) λv46 c10 h=>wif v46 (k .ret [v2,v3,v5] [v2,v3,.bool false] h) (wk (ae h .add v5 (I 1)) λv35 h=>TK cl v2 v3 v35 h k)
def Ip(cl:CL)(v2 v3 v5:AV)(h:AH)(k:KT):=wk (ah h 13 v2) λv30 h=>wk (eK h v30) λv31 h=>wk (bh h v31) λv32 h=>wk (ae h .lss v5 v32) λv33 h=>wif v33 (wdr h 11 λr h=>wP h (ah h 13 v2) λv36 c0 h=>wR h (eK h v36) v36 λv37 c1 h=>wP h (aB h v5) λv38 c2 h=>wP h (aF h 2 v37 v38) λv39 c3 h=>IP cl v2 v3 v5 v39 h k) (k (.exit 0) [v2,v3,v5] [v2,v3,.undef] h)
def ky(cl:CL)(iL kq gp:AV)(h:AH)(Q:QT):=gA iL (eK h gp) h λjD h=>gA iL (ae h .eql kq jD) h λlx h=>wk (aG h iL lx (.bool false)) λiV h=>Q iV h
def kz(cl:CL)(v2 v3 lu iW:AV)(h:AH)(Q:QT):=gA lu (eK h iW) h λmO h=>gA lu (ah h 12 v3) h λpV h=>gA lu (eK h pV) h λv105 h=>gA lu (ae h .eql mO v105) h λmg h=>wk (aG h lu mg (.bool false)) λv107 h=>wsp v107 λiL=>gA iL (ah h 14 v2) h λv109 h=>gA iL (eK h v109) h λkq h=>gA iL (ah h 14 v3) h λgp h=>ky cl iL kq gp h Q
def kE(cl:CL)(v2 v3 v87 v92:AV)(h:AH)(Q:QT):=wk (aG h v87 v92 (.bool false)) λv93 h=>wsp v93 λv94=>gA v94 (ah h 10 v2) h λv95 h=>gA v94 (bj h 2 v95) h λv96 h=>gA v94 (ah h 10 v3) h λv97 h=>gA v94 (bj h 2 v97) h λv98 h=>gA v94 (pb h false [.int .i64,.int .i64] v96 v98) h λv99 h=>wk (aG h v94 v99 (.bool false)) λgF h=>wsp gF λlu=>gA lu (ah h 12 v2) h λiW h=>kz cl v2 v3 lu iW h Q
def kD(cl:CL)(v2 v3 v80 v82 v83:AV)(h:AH)(Q:QT):=gA v80 (eK h v83) h λv84 h=>gA v80 (ae h .eql v82 v84) h λv85 h=>wk (aG h v80 v85 (.bool false)) λv86 h=>wsp v86 λv87=>gA v87 (ah h 9 v2) h λv88 h=>gA v87 (eK h v88) h λv89 h=>gA v87 (ah h 9 v3) h λv90 h=>gA v87 (eK h v90) h λv91 h=>gA v87 (ae h .eql v89 v91) h λv92 h=>kE cl v2 v3 v87 v92 h Q
def ku(cl:CL)(v2 v3 v73 v74:AV)(h:AH)(Q:QT):=gA v73 (eK h v74) h λv75 h=>gA v73 (ah h 7 v3) h λv76 h=>gA v73 (eK h v76) h λv77 h=>gA v73 (ae h .eql v75 v77) h λv78 h=>wk (aG h v73 v78 (.bool false)) λv79 h=>wsp v79 λv80=>gA v80 (ah h 8 v2) h λv81 h=>gA v80 (eK h v81) h λv82 h=>gA v80 (ah h 8 v3) h λv83 h=>kD cl v2 v3 v80 v82 v83 h Q
def iD(cl:CL)(v2 v3 v59 v64:AV)(h:AH)(Q:QT):=wk (aG h v59 v64 (.bool false)) λv65 h=>wsp v65 λv66=>gA v66 (ah h 6 v2) h λv67 h=>gA v66 (eK h v67) h λv68 h=>gA v66 (ah h 6 v3) h λv69 h=>gA v66 (eK h v69) h λv70 h=>gA v66 (arJ h false v68 v70) h λv71 h=>wk (aG h v66 v71 (.bool false)) λv72 h=>wsp v72 λv73=>gA v73 (ah h 7 v2) h λv74 h=>ku cl v2 v3 v73 v74 h Q
def iE(cl:CL)(v2 v3 v52 v54 v55:AV)(h:AH)(Q:QT):=gA v52 (eK h v55) h λv56 h=>gA v52 (ae h .eql v54 v56) h λv57 h=>wk (aG h v52 v57 (.bool false)) λv58 h=>wsp v58 λv59=>gA v59 (ah h 5 v2) h λv60 h=>gA v59 (eK h v60) h λv61 h=>gA v59 (ah h 5 v3) h λv62 h=>gA v59 (eK h v62) h λv63 h=>gA v59 (ae h .eql v61 v63) h λv64 h=>iD cl v2 v3 v59 v64 h Q
def jo(cl:CL)(v2 v3:AV)(h:AH)(Q:QT):=wk (ah h 0 v2) λv47 h=>wk (eK h v47) λv48 h=>wk (ah h 0 v3) λv49 h=>wk (eK h v49) λv50 h=>wk (ae h .eql v48 v50) λv51 h=>wsp v51 λv52=>gA v52 (ah h 4 v2) h λv53 h=>gA v52 (eK h v53) h λv54 h=>gA v52 (ah h 4 v3) h λv55 h=>iE cl v2 v3 v52 v54 v55 h Q
def atA(cl:CL)(x:AX)(v2 v3 v4:AV)(h:AH)(Q:QT):=xs x (jo cl v2 v3 h Q) (λj=>cond (Nat.beq j 0) (jo cl v2 v3 h Q) (False)) (Q v4 h)
def GU(cl:CL)(v2 v3 v28:AV)(h:AH)(Q:QT):=wif v28 (Q ((.bool false)) h) (b9 (λvs h k=>Ip cl (ai vs 0) (ai vs 1) (ai vs 2) h k) [v2,v3,I 0] h λx vs h=>atA cl x (ai vs 0) (ai vs 1) (ai vs 2) h Q)
def g34(cl:CL)(v0 v1:AV)(h:AH)(Q:QT):=wk (fh h v0) λv2 h=>wk (fh h v1) λv3 h=>aI (H5 cl v2 v3 h) λvs h=>GU cl (ai vs 0) (ai vs 1) (ai vs 2) h Q
theorem C34{cl}(hcl:bt prog cl){v0 v1 h Q}(hg:g34 cl v0 v1 h Q):aJ prog 34 [v0,v1] h Q:=bI hcl [(1,.jn [2,3,28]),(6,.l [2,3,5] [2,3,4])] func34 (by kernel_rfl) (by kernel_rfl) hg
def mK(cl:CL)(v2 v3 v52 v57:AV)(h:AH)(Q:QT):=wk (aG h v52 v57 (.bool false)) λv58 h=>wsp v58 λv59=>gA v59 (ah h 22 v2) h λv60 h=>gA v59 (bj h 15 v60) h λv61 h=>gA v59 (ah h 22 v3) h λv62 h=>gA v59 (bj h 15 v62) h λv63 h=>wg (gdv true v59) (λk=>ax cl (F 34) [v61,v63] h k) h λv64 h=>wk (aG h v59 v64 (.bool false)) λv65 h=>Q v65 h
def apS(cl:CL)(v2 v3 v45 v47 v48:AV)(h:AH)(Q:QT):=gA v45 (eK h v48) h λv49 h=>wg (gdv true v45) (λk=>ax cl (F 33) [v47,v49] h k) h λv50 h=>wk (aG h v45 v50 (.bool false)) λv51 h=>wsp v51 λv52=>gA v52 (ah h 16 v2) h λv53 h=>gA v52 (bj h 6 v53) h λv54 h=>gA v52 (ah h 16 v3) h λv55 h=>gA v52 (bj h 6 v55) h λv56 h=>gA v52 (pb h false [.int .i64,.int .i64,.int .i64,.int .i64,.int .i64,.str] v54 v56) h λv57 h=>mK cl v2 v3 v52 v57 h Q
def oL(cl:CL)(v2 v3 v38 v39:AV)(h:AH)(Q:QT):=gA v38 (bj h 3 v39) h λv40 h=>gA v38 (ah h 12 v3) h λv41 h=>gA v38 (bj h 3 v41) h λv42 h=>gA v38 (pb h false [.bool,.bool,.int .i64] v40 v42) h λv43 h=>wk (aG h v38 v43 (.bool false)) λv44 h=>wsp v44 λv45=>gA v45 (ah h 15 v2) h λv46 h=>gA v45 (eK h v46) h λv47 h=>gA v45 (ah h 15 v3) h λv48 h=>apS cl v2 v3 v45 v47 v48 h Q
def o9(cl:CL)(v2 v3 v24 v29:AV)(h:AH)(Q:QT):=wk (aG h v24 v29 (.bool false)) λv30 h=>wsp v30 λv31=>gA v31 (ah h 10 v2) h λv32 h=>gA v31 (bj h 2 v32) h λv33 h=>gA v31 (ah h 10 v3) h λv34 h=>gA v31 (bj h 2 v34) h λv35 h=>gA v31 (pb h false [.int .i64,.int .i64] v33 v35) h λv36 h=>wk (aG h v31 v36 (.bool false)) λv37 h=>wsp v37 λv38=>gA v38 (ah h 12 v2) h λv39 h=>oL cl v2 v3 v38 v39 h Q
def oN(cl:CL)(v2 v3 v17 v19 v20:AV)(h:AH)(Q:QT):=gA v17 (bj h 2 v20) h λv21 h=>gA v17 (pb h false [.int .i64,.int .i64] v19 v21) h λv22 h=>wk (aG h v17 v22 (.bool false)) λv23 h=>wsp v23 λv24=>gA v24 (ah h 9 v2) h λv25 h=>gA v24 (eK h v25) h λv26 h=>gA v24 (ah h 9 v3) h λv27 h=>gA v24 (eK h v27) h λv28 h=>gA v24 (ae h .eql v26 v28) h λv29 h=>o9 cl v2 v3 v24 v29 h Q
def oP(cl:CL)(v2 v3 v10 v11:AV)(h:AH)(Q:QT):=gA v10 (bj h 6 v11) h λv12 h=>gA v10 (ah h 1 v3) h λv13 h=>gA v10 (bj h 6 v13) h λv14 h=>gA v10 (pb h false [.int .i64,.int .i64,.int .i64,.int .i64,.int .i64,.int .i64] v12 v14) h λv15 h=>wk (aG h v10 v15 (.bool false)) λv16 h=>wsp v16 λv17=>gA v17 (ah h 7 v2) h λv18 h=>gA v17 (bj h 2 v18) h λv19 h=>gA v17 (ah h 7 v3) h λv20 h=>oN cl v2 v3 v17 v19 v20 h Q
def g18(cl:CL)(v0 v1:AV)(h:AH)(Q:QT):=wk (fh h v0) λv2 h=>wk (fh h v1) λv3 h=>wk (ah h 0 v2) λv5 h=>wk (eK h v5) λv6 h=>wk (ah h 0 v3) λv7 h=>wk (eK h v7) λv8 h=>wk (ae h .eql v6 v8) λv9 h=>wsp v9 λv10=>gA v10 (ah h 1 v2) h λv11 h=>oP cl v2 v3 v10 v11 h Q
theorem C18{cl}(hcl:bt prog cl){v0 v1 h Q}(hg:g18 cl v0 v1 h Q):aJ prog 18 [v0,v1] h Q:=bI hcl [] func18 (by kernel_rfl) (by kernel_rfl) hg
def S7(cl:CL)(v0 v1 v5 v20 v21 v22:AV)(h:AH)(k:KT):=wP h (aF h 37 v21 v22) λv23 c6 h=>wR h (bj h 37 v23) v23 λv24 c7 h=>wdc cl (F 18) [v20,v24] h λv25 c8 h=>wP h (kUn h .not v25) λv26 c9 h=>wif v26 (k .ret [v0,v1,v5] [.bool false] h) (wk (ae h .add v5 (I 1)) λv16 h=>k .nrm [v0,v1,v16] [.undef] h)
def Ij(cl:CL)(v0 v1 v5:AV)(h:AH)(k:KT):=wk (bh h v0) λv13 h=>wk (ae h .lss v5 v13) λv14 h=>wif v14 (wdr h 10 λr h=>wP h (aB h v0) λv17 c0 h=>wP h (aB h v5) λv18 c1 h=>wP h (aF h 37 v17 v18) λv19 c2 h=>wR h (bj h 37 v19) v19 λv20 c3 h=>wP h (aB h v1) λv21 c4 h=>wP h (aB h v5) λv22 c5 h=>S7 cl v0 v1 v5 v20 v21 v22 h k) (k (.exit 0) [v0,v1,v5] [.undef] h)
def HR(cl:CL)(h:AH)(Q:QT):=Q ((.bool true)) h
def Iy(cl:CL)(x:AX)(v4:AV)(h:AH)(Q:QT):=xs x (HR cl h Q) (λj=>cond (Nat.beq j 0) (HR cl h Q) (False)) (Q v4 h)
def g14(cl:CL)(v0 v1:AV)(h:AH)(Q:QT):=wk (bh h v0) λv7 h=>wk (bh h v1) λv9 h=>wk (ae h .neq v7 v9) λv10 h=>wif v10 (Q ((.bool false)) h) (b9 (λvs h k=>Ij cl (ai vs 0) (ai vs 1) (ai vs 2) h k) [v0,v1,I 0] h λx vs h=>Iy cl x (ai vs 0) h Q)
theorem C14{cl}(hcl:bt prog cl){v0 v1 h Q}(hg:g14 cl v0 v1 h Q):aJ prog 14 [v0,v1] h Q:=bI hcl [(6,.l [0,1,5] [4])] func14 (by kernel_rfl) (by kernel_rfl) hg
def Oq(cl:CL)(v1 v4 v5 v24:AV)(h:AH)(Q:QT):=wP h (aB h v1) λv25 c3 h=>wP h (aB h v5) λv26 c4 h=>wP h (ae h .add v26 (I 1)) λv27 c5 h=>wP h (gI h v25 (some v27) none) λv28 c6 h=>wP h (ae h .add v24 v28) λv29 c7 h=>wP h (aB h v29) λv4 c8 h=>Q v4 h
def OG(cl:CL)(v1 v4 v5 v6 v32 v33:AV)(h:AH)(Q:QT):=wP h (gI h v32 none (some v33)) λv34 c2 h=>wP h (aB h v6) λv35 c3 h=>wP h (ae h .add v34 v35) λv36 c4 h=>wP h (aB h v1) λv37 c5 h=>wP h (aB h v5) λv38 c6 h=>wP h (gI h v37 (some v38) none) λv39 c7 h=>wP h (ae h .add v36 v39) λv40 c8 h=>wP h (aB h v40) λv4 c9 h=>Q v4 h
def Qh(cl:CL)(v4 v50:AV)(h:AH)(Q:QT):=wP h (aB h v50) λv4 c10 h=>Q v4 h
def R0(cl:CL)(v1 v4 v5 v6 v41 v42:AV)(h:AH)(Q:QT):=wP h (gI h v41 none (some v42)) λv43 c2 h=>wP h (aB h v6) λv44 c3 h=>wP h (ae h .add v43 v44) λv45 c4 h=>wP h (aB h v1) λv46 c5 h=>wP h (aB h v5) λv47 c6 h=>wP h (ae h .add v47 (I 1)) λv48 c7 h=>wP h (gI h v46 (some v48) none) λv49 c8 h=>wP h (ae h .add v45 v49) λv50 c9 h=>Qh cl v4 v50 h Q
def Pd(cl:CL)(v0 v1 v4 v5 v14:AV)(h:AH)(Q:QT):=wk (dH h (.str [32,48,45,34,92,91,93,97,110,116,120,10,255]) v14) λv15 h=>wk (aQ h 1 1 [.int .u8 0] [(0,1,v15)]) λv16 h=>wk (kX h .b2s [v16]) λv17 h=>ax cl (F 8) [v0,I 3] h λv19 h=>wk (ae h .eql v19 (I 0)) λv21 h=>wif v21 (wdr h 9 λr h=>wP h (aB h v1) λv22 c0 h=>wP h (aB h v5) λv23 c1 h=>wP h (gI h v22 none (some v23)) λv24 c2 h=>Oq cl v1 v4 v5 v24 h Q) (wk (ae h .eql v19 (I 1)) λv31 h=>wif v31 (wdr h 10 λr h=>wP h (aB h v1) λv32 c0 h=>wP h (aB h v5) λv33 c1 h=>OG cl v1 v4 v5 v17 v32 v33 h Q) (wdr h 11 λr h=>wP h (aB h v1) λv41 c0 h=>wP h (aB h v5) λv42 c1 h=>R0 cl v1 v4 v5 v17 v41 v42 h Q))
def g11(cl:CL)(v0 v1:AV)(h:AH)(Q:QT):=wk (ae h .eql v1 (.str [])) λv8 h=>wif v8 (Q ((.str [120])) h) (wk (cL h v1) λv11 h=>ax cl (F 8) [v0,v11] h λv12 h=>ax cl (F 8) [v0,I 13] h λv14 h=>Pd cl v0 v1 ((.str [])) v12 v14 h Q)
theorem C11{cl}(hcl:bt prog cl){v0 v1 h Q}(hg:g11 cl v0 v1 h Q):aJ prog 11 [v0,v1] h Q:=bI hcl [] func11 (by kernel_rfl) (by kernel_rfl) hg
open Go.St
def jO(L:List Int):AV:=.psl (L.map λx=>[I x])
structure Sr where
 L:List Int
 a:Nat
def srC(x:Sr):LA:=[jO x.L,I x.a]
def Sr.Ok(x:Sr):Prop:=x.a<=x.L.length/\x.L.length<=4000
theorem NL(L:List Int)(H:AH):Frz H false (jO L) (jO L):=
 .psl rfl _ _ rfl (λi x y hx hy=>by rw[hx]at hy;cases hy;rfl) λi x y j c d hx hy hc hd=>by
  rw[hx]at hy;cases hy;rw[hc]at hd;cases hd;obtain⟨n,_,rfl⟩:=an0.1 (am9 hx);match j with
  |0=>simp at hc;subst hc;exact .int _ _
  |j+1=>simp at hc
theorem dR(x:Sr):vt (srC x):=λH=>⟨NL _ H,.int _ _,trivial⟩
def nV(x:Sr)(n:Int):Int:=if x.a<x.L.length/\1<=n then(if 0<=(x.L.getD x.a 0).tmod n then(x.L.getD x.a 0).tmod n else(x.L.getD x.a 0).tmod n+n)else 0
def nS(x:Sr)(n:Int):Sr:=if x.a<x.L.length/\1<=n then⟨x.L,x.a+1⟩else x
theorem Kr{x n:Int}(hn:1<=n):x.tmod n<n:=Int.tmod_lt_of_pos x (by omega)
theorem Lr{x n:Int}(hn:1<=n):-n<x.tmod n:=by
 have h1:=Int.tmod_lt_of_pos (-x) (show 0<n by omega);have h2:(-x).tmod n = -(x.tmod n):=Int.neg_tmod x n;omega
theorem eG(x:Sr)(n:Int):0<=nV x n:=by
 unfold nV;split
 ·rename_i h;have:=Lr (x:=x.L.getD x.a 0) h.2;split<;>omega
 ·omega
theorem eu(x:Sr){n:Int}(hn:1<=n):nV x n<n:=by
 unfold nV;split
 ·have:=Kr (x:=x.L.getD x.a 0) hn;split<;>omega
 ·omega
theorem bn{x:Sr}(hx:x.Ok)(n:Int):(nS x n).Ok:=by
 unfold nS;split
 ·rename_i h;exact⟨h.1,hx.2⟩
 ·exact hx
theorem hD(h:AH)(L:List Int):bh h (jO L)=some (I L.length,h):=by simp[jO]
theorem yV(h:AH)(L:List Int)(a:Nat)(ha:a<L.length):aF h 1 (jO L) (I a)=some (.lz [I (L.getD a 0)],h):=da (by simp[ha]) rfl
theorem n_d(h:AH)(id:Nat)(x:Sr)(n:Int)(hc:h.ab id=some (srC x))(hid:id<h.nx)(hx:x.Ok/\n<=1000000):aK prog 8 [.ptr id 0,I n] h (I (nV x n)) (h.set id (.cells (srC (nS x n)))):=by
 obtain⟨L,a⟩:=x;obtain⟨⟨ha,hL⟩,hn⟩:=hx;simp only at ha hL;refine bm (R:=λv h'=>v=I (nV ⟨L,a⟩ n)/\Ob h h' id (srC (nS ⟨L,a⟩ n))) hid (dR _) (C8 (aW []) ?_) λv' h' ⟨h1,h2⟩=>⟨by rw[h1];exact .int _ _,h2⟩
 have hc':h.ab id=some [jO L,I a]:=hc;simp[g8];refine⟨λvs h'=>vs=[.ptr id 0,I n,.bool (!(decide (a<L.length/\1<=n)))]/\Ob h h' id (srC ⟨L,a⟩),?_,?_⟩
 ·by_cases h1:a<L.length
  ·have h1':¬(L.length:Int)<=a:=by omega
   by_cases h2:1<=n
   ·have h2':¬n<1:=by omega
    simp[Jo,hc',hD,h1,h2];simp[Kb,hD,h1',h2'];exact(Ob.start hc).bump _ (by simp)
   ·have h2':n<1:=by omega
    simp[Jo,hc',hD,h1,h2];simp[Kb,hD,h1',h2'];exact(Ob.start hc).bump _ (by simp)
  ·have h1':(L.length:Int)<=a:=by omega
   simp[Jo,hc',hD,h1];simp[Kb,hD,h1'];exact(Ob.start hc).bump _ (by simp)
 ·rintro vs h' ⟨rfl,ho⟩;have hc2:h'.ab id=some [jO L,I a]:=ho.c;by_cases hgo:a<L.length/\1<=n
  ·have eV:nV ⟨L,a⟩ n=if 0<=(L.getD a 0).tmod n then(L.getD a 0).tmod n else(L.getD a 0).tmod n+n:=by unfold nV;rw[am1 hgo]
   have eS:nS ⟨L,a⟩ n=⟨L,a+1⟩:=by unfold nS;rw[am1 hgo]
   have hge:=eG ⟨L,a⟩ n;have hlt:=eu ⟨L,a⟩ hgo.2;have t1:=Lr (x:=L.getD a 0) hgo.2;have t2:=Kr (x:=L.getD a 0) hgo.2;have hxe:L[a]'hgo.1=L.getD a 0:=by simp[List.getD,hgo.1]
   have hix:=λh=>yV h L a hgo.1
   rw[eV]at hge hlt ⊢;rw[eS];rw[anA hgo];have hn0:n≠0:=by omega
   generalize L.getD a 0=x at*;simp[Oc,hc2];simp[Yu];rw[hix];simp(disch:=first|go_size|fail)[vX,hn0,hc2];simp(disch:=first|go_size|fail)[X8,hc2];refine⟨λvs h3=>vs=[I (if 0<=x.tmod n then x.tmod n else x.tmod n+n)]/\Ob h h3 id (srC ⟨L,a+1⟩),?_,?_⟩
   ·have ho2:=(ho.bump (h'.nx+13) (by omega)).set (srC ⟨L,a+1⟩);by_cases h0:0<=x.tmod n
    ·have h0':¬x.tmod n<0:=by omega
     simp(disch:=first|go_size|fail)[Pb,h0,h0'];exact ho2
    ·have h0':x.tmod n<0:=by omega
     simp(disch:=first|go_size|fail)[Pb,h0,h0'];exact ho2
   ·rintro vs h3 ⟨rfl,ho3⟩;simp(disch:=first|go_size|fail)[X6];exact ho3
  ·have eV:nV ⟨L,a⟩ n=0:=by unfold nV;rw[amU hgo]
   have eS:nS ⟨L,a⟩ n=⟨L,a⟩:=by unfold nS;rw[amU hgo]
   rw[eV,eS,anw hgo];simp(disch:=first|go_size|fail)[Oc];exact ho
def e8:QE prog:=QE.obj 8 (λ_ _=>True) srC (fun(n:Int)=>[I n]) (fun(x:Sr)(y:Int)=>match y with|n=>x.Ok/\n<=1000000) (fun(x:Sr)(y:Int)=>match y with|n=>I (nV x n)) (fun(x:Sr)(y:Int)=>match y with|n=>nS x n) (λh id x y hj hc hid hx=>match y,hx with|n,hx=>n_d h id x n hc hid hx)
theorem gD{tl h}{id:Nat}{x:Sr}(n:Int){Q:QT}(hc:h.ab id=some (srC x))(hid:id<h.nx)(hx:x.Ok/\n<=1000000)(hq:Q (I (nV x n)) (h.set id (.cells (srC (nS x n))))):tb (e8::tl) 8 (.ptr id 0::[I n]) h Q:=bF n trivial hc hid hx hq
@[simp ↓] theorem alh:TbT e8 8:=aH e8
def rgV(x:Sr)(lo hi:Int):Int:=lo+nV x (hi-lo+1)
theorem V6(h:AH)(id:Nat)(x:Sr)(lo hi:Int)(hc:h.ab id=some (srC x))(hid:id<h.nx)(hx:x.Ok /\ -100000<=lo/\lo<=hi/\hi<=100000):aK prog 19 [.ptr id 0,I lo,I hi] h (I (rgV x lo hi)) (h.set id (.cells (srC (nS x (hi-lo+1))))):=by
 refine bm (R:=λv h'=>v=I (rgV x lo hi)/\Ob h h' id (srC (nS x (hi-lo+1)))) hid (dR _) (C19 (aW [e8]) ?_) λv' h' ⟨h1,h2⟩=>⟨by rw[h1];exact .int _ _,h2⟩
 have hb1:=eG x (hi-lo+1);have hb2:=eu x (show 1<=hi-lo+1 by omega);unfold rgV;simp(disch:=first|go_size|fail)[g19];refine gD (hi-lo+1) hc hid ⟨hx.1,by omega⟩ ?_;simp(disch:=first|go_size|fail)[];exact(Ob.start hc).set _
def e19:QE prog:=QE.obj 19 (λ_ _=>True) srC (fun(y:Int×Int)=>match y with|⟨lo,hi⟩=>[I lo,I hi]) (fun(x:Sr)(y:Int×Int)=>match y with|⟨lo,hi⟩=>x.Ok /\ -100000<=lo/\lo<=hi/\hi<=100000) (fun(x:Sr)(y:Int×Int)=>match y with|⟨lo,hi⟩=>I (rgV x lo hi)) (fun(x:Sr)(y:Int×Int)=>match y with|⟨lo,hi⟩=>nS x (hi-lo+1)) (λh id x y hj hc hid hx=>match y,hx with|⟨lo,hi⟩,hx=>V6 h id x lo hi hc hid hx)
theorem u4{tl h}{id:Nat}{x:Sr}(lo:Int)(hi:Int){Q:QT}(hc:h.ab id=some (srC x))(hid:id<h.nx)(hx:x.Ok /\ -100000<=lo/\lo<=hi/\hi<=100000)(hq:Q (I (rgV x lo hi)) (h.set id (.cells (srC (nS x (hi-lo+1)))))):tb (e19::tl) 19 (.ptr id 0::[I lo,I hi]) h Q:=bF (lo,hi) trivial hc hid hx hq
@[simp ↓] theorem akd:TbT e19 19:=aH e19
structure RS where
 pos:Nat
 bad:Bool
structure Rd where
 s:Str
 t:RS
def rdC(x:Rd):LA:=[.str x.s,I x.t.pos,.bool x.t.bad]
theorem bQ{h:AH}{a b:Str}(hl:a.length+b.length<=9223372036854775807):ae h .add (.str a) (.str b)=some (.str (a++b),h):=by
 simp[ae,dy,vn,hl]
theorem Co{h:AH}{k:Nat}{l:Str}(hc:h.ab k=some (aR l)):kX h .b2s [.rsl k 0 l.length 1]=some (.str l,h):=by
 have h1:cut (aR l) 0 l.length=some (aR l):=by
  have:=aM (α:=aR l) (b:=[]) (n:=l.length) (by simp[aR]);rwa [am5]at this
 have hb:=vV l;simp[kX,cj,fj,hc,h1,hb]
theorem jZ{h':AH}{n k:Nat}{l:List Str}(hc:h'.ab k=some (l.map .str))(hn:n<=k):Frz (fresh h' n) false (.rsl k 0 l.length 1) (bU l):=by
 have hf:(fresh h' n).ab k=some (l.map .str):=by rw[iA hn];exact hc
 have:=Frz.rsl (h:=fresh h' n) (n:=false) k 0 1 (l.map .str) (l.map λs=>[.str s]) hf (by simp) (λi y hy=>by
  rw[anb]at hy;cases hl:l[i]? with
  |none=>rw[hl]at hy;simp at hy
  |some s=>rw[hl]at hy;simp at hy;subst hy;rfl) (λi y j c d hy hd hc=>by
  rw[anb]at hy;cases hl:l[i]? with
  |none=>rw[hl]at hy;simp at hy
  |some s=>
   rw[hl]at hy;simp at hy;subst hy;match j with
   |0=>
    simp at hd;subst hd;rw[show 0+i*1+0=i by omega,anb,hl]at hc;simp at hc;subst hc;exact .str _
   |j+1=>simp at hd)
 rwa [aor]at this
def dI:List Str:=[Wp,VF,G5,Gw,NQ,Rv,IM,B3,ME]
structure RL(h hb h':AH)(id k5:Nat)(s:Str)(t:RS)(lv:AV)(acc:List Val):Prop where
 ob:Ob h h' id (rdC ⟨s,t⟩)
 r0:h'.ab h.nx=some z4
 r1:h'.ab k5=some [I 4,I 0,.str [],lv]
 nx:hb.nx<=h'.nx
 ol:OL 4 hb h' lv acc.length (cZ acc)
def iI:Str:=[115,112,97,99,101]
def dB:List Str:=[[99,116,114,108],[97,108,116],[115,104,105,102,116],[109,101,116,97]]
def ij:List Str:=[[],[116,97,98],[101,110,116,101,114],[101,115,99,97,112,101],[98,97,99,107,115,112,97,99,101],[100,101,108,101,116,101],[108,101,102,116],[114,105,103,104,116],[117,112],[100,111,119,110],[104,111,109,101],[101,110,100],[102,49],[102,50],[102,51],[102,52],[102,53],[102,54],[102,55],[102,56],[102,57],[102,49,48],[102,49,49],[102,49,50]]
def fa(k m:Int):Bool:=
 decide (0<=m)&&decide (m<=15)&&((decide (1<=k)&&decide (k<=23))||(decide (32<=k)&&decide (k<=1114111)&&(decide (k<55296)||decide (57343<k))&&(decide (k<65)||decide (90<k))))
theorem jJ(k m:Int):fa k m=decide (0<=m/\m<=15/\((1<=k/\k<=23)\/(32<=k/\k<=1114111/\(k<55296\/57343<k)/\(k<65\/90<k)))):=by
 simp[fa,Bool.decide_and,Bool.decide_or,Bool.and_assoc]
def gU(k:Int):Str:=if k<=23 then ij.getD k.toNat []else if k=32 then iI else oe k
theorem Cq{h:AH}{s:Str}{b:Nat}(h2:b<=s.length):gI h (.str s) none (some (I b))=some (.str (s.take b),h):=by
 have q2:(b:Int)<=s.length:=by omega
 simp[gI,mC,abd,oc,q2,cut]
theorem pL{h:AH}{s:Str}{a:Nat}(h1:a<=s.length):gI h (.str s) (some (I a)) none=some (.str (s.drop a),h):=by
 have q1:(a:Int)<=s.length:=by omega
 simp[gI,mC,abd,oc,q1,cut];rw[anc];rw[am3];omega
theorem gr{l:List Str}{i:Nat}(h:i<l.length):l[i]?=some (l.getD i []):=by
 rw[anh,am0 h];rfl
theorem rf(k:Int):(oe k).length<=4:=by
 rw[pQ];have:=Lib.encodeRuneZ_length k;unfold Lib.encodeRune;rw[aor];exact this.2
theorem Bi{h':AH}{n k z:Nat}{c:LA}(hz:c.length=z)(hc:h'.ab k=some c)(hn:n<=k)(hf:∀(H:AH) (j:Nat) (a:AV),c[j]?=some a->Frz H false a a):Frz (fresh h' n) false (.rsl k 0 1 z) (.psl [c]):=by
 have hfr:(fresh h' n).ab k=some c:=by rw[iA hn];exact hc
 refine Frz.rsl (h:=fresh h' n) (n:=false) k 0 z c [c] hfr (by simp;omega) (λi y hy=>?_) (λi y j a d hy hd ha=>?_)
 ·match i with
  |0=>simp at hy;subst hy;exact hz
  |i+1=>simp at hy
 ·match i with
  |0=>
   simp at hy;subst hy;rw[show 0+0*z+j=j by omega,hd]at ha;cases ha;exact hf _ _ _ hd
  |i+1=>simp at hy
def tC:Ty->List AV
 |.s k=>[I k,.psl []]
 |.l t=>[I 4,.psl [tC t]]
def tyK:Ty->Int
 |.s k=>k
 |.l _=>4
def tyO:Ty->List (LA)
 |.s _=>[]
 |.l t=>[tC t]
theorem cp(t:Ty):tC t=[I (tyK t),.psl (tyO t)]:=by cases t<;>simp[tC,tyK,tyO]
theorem qn(t:Ty):(tC t).length=2:=by rw[cp];rfl
theorem kC:∀(t:Ty) (H:AH),ea H false (tC t) (tC t)
 |.s k,H=>by
  rw[bK];refine⟨rfl,λi a b ha hb=>?_⟩;rw[ha]at hb;cases hb;match i with
  |0=>simp[tC]at ha;subst ha;exact .int _ _
  |1=>simp[tC]at ha;subst ha;exact .psl rfl _ _ rfl (λi x y hx _=>by simp at hx) λi x y j c d hx=>by simp at hx
  |i+2=>simp[tC]at ha
 |.l t,H=>by
  rw[bK];refine⟨rfl,λi a b ha hb=>?_⟩;rw[ha]at hb;cases hb;match i with
  |0=>simp[tC]at ha;subst ha;exact .int _ _
  |1=>
   simp[tC]at ha;subst ha;refine .psl rfl _ _ rfl (λi x y hx hy=>by rw[hx]at hy;cases hy;rfl) λi x y j c d hx hy hc hd=>?_
   match i with
   |0=>
    simp at hx hy;subst hx;subst hy;rw[hc]at hd;cases hd;exact((bK _ _ _ _).1 (kC t H)).2 j c c hc hc
   |i+1=>simp at hx
  |i+2=>simp[tC]at ha
theorem LH(t:Ty)(H:AH):Frz H false (.agg (tC t)) (.agg (tC t)):=.agg _ _ rfl ((bK _ _ _ _).1 (kC t H)).2
theorem lg(H:AH):Frz H false (.agg [I 0,.aa]) (.agg (tC (.s 0))):=by
 refine .agg _ _ rfl λi c d hc hd=>?_
 match i with
 |0=>simp[tC]at hc hd;subst hc;subst hd;exact .int _ _
 |1=>simp[tC]at hc hd;subst hc;subst hd;exact .aa
 |i+2=>simp at hc
theorem IH{h':AH}{n k:Nat}{t:Ty}{y:Int}(hy:y=4)(hc:h'.ab k=some (tC t))(hn:n<=k):Frz (fresh h' n) false (.agg [I y,.rsl k 0 1 2]) (.agg (tC (.l t))):=by
 subst hy;refine .agg _ _ rfl λi c d hc1 hd=>?_
 match i with
 |0=>simp[tC]at hc1 hd;subst hc1;subst hd;exact .int _ _
 |1=>
  simp[tC]at hc1 hd;subst hc1;subst hd;exact Bi (qn t) hc hn λH j a ha=>((bK _ _ _ _).1 (kC t H)).2 j a a ha ha
 |i+2=>simp at hc1
theorem agL{H:AH}{x y:LA}(h:Frz H false (.agg x) (.agg y)):ea H false x y:=by
 rw[bK];cases h with
 |agg _ _ hl hc=>exact⟨hl,hc⟩
theorem gP{H:AH}{x y a b:AV}(h1:Frz H false x a)(h2:Frz H false y b):Frz H false (.tup [x,y]) (.tup [a,b]):=by
 refine .tup _ _ rfl λi c d hc hd=>?_
 match i with
 |0=>simp at hc hd;subst hc;subst hd;exact h1
 |1=>simp at hc hd;subst hc;subst hd;exact h2
 |i+2=>simp at hc
def K1(a b:Ty):AV:=.tup [.agg (tC ((di a b).getD (.s 0))),.bool (di a b).isSome]
structure J3(h h':AH)(a b r:LA):Prop where
 a:h'.ab h.nx=some a
 b:h'.ab (h.nx+1)=some b
 r:h'.ab (h.nx+1+1)=some r
 nx:h.nx+3<=h'.nx
 get:∀i,i<h.nx->h'.H.get i=h.H.get i
theorem J3.start(h:AH)(a b r:LA):J3 h (((h.add (.cells a)).add (.cells b)).add (.cells r)) a b r:=by
 refine⟨?_,?_,?_,by simp,λi hi=>?_⟩
 ·rw[aC _ _ _ (by simp;omega),aC _ _ _ (by simp)];exact bd _ _ _ rfl
 ·rw[aC _ _ _ (by simp)];exact bd _ _ _ rfl
 ·exact bd _ _ _ rfl
 ·rw[az,amU (by simp;omega),az,amU (by simp;omega),az,amU (by omega)]
def jT(k n:Int)(s:Str)(l:List Val):Bool:=
 decide (k<1)||decide (4<k)||(decide (n≠0)&&decide (k≠1)&&decide (k≠2))||(decide (s≠[])&&decide (k≠3))||(decide (0<l.length)&&decide (k≠4))
def oY(k n:Int):Bool:=(decide (k=1)&&(decide (n < -1099511627776)||decide (1099511627776<n)))||(decide (k=2)&&decide (n≠0)&&decide (n≠1))
def u5(o:Option Ty)(t:Ty):Option Ty×Bool:=
 match o with
 |none=>(some t,true)
 |some u=>(some ((di u t).getD (.s 0)),(di u t).isSome)
def nY(k:Int)(R:Int×(Option Ty×Bool)×Int):Int×Ty×Int:=
 if R.1≠0 then(R.1,.s 0,R.2.2)else if R.2.1.2=false then(5,.s 0,R.2.2)else(0,(match R.2.1.1 with|none=>.s k|some t=>.l t),R.2.2)
mutual
def dw(d:Int):Val->Int->Int×Ty×Int
 |.mk k n s l,m=>
  if k=4/\16<d then(8,.s 0,m+1)
  else if jT k n s l=true then(9,.s 0,m+1)
  else if oY k n=true then(1,.s 0,m+1)
  else if 2000<s.length\/100<l.length\/1000<m+1 then(2,.s 0,m+1)
  else if Lib.validD s=false then(3,.s 0,m+1)
  else nY k (fe (d+1) l (m+1) (none,true))
def fe(d:Int):List Val->Int->Option Ty×Bool->Int×(Option Ty×Bool)×Int
 |[],m,o=>(0,o,m)
 |v::l,m,o=>
  if(dw d v m).1≠0 then((dw d v m).1,o,(dw d v m).2.2)
  else if o.2=false then fe d l (dw d v m).2.2 o
  else fe d l (dw d v m).2.2 (u5 o.1 (dw d v m).2.1)
end
open Go.Eng Go.St Tryz
theorem aqs{H:AH}{x y z a b c:AV}(h1:Frz H false x a)(h2:Frz H false y b)(h3:Frz H false z c):Frz H false (.tup [x,y,z]) (.tup [a,b,c]):=by
 refine .tup _ _ rfl λi c d hc hd=>?_
 match i with
 |0=>simp at hc hd;subst hc;subst hd;exact h1
 |1=>simp at hc hd;subst hc;subst hd;exact h2
 |2=>simp at hc hd;subst hc;subst hd;exact h3
 |i+3=>simp at hc
mutual
theorem wL(d:Int):∀(v:Val) (m:Int),(dw d v m).1=0->m<=(dw d v m).2.2/\(dw d v m).2.2<=1000
 |.mk k n s l,m=>by
  unfold dw;split
  ·intro h;simp at h
  ·split
   ·intro h;simp at h
   ·split
    ·intro h;simp at h
    ·split
     ·intro h;simp at h
     ·rename_i c4;split
      ·intro h;simp at h
      ·unfold nY;split
       ·rename_i c6;intro h;exact absurd h c6
       ·rename_i c6;have:=sB (d+1) l (m+1) (none,true) (by omega) (by simpa using c6);split
        ·intro h;simp at h
        ·intro _;simp only;omega
theorem sB(d:Int):∀(l:List Val) (m:Int) (o:Option Ty×Bool),m<=1000->(fe d l m o).1=0->m<=(fe d l m o).2.2/\(fe d l m o).2.2<=1000
 |[],m,o,hm,_=>by unfold fe;simp only;omega
 |v::l,m,o,hm,h=>by
  unfold fe at h ⊢;split
  ·rename_i c;rw[am1 c]at h;exact absurd h c
  ·rename_i c;have h1:=wL d v m (by simpa using c);rw[amU c]at h;split
   ·rename_i c2;rw[am1 c2]at h;have:=sB d l _ o h1.2 h;omega
   ·rename_i c2;rw[amU c2]at h;have:=sB d l _ _ h1.2 h;omega
end
open Go.Eng Go.St Tryz
def nM(s:Str):List (LA):=(aD s).map λn=>[bH n]
def edC(k:Int)(r:AV)(n:Int)(c:AV):LA:=[I k,r,.aa,.aa,I 0,I 0,.bool false,I 0,I 0,I 0,I 0,I 0,I n,c,I 0]
def dm(k:Int)(r:AV)(n:Int)(c:AV):LA:=[I 8,I 0,I 0,I 0,I 0,I 0,I 0,I 0,I 0,I 0,I 0,I 0,.bool false,.bool false,I 0,.aa,I 0,I 0,I 0,I 0,I 0,.str [],I k,r,.aa,.aa,I 0,I 0,.bool false,I 0,I 0,I 0,I 0,I 0,I n,c,I 0]
def aqg(x:Int×AV×Int×AV):LA:=dm x.1 x.2.1 x.2.2.1 x.2.2.2
theorem fp{H:AH}{k n:Int}{r r' c c':AV}(h1:Frz H false r r')(h2:Frz H false c c'):ea H false (dm k r n c) (dm k r' n c'):=by
 unfold dm;repeat' (first|exact trivial|refine And.intro ?_ ?_|exact .int _ _|exact .bool _|exact .str _|exact .dX|assumption)
theorem mZ{h':AH}{n k:Nat}{s:Str}(hc:h'.ab k=some ((aD s).map bH))(hn:n<=k):Frz (fresh h' n) false (.rsl k 0 (aD s).length 1) (.psl (nM s)):=by
 have hf:(fresh h' n).ab k=some ((aD s).map bH):=by rw[iA hn];exact hc
 have:=Frz.rsl (h:=fresh h' n) (n:=false) k 0 1 ((aD s).map bH) (nM s) hf (by simp[nM]) (λi y hy=>by
  unfold nM at hy;rw[anb]at hy;cases hl:(aD s)[i]? with
  |none=>rw[hl]at hy;simp at hy
  |some r=>rw[hl]at hy;simp at hy;subst hy;rfl) (λi y j c d hy hd hc=>by
  unfold nM at hy;rw[anb]at hy;cases hl:(aD s)[i]? with
  |none=>rw[hl]at hy;simp at hy
  |some r=>
   rw[hl]at hy;simp at hy;subst hy;match j with
   |0=>
    simp at hd;subst hd;rw[show 0+i*1+0=i by omega,anb,hl]at hc;simp at hc;subst hc;exact .int _ _
   |j+1=>simp at hd)
 have e:(nM s).length=(aD s).length:=by simp[nM]
 rwa [e]at this
theorem ap9{z n:Nat}{hb h':AH}{lv:AV}{ys:List (LA)}(hz:∀y∈ys,y.length=z)(hy:∀y∈ys,∀(H:AH) (j:Nat) (c:AV),y[j]?=some c->Frz H false c c)(o:OL z hb h' lv ys.length ys.flatten)(hn:n<=hb.nx):Frz (fresh h' n) false lv (.psl ys):=by
 rcases o with⟨rfl,h2,h3⟩|⟨k,rfl,hn0,hk0,hk,hcs,hlen⟩
 ·have:ys=[]:=am8 h2;subst this;exact .aa
 ·have hf:(fresh h' n).ab k=some ys.flatten:=by rw[iA (by omega)];exact hcs
  exact Frz.rsl (h:=fresh h' n) (n:=false) k 0 z ys.flatten ys hf (by omega) (λi y hy=>hz y (am9 hy)) (λi y j c d' hy' hd hc=>by
   have hm:=am9 hy';have hj:j<z:=by
    have:=(amV.1 hd).1;rw[hz y hm]at this;exact this
   have h1:=vO ys hz i j y hy' hj;rw[show 0+i*z+j=i*z+j by omega]at hc;rw[h1,hd]at hc;cases hc;exact hy y hm _ j _ hd)
theorem pB(h:AH)(a b:Int):iy h true (I a) (I b)=some (I (max a b),h):=by
 simp[iy];split<;>omega
def zIn:LA:=[I 0,I 0,I 0,I 0,I 0,I 0,I 0,I 0,I 0,I 0,I 0,I 0,.bool false,.bool false,I 0,.aa,I 0,I 0,I 0,I 0,I 0,.str [],I 0,.aa,.aa,.aa,I 0,I 0,.bool false,I 0,I 0,I 0,I 0,I 0,I 0,.aa,I 0]
def stN(cs:LA)(off:Nat)(vs:LA):LA:=cs.take off++vs++cs.drop (off+vs.length)
theorem bz{cs vs:LA}{off:Nat}(h:off+vs.length<=cs.length):fi cs off vs=some (stN cs off vs):=by
 unfold fi stN;rw[am1 h]
theorem au5{cs:LA}{off:Nat}{v:AV}(h:off<cs.length):fi cs off [v]=some (stN cs off [v]):=bz (by simp;omega)
theorem Jq{cs vs:LA}{off:Nat}(h:off+vs.length<=cs.length):(stN cs off vs).length=cs.length:=by
 unfold stN;simp only[amX,anN,am3];omega
theorem wH{cs vs:LA}{off:Nat}(h1:dj cs=true)(h2:dj vs=true):dj (stN cs off vs)=true:=by
 unfold dj stN at*;rw[anK]at*;intro x hx;simp only[anP]at hx;rcases hx with(hx|hx)|hx
 ·exact h1 x (aCp hx)
 ·exact h2 x hx
 ·exact h1 x (List.mem_of_mem_drop hx)
theorem cA{H:AH}{cs ds vs ws:LA}{off:Nat}(h1:ea H false cs ds)(h2:ea H false vs ws):ea H false (stN cs off vs) (stN ds off ws):=by
 have hl:vs.length=ws.length:=((bK _ _ _ _).1 h2).1;have hc:=(bK _ _ _ _).1 h1;unfold stN;rw[<-hl];refine ea.app (ea.app ?_ h2) ?_
 ·rw[bK];refine⟨by simp[hc.1],λi c d hi hd=>?_⟩;rw[anZ]at hi hd;split at hi
  ·rename_i hlt;rw[am1 hlt]at hd;exact hc.2 i c d hi hd
  ·cases hi
 ·rw[bK];refine⟨by simp[hc.1],λi c d hi hd=>?_⟩;rw[anl]at hi hd;exact hc.2 _ c d hi hd
theorem ja(H:AH):ea H false zIn zIn:=by
 unfold zIn;repeat' (first|exact trivial|refine And.intro ?_ ?_|exact .int _ _|exact .bool _|exact .str _|exact .dX)
structure L3(h h':AH)(c1 c2:LA):Prop where
 r:h'.ab h.nx=some zIn
 a:h'.ab (h.nx+1)=some c1
 b:h'.ab (h.nx+2)=some c2
 nx:h.nx+3<=h'.nx
 get:∀i,i<h.nx->h'.H.get i=h.H.get i
 len:c2.length=37
 one:dj c2=true
theorem L3.cE{h h':AH}{c1 c2:LA}(l:L3 h h' c1 c2)(d:LA):L3 h (h'.set (h.nx+1) (.cells d)) d c2:=
 ⟨by rw[ak _ _ _ _ (by omega)];exact l.r,eD _ _ _ _ rfl,by rw[ak _ _ _ _ (by omega)];exact l.b,l.nx,λi hi=>by rw[au,amU (by omega)];exact l.get i hi,l.len,l.one⟩
theorem L3.sZ{h h':AH}{c1 c2:LA}(l:L3 h h' c1 c2)(d:LA)(hd:d.length=37)(ho:dj d=true):L3 h (h'.set (h.nx+2) (.cells d)) c1 d:=
 ⟨by rw[ak _ _ _ _ (by omega)];exact l.r,by rw[ak _ _ _ _ (by omega)];exact l.a,eD _ _ _ _ rfl,l.nx,λi hi=>by rw[au,amU (by omega)];exact l.get i hi,hd,ho⟩
theorem L3.st{h h':AH}{c1 c2:LA}(l:L3 h h' c1 c2)(off:Nat)(vs:LA)(hb:off+vs.length<=37)(hv:dj vs=true):L3 h (h'.set (h.nx+2) (.cells (stN c2 off vs))) c1 (stN c2 off vs):=
 l.sZ _ (by rw[Jq (by rw[l.len];exact hb)];exact l.len) (wH l.one hv)
theorem L3.new{h h' h2:AH}{c1 c2:LA}(l:L3 h h' c1 c2)(hn:h'.nx<=h2.nx)(hg:∀i,i<h'.nx->h2.H.get i=h'.H.get i):L3 h h2 c1 c2:=
 have n1:=l.nx
 ⟨by rw[ay (hg _ (by omega))];exact l.r,by rw[ay (hg _ (by omega))];exact l.a,by rw[ay (hg _ (by omega))];exact l.b,by omega,λi hi=>by rw[hg i (by omega)];exact l.get i hi,l.len,l.one⟩
def Up(h h':AH)(c2 d2:LA):Prop:=∀h2:AH,h'.nx<=h2.nx->(∀i,h.nx+3<=i->i<h'.nx->h2.H.get i=h'.H.get i)->ea (fresh h2 h.nx) false c2 d2
theorem Up.plain{h h':AH}{c2 d2:LA}(h1:∀H:AH,ea H false c2 d2):Up h h' c2 d2:=λ_ _ _=>h1 _
theorem yw{H:AH}{ys:List (LA)}(hy:∀y∈ys,∀(j:Nat) (c:AV),y[j]?=some c->Frz H false c c):Frz H false (.psl ys) (.psl ys):=
 .psl rfl _ _ rfl (λi x y hx hy=>by rw[hx]at hy;cases hy;rfl) λi x y j c d hx hy' hc hd=>by
  rw[hx]at hy';cases hy';rw[hc]at hd;cases hd;exact hy x (am9 hx) j c hc
open Go.Lib (itoa decDigits)
theorem yC(n:Int)(cl:Bool):∀c∈itoa n,bl cl c=true:=by
 have hd:∀u,∀c∈decDigits u,bl cl c=true:=λu c hc=>by
  have:=uM u c hc;unfold bl;have h1:c≠32:=by rintro rfl;simp[gx]at this
  have h2:c≠93:=by rintro rfl;simp[gx]at this
  simp[h1,h2]
 unfold itoa;split
 ·intro c hc;rcases anT.1 hc with rfl|hc
  ·cases cl<;>rfl
  ·exact hd _ c hc
 ·exact hd _
theorem lO(p:UInt8->Bool):∀x:Str,∃r,x=x.takeWhile p++r/\∀c t,r=c::t->p c=false
 |[]=>⟨[],rfl,by simp⟩
 |c::x=>by
  obtain⟨r,h1,h2⟩:=lO p x;by_cases hc:p c=true
  ·refine⟨r,?_,h2⟩;rw[aof hc,anB,<-h1]
  ·refine⟨c::x,?_,λd t h=>by cases h;simpa using hc⟩;rw[aog hc];rfl
theorem bD(s:Str)(t:PS)(ht:t.pos<=s.length):cD s t (bc s t):=by
 have h:=fW s t ht;refine⟨h.le,h.lt,λe=>h.ok ?_⟩;unfold bc at e;simp only[amZ]at e;exact e.1
theorem iQ(s:Str)(t:PS)(ht:t.pos<=s.length):cD s t (dW s t):=(dM s t ht).trans (qm s _ (dM s t ht).lt).1
theorem NJ(k n:Int)(s:Str)(l:List Val):kl k n s l = !(jT k n s l):=by
 unfold kl jT;by_cases k1:k=1
 ·subst k1;by_cases hs:s=[]<;>by_cases hl:l.length=0<;>simp[hs,hl]<;>omega
 by_cases k2:k=2
 ·subst k2;by_cases hs:s=[]<;>by_cases hl:l.length=0<;>simp[hs,hl]<;>omega
 by_cases k3:k=3
 ·subst k3;by_cases hn:n=0<;>by_cases hl:l.length=0<;>simp[hn,hl]<;>omega
 by_cases k4:k=4
 ·subst k4;by_cases hn:n=0<;>by_cases hs:s=[]<;>simp[hn,hs]
 ·rw[amU (by omega),amU k3,amU k4];have:k<1\/4<k:=by omega
  rcases this with h|h<;>simp[h]
theorem Qr(k n:Int):lY k n=oY k n:=by
 unfold lY oY;have e:(!(decide (-1099511627776<=n)&&decide (n<=1099511627776)))=(decide (n < -1099511627776)||decide (1099511627776<n)):=by
  by_cases a : -1099511627776<=n<;>by_cases b:n<=1099511627776<;>simp[a,b]<;>omega
 rw[e]
def TyM(ts:List Ty)(o:Option Ty×Bool):Prop:=
 match ts with
 |[]=>o=(none,true)
 |t::l=>match kO l t with
  |some x=>o=(some x,true)
  |none=>o.2=false
theorem yT:∀(l:List Ty) (t x:Ty),kO (l++[x]) t=match kO l t with|some y=>di y x|none=>none
 |[],t,x=>by
  simp only[anx,kO];cases di t x<;>rfl
 |u::l,t,x=>by
  simp only[anB,kO];cases di t u with
  |none=>rfl
  |some v=>exact yT l v x
theorem Xl{ts:List Ty}{o:Option Ty×Bool}(h:TyM ts o)(t:Ty):TyM (ts++[t]) (if o.2=false then o else u5 o.1 t):=by
 cases ts with
 |nil=>
  have h':o=(none,true):=h;subst h';rfl
 |cons t0 l=>
  unfold TyM at h ⊢;simp only[anB]at h ⊢;rw[yT];cases hj:kO l t0 with
  |none=>
   rw[hj]at h;have h':o.2=false:=h;rw[am1 h'];exact h'
  |some x=>
   rw[hj]at h;have h':o=(some x,true):=h;subst h';simp only[aon,ans];unfold u5;simp only;cases hx:di x t with
   |none=>simp
   |some y=>simp
mutual
theorem u7:∀(v:Val) (d m:Int),((chk d v m).1=0/\(dw (d+1) v m).1=0/\(chk d v m).2=(dw (d+1) v m).2)\/((chk d v m).1≠0/\(dw (d+1) v m).1≠0)
 |.mk k n s l,d,m=>by
  unfold Go.St.chk dw;by_cases h1:k=4/\16<=d
  ·rw[am1 h1,am1 ⟨h1.1,by omega⟩];right;simp
  rw[amU h1,amU (show ¬(k=4/\16<d+1)from λe=>h1 ⟨e.1,by omega⟩),NJ,Qr];cases h2:jT k n s l;case true=>right;simp
  cases h3:oY k n;case true=>right;simp
  simp only[Bool.not_false,aon,am7,ans];by_cases h4:2000<s.length\/100<l.length\/1000<m+1
  ·rw[am1 h4,am1 h4];right;simp
  rw[amU h4,amU h4];cases h5:Lib.validD s
  ·right;simp
  simp only[aon,ans];by_cases h6:k=4
  ·subst h6;simp only[ne_eq,not_true_eq_false,ans];rcases yL l (d+1) (m+1) [] (none,true) rfl with⟨q1,q2,q3,q4⟩|⟨q1,q2⟩
   ·unfold nY;rw[amU (by simp[q1]),amU (by simp[q2]),q4];generalize(nR (d+1) l (m+1) []).2.1=ts at*;generalize(fe (d+1+1) l (m+1) (none,true)).2.1=o at*;cases ts with
    |nil=>
     have q3':o=(none,true):=q3;subst q3';left;exact⟨rfl,by simp,by simp[jW]⟩
    |cons t0 l0=>
     unfold TyM at q3;simp only at q3;unfold jW;cases hj:kO l0 t0 with
     |none=>
      rw[hj]at q3;have q3':o.2=false:=q3;rw[am1 q3'];right;simp[hj]
     |some x=>
      rw[hj]at q3;have q3':o=(some x,true):=q3;subst q3';left;simp[hj]
   ·right;unfold nY;rw[am1 q1,am1 q2];exact⟨q1,q2⟩
  ·have hl:l=[]:=by
    unfold jT at h2;simp only[anC]at h2;have:=h2.2;simp only[an_,ano]at this;rcases this with h|h
    ·cases l with
     |nil=>rfl
     |cons a b=>simp at h
    ·exact absurd h6 h
   subst hl;left;simp[h6,fe,nY]
theorem yL:∀(l:List Val) (d m:Int) (ts:List Ty) (o:Option Ty×Bool),TyM ts o->
  ((nR d l m ts).1=0/\(fe (d+1) l m o).1=0/\TyM (nR d l m ts).2.1 (fe (d+1) l m o).2.1/\(nR d l m ts).2.2=(fe (d+1) l m o).2.2)\/((nR d l m ts).1≠0/\(fe (d+1) l m o).1≠0)
 |[],d,m,ts,o,h=>.inl ⟨rfl,rfl,h,rfl⟩
 |v::l,d,m,ts,o,h=>by
  unfold nR fe;rcases u7 v d m with⟨q1,q2,q3⟩|⟨q1,q2⟩
  ·rw[amU (by simp[q1]),amU (by simp[q2]),q3];have:=Xl h (dw (d+1) v m).2.1;have e:(if o.2=false then fe (d+1) l (dw (d+1) v m).2.2 o else fe (d+1) l (dw (d+1) v m).2.2 (u5 o.1 (dw (d+1) v m).2.1))=fe (d+1) l (dw (d+1) v m).2.2 (if o.2=false then o else u5 o.1 (dw (d+1) v m).2.1):=by
    split<;>rfl
   rw[e];exact yL l d _ _ _ this
  ·rw[am1 q1,am1 q2];exact .inr ⟨q1,q2⟩
end
open Go.Eng Go.St
def k_:List Str:=[QS,QY,adK,ga,On,K5]
def ie:List Str:=[nu,jP]
def jE:List Str:=[ji,jx]
def h_:List Str:=[jV,iw,OB,ga]
def cF:List Str:=[de,kh,gQ,gK,RQ,gS,dN,db]
def af5(o:Int)(n:Int×Int×Int×Int×Int):LA:=stN zIn 0 [I 1,I o,I n.1,I n.2.1,I n.2.2.1,I n.2.2.2.1,I n.2.2.2.2]
def Na(s:Str)(t:PS):List AV×PS:=
 let o:=1+bf s k_ t
 let t3:=aL s k_ t
 let t4:=bc s t3
 let t5:=bc s t4
 let t6:=bc s t5
 let t7:=bc s t6
 (af5 o (cQ s t3,cQ s t4,cQ s t5,cQ s t6,cQ s t7),bc s t7)
def yp(s:Str)(t:PS):List AV×PS:=(stN (stN zIn 0 [I 3]) 9 [I (cQ s t)],bc s t)
def yA(s:Str)(t:PS):List AV×PS:=(stN (stN (stN zIn 0 [I 4]) 10 [I (cQ s t)]) 11 [I (cQ s (bc s t))],bc s (bc s t))
def zz(s:Str)(t:PS):List AV×PS:=
 let t3:=aL s ie t
 let t4:=aL s jE t3
 (stN (stN (stN zIn 0 [I 5]) 12 [.bool (bf s ie t==1),.bool (bf s jE t3==1),I 0]) 14 [I (cQ s t4)],bc s t4)
def wT(s:Str)(t:PS):List AV×PS:=(stN (stN zIn 0 [I 6]) 15 [.psl (vCs (kL s t).1)],(kL s t).2)
def VN(a b o c d:Int)(x:Str):LA:=stN (stN (stN (stN (stN (stN (stN zIn 0 [I 7]) 16 [I a]) 17 [I b]) 18 [I ((2:Int)^(max o 0).toNat)]) 19 [I c]) 20 [I d]) 21 [.str x]
def Dr(s:Str)(t:PS):List AV×PS:=
 let t2:=bc s t
 let t3:=bc s t2
 let o:=bf s dI t3
 let t4:=aL s dI t3
 let t5:=bc s t4
 let t6:=bc s t5
 (VN (cQ s t) (cQ s t2) o (cQ s t4) (cQ s t5) (iJ s t6),dW s t6)
def qQ(s:Str):Nat->List Int->PS->List Int×PS
 |0,acc,t=>(acc,t)
 |n+1,acc,t=>if bB s t=true then qQ s n (acc++[cQ s t]) (bc s t)else(acc,t)
def tv(s:Str)(t:PS):List Int×PS:=qQ s (s.length+2) [] t
theorem jK(s:Str):∀(n:Nat) (acc:List Int) (t:PS),t.pos<=s.length->cD s t (qQ s n acc t).2
 |0,acc,t,ht=>cD.refl ht
 |n+1,acc,t,ht=>by
  unfold qQ;split
  ·exact(bD s t ht).trans (jK s n _ _ (bD s t ht).lt)
  ·exact cD.refl ht
theorem Mc{s:Str}{t:PS}(ht:t.pos<=s.length)(h:(bc s t).ok=true):t.pos<(bc s t).pos:=by
 have h1:=dM s t ht;have h2:=qA s false _ h1.lt;unfold bc at h;simp only[amZ]at h;exact Nat.lt_of_le_of_lt h1.le (h2.2 h.1)
def ng(n:Int):Int:=if n = -9223372036854775808 then -9223372036854775808 else -n
def clP(n:Int):LA:=[I (max n (ng n)),.bool (decide (n<0))]
def oh(l:List Int):List (LA):=l.map clP
def gC(s:Str)(t:PS):(Int×AV×Int×AV)×PS:=
 let k:=bf s h_ t
 let t1:=aL s h_ t
 if k=2 then((16,.psl (nM (iJ s t1)),0,.aa),dW s t1)
 else if k=1 then
  ((15,.psl (nM (iJ s t1)),cQ s (dW s t1),.psl (oh (tv s (bc s (dW s t1))).1)),(tv s (bc s (dW s t1))).2)
 else((14+k,.aa,0,.aa),t1)
theorem eY(s:Str)(l:List Str)(t:PS)(ht:t.pos<=s.length):cD s t (aL s l t):=by
 have h:=fW s t ht;refine⟨h.le,h.lt,λe=>h.ok ?_⟩;unfold aL at e;simp only[amZ]at e;exact e.1
open Go.Lib (decodeL decodeL_width decodeL_le encodeRune encode_decode decodeL_ascii)
def pkN:List Str:=ij.drop 1
def wE(i:Nat)(x:Str×Nat):Str×Nat:=
 if x.1.take ((dB.getD i [])++[43]).length=(dB.getD i [])++[43]then(x.1.drop ((dB.getD i [])++[43]).length,x.2+2^i)else x
def fu(w:Str):Nat->Str×Nat
 |0=>(w,0)
 |i+1=>wE i (fu w i)
def ph(c:Int):Bool:=decide (32<=c/\c<=1114111/\(c<55296\/57343<c)/\(c<65\/90<c))
def iT(r:Str):Nat×Nat:=if r=[]then(65533,0)else decodeL r
def l9(r:Str):Bool:=decide ((iT r).2=r.length/\(iT r).2≠0/\¬((iT r).1=65533/\(iT r).2=1)/\(iT r).1≠32)&&ph (iT r).1
def cz(w:Str):Int×Int×Bool:=
 if 0<=idx pkN (fu w 4).1 then(1+idx pkN (fu w 4).1,((fu w 4).2:Int),true)
 else if(fu w 4).1=iI then(32,((fu w 4).2:Int),true)
 else if l9 (fu w 4).1=true then(((iT (fu w 4).1).1:Int),((fu w 4).2:Int),true)else(0,0,false)
def iY(w:Str):Bool:=decide (w.length<=100)&&(cz w).2.2
def tV(s:Str)(t:PS):LA:=if iY (bT s t)=true then [I (cz (bT s t)).1,I (cz (bT s t)).2.1]else [I 0,I 0]
def od(s:Str)(t:PS):PS:=⟨(bq s t).pos,(bq s t).first,(bq s t).ok&&iY (bT s t)⟩
def FK(s:Str)(t:PS):List AV×PS:=(stN (stN (stN zIn 0 [I 2]) 7 (tV s t)) 9 [I (cQ s (od s t))],bc s (od s t))
def iM(s:Str):List AV×PS:=
 let k:=bf s cF ⟨0,true,true⟩
 let t:=aL s cF ⟨0,true,true⟩
 if k=0 then Na s t else if k=1 then FK s t else if k=2 then yp s t else if k=3 then yA s t else if k=4 then zz s t
 else if k=5 then wT s t else if k=6 then Dr s t else if k=7 then(aqg (gC s t).1,(gC s t).2)else(zIn,t)
def nj(s:Str):Bool:=(iM s).2.ok&&decide ((iM s).2.pos=s.length)
def prs(ln:Str->LA)(ok:Str->Bool):Nat->Str->List (LA)->Option (List (LA))×Nat×Int
 |0,_,out=>(some out,out.length,0)
 |n+1,s,out=>
  if s=[]then(some out,out.length,0)
  else if 200<=out.length then(none,out.length,2)
  else if ok (s.takeWhile (· != 10))=true/\(s.takeWhile (· != 10)).length<s.length then prs ln ok n (s.drop ((s.takeWhile (· != 10)).length+1)) (out++[ln (s.takeWhile (· != 10))])
  else(none,out.length,3)
def qG(s:Str):Option (List (LA))×Nat×Int:=prs (λl=>(iM l).1) nj s.length s []
open Tryz
theorem vj{H:AH}{b:Bool}{c d:LA}(h:ea H b c d):Frz H b (.agg c) (.agg d):=by
 have:=(bK _ _ _ _).1 h;exact .agg _ _ this.1 this.2
structure Cel(cs:LA):Prop where
 len:cs.length=37
 one:dj cs=true
 frz:∀H:AH,ea H false cs cs
theorem Cel.st{cs:LA}(c:Cel cs)(off:Nat)(vs:LA)(h:off+vs.length<=37)(ho:dj vs=true)(hf:∀H:AH,ea H false vs vs):Cel (stN cs off vs):=
 ⟨by rw[Jq (by rw[c.len];exact h)];exact c.len,wH c.one ho,λH=>cA (c.frz H) (hf H)⟩
theorem gq:Cel zIn:=⟨rfl,rfl,ja⟩
theorem Ah{H:AH}{a:AV}(h:Frz H false a a):ea H false [a] [a]:=⟨h,trivial⟩
theorem bO{cs:LA}(c:Cel cs)(off:Nat)(n:Int)(h:off<37):Cel (stN cs off [I n]):=c.st off _ (by simp;omega) rfl λH=>Ah (.int _ _)
theorem rz(l:List Val)(H:AH):Frz H false (.psl (vCs l)) (.psl (vCs l)):=
 .psl rfl _ _ rfl (λi x y hx hy=>by rw[hx]at hy;cases hy;rfl) λi x y j c d hx hy hc hd=>by
  rw[hx]at hy;cases hy;rw[hc]at hd;cases hd;exact rZ l H i x hx j c hc
def yk(r:Option (List (LA))×Nat×Int):AV:=.tup [.psl (r.1.getD []),I r.2.1,I r.2.2]
theorem avC{n:Nat}{hb h':AH}{lv:AV}{ys:List (LA)}(hy:∀y∈ys,Cel y)(o:OL 37 hb h' lv ys.length ys.flatten)(hn:n<=hb.nx):Frz (fresh h' n) false lv (.psl ys):=
 ap9 (λy h=>(hy y h).len) (λy h H j c hc=>((bK _ _ _ _).1 ((hy y h).frz H)).2 j c c hc hc) o hn
structure RP(h h':AH)(lv:AV)(out:List (LA)):Prop where
 ol:OL 37 h h' lv out.length out.flatten
 nx:h.nx<=h'.nx
 get:∀i,i<h.nx->h'.H.get i=h.H.get i
 cel:∀y∈out,Cel y
theorem dG{zero cs:LA}(h:zero.length=cs.length):fi zero 0 cs=some cs:=by
 rw[bz (by omega)];unfold stN;rw[List.take_zero,anx,anf (by omega),am5]
theorem aeI{cs zero:LA}(hl:cs.length=37)(h1:dj cs=true)(hz:zero.length=37):bW zero [(0,37,.agg cs)]=some cs:=by
 have:=dG (zero:=zero) (cs:=cs) (by omega);simp[bW,iU,AV.cells,hl,h1,this]
theorem xn{z:Nat}{h0 h:AH}{lv:AV}{n:Nat}{cs:LA}(o:OL z h0 h lv n cs)(hh:AH):bh hh lv=some (I n,hh):=by
 rcases o with⟨rfl,rfl,_⟩|⟨k,rfl,_⟩
 ·simp[]
 ·simp[]
theorem QL(h:AH)(L:List Int)(b:Nat)(hb:b<=L.length):kSl h 1 (jO L) none (some (I b)) none=some (jO (L.take b),h):=by
 have:(b:Int)<=L.length:=by omega
 simp[jO,kSl,lF,abd,oc,this,fj,asl,hb,List.map_take]
def sL(L:List Int):Sr:=⟨L.take 4000,0⟩
theorem VL(L:List Int):(sL L).Ok:=⟨by simp[sL],by simp[sL];omega⟩
theorem ae8(h:AH)(L:List Int)(_:True):aK prog 7 [jO L] h (.ptr h.nx 0) (h.add (.cells (srC (sL L)))):=by
 refine C7 (aW []) ?_;simp[g7];rw[hD];simp[];by_cases hl:(4000:Int)<L.length
 ·have hs:=QL h L 4000 (by omega);refine⟨λvs h'=>vs=[jO (L.take 4000)]/\h'=h,?_,?_⟩
  ·simp[Qp,hl];rw[show(4000:Int)=((4000:Nat):Int)from rfl,hs];simp[]
  ·rintro vs h' ⟨rfl,rfl⟩;have haf:bW [.aa,I 0] [(0,1,jO (L.take 4000))]=some [jO (L.take 4000),I 0]:=rfl;simp[O6,haf];rfl
 ·refine⟨λvs h'=>vs=[jO L]/\h'=h,?_,?_⟩
  ·simp[Qp,hl]
  ·rintro vs h' ⟨rfl,rfl⟩;have:L.take 4000=L:=anc (by omega);have haf:bW [.aa,I 0] [(0,1,jO L)]=some [jO L,I 0]:=rfl;simp[O6,sL,this,haf];rfl
theorem RF(h:AH)(id:Nat)(x:Sr)(n:Int)(hc:h.ab id=some (srC x))(hid:id<h.nx)(hx:x.Ok/\0<=n/\n<=1000000):aK prog 112 [.ptr id 0,I n] h (.bool (nV x n==n-1)) (h.set id (.cells (srC (nS x n)))):=by
 refine bm (R:=λv h'=>v =.bool (nV x n==n-1)/\Ob h h' id (srC (nS x n))) hid (dR _) (ah2 (aW [e8]) ?_) λv' h' ⟨h1,h2⟩=>⟨by rw[h1];exact .bool _,h2⟩
 simp[afS];refine gD n hc hid ⟨hx.1,by omega⟩ ?_;simp(disch:=first|go_size|fail)[Jy];exact(Ob.start hc).set _
def WQ:QE prog:=QE.obj 112 (λ_ _=>True) srC (fun(n:Int)=>[I n]) (fun(x:Sr)(y:Int)=>match y with|n=>x.Ok/\0<=n/\n<=1000000) (fun(x:Sr)(y:Int)=>match y with|n=>.bool (nV x n==n-1)) (fun(x:Sr)(y:Int)=>match y with|n=>nS x n) (λh id x y hj hc hid hx=>match y,hx with|n,hx=>RF h id x n hc hid hx)
theorem abv{tl h}{id:Nat}{x:Sr}(n:Int){Q:QT}(hc:h.ab id=some (srC x))(hid:id<h.nx)(hx:x.Ok/\0<=n/\n<=1000000)(hq:Q (.bool (nV x n==n-1)) (h.set id (.cells (srC (nS x n))))):tb (WQ::tl) 112 (.ptr id 0::[I n]) h Q:=bF n trivial hc hid hx hq
@[simp ↓] theorem ah3:TbT WQ 112:=aH WQ
def rwV(x:Sr):Int:=if x.a<x.L.length then x.L.getD x.a 0 else 0
def rwS(x:Sr):Sr:=if x.a<x.L.length then⟨x.L,x.a+1⟩else x
theorem aa9{x:Sr}(hx:x.Ok):(rwS x).Ok:=by
 unfold rwS;split
 ·rename_i h;exact⟨h,hx.2⟩
 ·exact hx
theorem adD(h:AH)(id:Nat)(x:Sr)(hc:h.ab id=some (srC x))(hid:id<h.nx)(hx:x.Ok):aK prog 113 [.ptr id 0] h (I (rwV x)) (h.set id (.cells (srC (rwS x)))):=by
 obtain⟨L,a⟩:=x;obtain⟨ha,hL⟩:=hx;simp only at ha hL;refine bm (R:=λv h'=>v=I (rwV ⟨L,a⟩)/\Ob h h' id (srC (rwS ⟨L,a⟩))) hid (dR _) (ahk (aW []) ?_) λv' h' ⟨h1,h2⟩=>⟨by rw[h1];exact .int _ _,h2⟩
 have hc':h.ab id=some [jO L,I a]:=hc;have ho:=Ob.start hc;simp[aeU,hc'];by_cases h1:a<L.length
 ·have h1':¬(L.length:Int)<=a:=by omega
  have eV:rwV ⟨L,a⟩=L.getD a 0:=by simp[rwV,h1]
  have eS:rwS ⟨L,a⟩=⟨L,a+1⟩:=by simp[rwS,h1]
  have hix:=λh=>yV h L a h1
  rw[eV,eS];generalize L.getD a 0=y at*;simp[Cg,hD,h1',hc'];simp(disch:=first|go_size|fail)[KS,hc'];have ho2:=((ho.bump (h.nx+10) (by omega)).set (srC ⟨L,a+1⟩)).bump (h.nx+10+12) (by simp);have e2:((a:Int)+1-1)=a:=by omega
  simp(disch:=first|go_size|fail)[LC,e2,hix];exact ho2
 ·have h1':(L.length:Int)<=a:=by omega
  have eV:rwV ⟨L,a⟩=0:=by simp[rwV,h1]
  have eS:rwS ⟨L,a⟩=⟨L,a⟩:=by simp[rwS,h1]
  rw[eV,eS];simp[Cg,hD,h1'];exact ho.bump _ (by simp)
def Xh:QE prog:=QE.obj 113 (λ_ _=>True) srC (fun(_:Unit)=>[]) (fun(x:Sr)(y:Unit)=>match y with|_=>x.Ok) (fun(x:Sr)(y:Unit)=>match y with|_=>I (rwV x)) (fun(x:Sr)(y:Unit)=>match y with|_=>rwS x) (λh id x y hj hc hid hx=>match y,hx with|_,hx=>adD h id x hc hid hx)
theorem Zu{tl h}{id:Nat}{x:Sr}{Q:QT}(hc:h.ab id=some (srC x))(hid:id<h.nx)(hx:x.Ok)(hq:Q (I (rwV x)) (h.set id (.cells (srC (rwS x))))):tb (Xh::tl) 113 (.ptr id 0::[]) h Q:=bF () trivial hc hid hx hq
@[simp ↓] theorem ah9:TbT Xh 113:=aH Xh
def abc:List Int:=[97,98,102,105,88,49,50,32,32,46,44,45,39,34,40,41,91,93,60,33,58,95,37,43,47,9,10,13,0x0B,0x85,0xA0,0xAD,0xB7,0x301,0x5D0,0x5D1,0x5BE,0x5B0,0x600,0x627,0x628,0x633,0x640,0x64B,0x661,0x66A,0x60C,0x61C,0x6F1,0x903,0x905,0x93C,0x1100,0x1161,0x11A8,0xAC00,0xAC01,0x2009,0x200B,0x200C,0x200D,0x200E,0x200F,0x2019,0x2028,0x2029,0x202A,0x202B,0x202C,0x202D,0x202E,0x2060,0x2066,0x2067,0x2068,0x2069,0x2600,0x3000,0x3001,0x300C,0x300D,0x30A2,0x4E00,0xFE0F,0x1F1E6,0x1F1E7,0x1F3FB,0x1F468,0x10FFFF]
def rnC(L:List Int):List (LA):=L.map λn=>[bH n]
theorem Jm(L:List Int):∀y∈rnC L,y.length=1:=by
 intro y hy;obtain⟨n,_,rfl⟩:=an0.1 hy;rfl
theorem Ed(L:List Int):(rnC L).flatten=L.map bH:=by
 induction L with
 |nil=>rfl
 |cons a l ih=>simp only[rnC,anO,an6]at ih ⊢; rw[ih];rfl
theorem KK(L:List Int):∀y∈rnC L,∀(H:AH) (j:Nat) (c:AV),y[j]?=some c->Frz H false c c:=by
 intro y hy H j c hc;obtain⟨n,_,rfl⟩:=an0.1 hy;match j with
 |0=>simp at hc;subst hc;exact .int _ _
 |j+1=>simp at hc
theorem Qx{n:Nat}{hb h':AH}{lv:AV}{L:List Int}(o:OL 1 hb h' lv L.length (L.map bH))(hn:n<=hb.nx):Frz (fresh h' n) false lv (.psl (rnC L)):=by
 refine ap9 (Jm L) (KK L) ?_ hn;rw[Ed,show(rnC L).length=L.length by simp[rnC]];exact o
theorem Ol{h:AH}{z len:Nat}{zero cs:LA}{ps:List (Nat×Nat×AV)}{K:QT}(hf:bW zero ps=some cs)(hk:K (.rsl h.nx 0 len z) (h.add (.cells cs))):wk (aQ h z len zero ps) K:=by
 rw[Du,hf];exact hk
set_option maxRecDepth 8000 in
theorem ae6(h:AH)(_:True):aK prog 111 [] h (.psl (rnC abc)) h:=by
 refine aZ (R:=λv h'=>OL 1 h h' v abc.length (abc.map bH)/\h.nx<=h'.nx/\∀i,i<h.nx->h'.H.get i=h.H.get i) (ah7 (aW []) ?_) λv' h' ⟨h1,h2,h3⟩=>⟨Qx h1 (amY _),h2,h3⟩
 unfold aeV;refine Ol (cs:=abc.map bH) (by kernel_rfl) ?_;exact⟨.inr ⟨h.nx,rfl,by decide,amY _,by simp,bd _ _ _ rfl,rfl⟩,by simp,λi hi=>by rw[az,amU (by omega)]⟩
def WX:QE prog:=QE.fn 111 (λ_=>True) (fun(_:Unit)=>[]) (fun(_:Unit)(h:AH)=>True) (fun(_:Unit)=>.psl (rnC abc)) (λh _ hj hx=>ae6 h hx)
theorem aaw{tl h}{Q:QT}(hx:True)(hq:Q (.psl (rnC abc)) h):tb (WX::tl) 111 [] h Q:=aV () trivial hx hq
@[simp ↓] theorem ahG:TbT WX 111:=aH WX
def w32(n:Int):Int:=IntKind.i32.wrap n
def ruV(x:Sr):Int:=if nV x 40=39 then w32 (rwV (nS x 40))else abc.getD (nV (nS x 40) 89).toNat 0
def ruS(x:Sr):Sr:=if nV x 40=39 then rwS (nS x 40)else nS (nS x 40) 89
theorem IA{x:Sr}(hx:x.Ok):(ruS x).Ok:=by
 unfold ruS;split
 ·exact aa9 (bn hx _)
 ·exact bn (bn hx _) _
theorem Vz(h:AH)(L:List Int)(a:Nat)(ha:a<L.length):aF h 1 (.psl (rnC L)) (I a)=some (.lz [bH (L.getD a 0)],h):=da (by simp[rnC,ha]) rfl
theorem Y7(h:AH)(id:Nat)(x:Sr)(hc:h.ab id=some (srC x))(hid:id<h.nx)(hx:x.Ok):aK prog 80 [.ptr id 0] h (bH (ruV x)) (h.set id (.cells (srC (ruS x)))):=by
 refine bm (R:=λv h'=>v=bH (ruV x)/\Ob h h' id (srC (ruS x))) hid (dR _) (C80 (aW [WX,WQ,Xh,e8]) ?_) λv' h' ⟨h1,h2⟩=>⟨by rw[h1];exact .int _ _,h2⟩
 have ho:=Ob.start hc;simp[g80];refine aaw trivial ?_;simp[];refine abv 40 hc hid ⟨hx,by omega,by omega⟩ ?_;have ho2:=ho.set (srC (nS x 40));have hx2:=bn hx 40;generalize h.set id (.cells (srC (nS x 40)))=h2 at*;by_cases h39:nV x 40=39
 ·have hb:(nV x 40==40-1)=true:=by rw[h39];rfl
  rw[hb];simp[];refine Zu ho2.c (ho2.lt hid) hx2 ?_;have ho3:=ho2.set (srC (rwS (nS x 40)));simp[ruV,ruS,h39];exact⟨rfl,ho3⟩
 ·have hb:(nV x 40==40-1)=false:=by simp only[beq_eq_false_iff_ne];omega
  rw[hb];have hlen:bh h2 (.psl (rnC abc))=some (I 89,h2):=am_ rfl rfl;simp[hlen];refine gD 89 ho2.c (ho2.lt hid) ⟨hx2,by omega⟩ ?_;have ho3:=ho2.set (srC (nS (nS x 40) 89));have n1:=eG (nS x 40) 89;have n2:=eu (nS x 40) (show(1:Int)<=89 by omega);obtain⟨m,hm⟩:=anu n1;have hm2:m<abc.length:=by rw[show abc.length=89 from rfl];omega
  generalize h2.set id (.cells (srC (nS (nS x 40) 89)))=h3 at*;simp[Sd];rw[hm,Vz _ _ _ hm2];simp[ruV,ruS,h39,hm];exact ho3
def e80:QE prog:=QE.obj 80 (λ_ _=>True) srC (fun(_:Unit)=>[]) (fun(x:Sr)(y:Unit)=>match y with|_=>x.Ok) (fun(x:Sr)(y:Unit)=>match y with|_=>bH (ruV x)) (fun(x:Sr)(y:Unit)=>match y with|_=>ruS x) (λh id x y hj hc hid hx=>match y,hx with|_,hx=>Y7 h id x hc hid hx)
theorem YG{tl h}{id:Nat}{x:Sr}{Q:QT}(hc:h.ab id=some (srC x))(hid:id<h.nx)(hx:x.Ok)(hq:Q (bH (ruV x)) (h.set id (.cells (srC (ruS x))))):tb (e80::tl) 80 (.ptr id 0::[]) h Q:=bF () trivial hc hid hx hq
