/- Functions of the reference, as plain transformers of predicates; printed by a program of ours. -/
import Derived.Test.YtndpneieplopaaaGreatDoorStO
set_option linter.unusedSimpArgs false
set_option linter.unusedVariables false
noncomputable section
namespace Go.Proofs.YtndpneieplopaaaGreatDoor
open Go.Eng Tryz
set_option maxRecDepth 100000
def AG(cl:CL)(v0 v3 v18 v22 v23:AV)(h:AH)(k:NT):=wA v18 (aq h v23) h λv24 c16 h=>wA v18 (ah h 1 v24) h λv25 c17 h=>wC v18 (aw h v25) v25 h λv26 c18 h=>wA v18 (dH h v22 v26) h λv27 c19 h=>wA v18 (ae h .neq v27 (.int .u8 32)) h λv28 c20 h=>wP h (aG h v18 v28 (.bool false)) λv29 c21 h=>k [v0,v3,v29] h
def Fm(cl:CL)(v0 v3 v11 v15:AV)(h:AH)(k:NT):=wP h (cL h v15) λv16 c8 h=>wP h (ae h .lss v11 v16) λv17 c9 h=>wP h (aB h v17) λv18 c10 h=>wsp v18 λv18=>wA v18 (aB h v0) h λv19 c11 h=>wA v18 (aq h v19) h λv20 c12 h=>wA v18 (ah h 0 v20) h λv21 c13 h=>wC v18 (aw h v21) v21 h λv22 c14 h=>wA v18 (aB h v0) h λv23 c15 h=>AG cl v0 v3 v18 v22 v23 h k
def Hk(cl:CL)(v0 v3:AV)(h:AH)(k:NT):=wdr h 22 λr h=>wP h (aB h v0) λv8 c0 h=>wP h (aq h v8) λv9 c1 h=>wP h (ah h 1 v9) λv10 c2 h=>wR h (aw h v10) v10 λv11 c3 h=>wP h (aB h v0) λv12 c4 h=>wP h (aq h v12) λv13 c5 h=>wP h (ah h 0 v13) λv14 c6 h=>wR h (aw h v14) v14 λv15 c7 h=>Fm cl v0 v3 v11 v15 h k
def GQ(cl:CL)(v0 v3 v29:AV)(h:AH)(k:KT):=wif v29 (wk (aq h v0) λv31 h=>wk (ah h 1 v31) λv32 h=>wk (aw h v32) λv33 h=>wk (ae h .add v33 (I 1)) λv34 h=>wk (aq h v0) λv35 h=>wk (ah h 1 v35) λv36 h=>wk (kSt h 1 v36 v34) λ_ h=>k .nrm [v0,v3] [v0,v3] h) (k (.exit 0) [v0,v3] [v0,v3] h)
def Sv(cl:CL)(v0 v3:AV)(h:AH)(k:KT):=aI (Hk cl v0 v3 h) λvs h=>GQ cl (ai vs 0) (ai vs 1) (ai vs 2) h k
def Ss(cl:CL)(v40 v41 v44:AV)(h:AH)(Q:QT):=wR h (aw h v44) v44 λv45 c8 h=>wP h (gI h v40 (some v41) (some v45)) λv46 c9 h=>wP h (aB h v46) λv2 c10 h=>Q v2 h
def Ho(cl:CL)(v0 v3:AV)(h:AH)(Q:QT):=wdr h 11 λr h=>wP h (aB h v0) λv37 c0 h=>wP h (aq h v37) λv38 c1 h=>wP h (ah h 0 v38) λv39 c2 h=>wR h (aw h v39) v39 λv40 c3 h=>wP h (aB h v3) λv41 c4 h=>wP h (aB h v0) λv42 c5 h=>wP h (aq h v42) λv43 c6 h=>wP h (ah h 1 v43) λv44 c7 h=>Ss cl v40 v41 v44 h Q
def PB(cl:CL)(x:AX)(v0 v3:AV)(h:AH)(Q:QT):=xs x (Ho cl v0 v3 h Q) (λj=>cond (Nat.beq j 0) (Ho cl v0 v3 h Q) (False)) (Q (.undef) h)
def g46(cl:CL)(v0:AV)(h:AH)(Q:QT):=wk (aq h v0) λv5 h=>wk (ah h 1 v5) λv6 h=>wk (aw h v6) λv7 h=>b9 (λvs h k=>Sv cl (ai vs 0) (ai vs 1) h k) [v0,v7] h λx vs h=>PB cl x (ai vs 0) (ai vs 1) h Q
theorem C46{cl}(hcl:bt prog cl){v0 h Q}(hg:g46 cl v0 h Q):aJ prog 46 [v0] h Q:=bI hcl [(3,.l [0,3] [0,3]),(4,.jn [0,3,29])] func46 (by kernel_rfl) (by kernel_rfl) hg
def II(cl:CL)(v0 v12 v16 v17:AV)(h:AH)(k:NT):=wB v12 (aq h v17) h λv18 c16 h=>wB v12 (ah h 1 v18) h λv19 c17 h=>wD v12 (aw h v19) v19 h λv20 c18 h=>wB v12 (dH h v16 v20) h λv21 c19 h=>wB v12 (ae h .neq v21 (.int .u8 32)) h λv22 c20 h=>wP h (aG h v12 (.bool true) v22) λv23 c21 h=>k [v0,v23] h
def GH(cl:CL)(v0 v5 v9:AV)(h:AH)(k:NT):=wP h (cL h v9) λv10 c8 h=>wP h (ae h .geq v5 v10) λv11 c9 h=>wP h (aB h v11) λv12 c10 h=>wsp v12 λv12=>wB v12 (aB h v0) h λv13 c11 h=>wB v12 (aq h v13) h λv14 c12 h=>wB v12 (ah h 0 v14) h λv15 c13 h=>wD v12 (aw h v15) v15 h λv16 c14 h=>wB v12 (aB h v0) h λv17 c15 h=>II cl v0 v12 v16 v17 h k
def FO(cl:CL)(v0:AV)(h:AH)(k:NT):=wdr h 22 λr h=>wP h (aB h v0) λv2 c0 h=>wP h (aq h v2) λv3 c1 h=>wP h (ah h 1 v3) λv4 c2 h=>wR h (aw h v4) v4 λv5 c3 h=>wP h (aB h v0) λv6 c4 h=>wP h (aq h v6) λv7 c5 h=>wP h (ah h 0 v7) λv8 c6 h=>wR h (aw h v8) v8 λv9 c7 h=>GH cl v0 v5 v9 h k
def Gu(cl:CL)(v0 v23:AV)(h:AH)(Q:QT):=wif v23 (wk (aq h v0) λv25 h=>wk (ah h 2 v25) λv26 h=>wk (kSt h 1 v26 (.bool true)) λ_ h=>Q (.tup []) h) (wk (aq h v0) λv28 h=>wk (ah h 1 v28) λv29 h=>wk (aw h v29) λv30 h=>wk (ae h .add v30 (I 1)) λv31 h=>wk (aq h v0) λv32 h=>wk (ah h 1 v32) λv33 h=>wk (kSt h 1 v33 v31) λ_ h=>Q (.tup []) h)
def g47(cl:CL)(v0:AV)(h:AH)(Q:QT):=aI (FO cl v0 h) λvs h=>Gu cl (ai vs 0) (ai vs 1) h Q
theorem C47{cl}(hcl:bt prog cl){v0 h Q}(hg:g47 cl v0 h Q):aJ prog 47 [v0] h Q:=bI hcl [(0,.jn [0,23])] func47 (by kernel_rfl) (by kernel_rfl) hg
def QG(cl:CL)(v2 v6 v10:AV)(h:AH)(Q:QT):=wP h (cL h v10) λv11 c8 h=>wP h (ae h .geq v6 v11) λv12 c9 h=>wP h (aB h v12) λv2 c10 h=>Q v2 h
def g51(cl:CL)(v0:AV)(h:AH)(Q:QT):=wdr h 11 λr h=>wP h (aB h v0) λv3 c0 h=>wP h (aq h v3) λv4 c1 h=>wP h (ah h 1 v4) λv5 c2 h=>wR h (aw h v5) v5 λv6 c3 h=>wP h (aB h v0) λv7 c4 h=>wP h (aq h v7) λv8 c5 h=>wP h (ah h 0 v8) λv9 c6 h=>wR h (aw h v9) v9 λv10 c7 h=>QG cl ((.bool false)) v6 v10 h Q
theorem C51{cl}(hcl:bt prog cl){v0 h Q}(hg:g51 cl v0 h Q):aJ prog 51 [v0] h Q:=bI hcl [] func51 (by kernel_rfl) (by kernel_rfl) hg
def FE(cl:CL)(v0 v3 v4 v21 v25 v26:AV)(h:AH)(k:NT):=wA v21 (aq h v26) h λv27 c16 h=>wA v21 (ah h 1 v27) h λv28 c17 h=>wC v21 (aw h v28) v28 h λv29 c18 h=>wA v21 (dH h v25 v29) h λv30 c19 h=>wA v21 (ae h .eql v30 (.int .u8 45)) h λv31 c20 h=>wP h (aG h v21 v31 (.bool false)) λv32 c21 h=>k [v0,v3,v4,v32] h
def GP(cl:CL)(v0 v3 v4 v14 v18:AV)(h:AH)(k:NT):=wP h (cL h v18) λv19 c8 h=>wP h (ae h .lss v14 v19) λv20 c9 h=>wP h (aB h v20) λv21 c10 h=>wsp v21 λv21=>wA v21 (aB h v0) h λv22 c11 h=>wA v21 (aq h v22) h λv23 c12 h=>wA v21 (ah h 0 v23) h λv24 c13 h=>wC v21 (aw h v24) v24 h λv25 c14 h=>wA v21 (aB h v0) h λv26 c15 h=>FE cl v0 v3 v4 v21 v25 v26 h k
def HO(cl:CL)(v0 v3 v4:AV)(h:AH)(k:NT):=wdr h 22 λr h=>wP h (aB h v0) λv11 c0 h=>wP h (aq h v11) λv12 c1 h=>wP h (ah h 1 v12) λv13 c2 h=>wR h (aw h v13) v13 λv14 c3 h=>wP h (aB h v0) λv15 c4 h=>wP h (aq h v15) λv16 c5 h=>wP h (ah h 0 v16) λv17 c6 h=>wR h (aw h v17) v17 λv18 c7 h=>GP cl v0 v3 v4 v14 v18 h k
def Hm(cl:CL)(v0 v3 v4 v32:AV)(h:AH)(k:NT):=wif v32 (wk (aq h v0) λv34 h=>wk (ah h 1 v34) λv35 h=>wk (aw h v35) λv36 h=>wk (ae h .add v36 (I 1)) λv37 h=>wk (aq h v0) λv38 h=>wk (ah h 1 v38) λv39 h=>wk (kSt h 1 v39 v37) λ_ h=>k [v0,v3,.bool true] h) (k [v0,v3,v4] h)
def sP(cl:CL)(v0 v3 v4 v5 v6 v66 v75:AV)(h:AH)(k:NT):=wA v66 (ae h .leq v75 (.int .u8 57)) h λv76 c32 h=>wP h (aG h v66 v76 (.bool false)) λv77 c33 h=>wP h (aB h v77) λv78 c34 h=>wsp v78 λv78=>wA v78 (aB h v5) h λv79 c35 h=>wA v78 (ae h .leq v79 (I 1099511627776)) h λv80 c36 h=>wP h (aG h v78 v80 (.bool false)) λv81 c37 h=>k [v0,v3,v4,v5,v6,v81] h
def BG(cl:CL)(v0 v3 v4 v5 v6 v66 v67:AV)(h:AH)(k:NT):=wA v66 (aq h v67) h λv68 c24 h=>wA v66 (ah h 0 v68) h λv69 c25 h=>wC v66 (aw h v69) v69 h λv70 c26 h=>wA v66 (aB h v0) h λv71 c27 h=>wA v66 (aq h v71) h λv72 c28 h=>wA v66 (ah h 1 v72) h λv73 c29 h=>wC v66 (aw h v73) v73 h λv74 c30 h=>wA v66 (dH h v70 v74) h λv75 c31 h=>sP cl v0 v3 v4 v5 v6 v66 v75 h k
def Bc(cl:CL)(v0 v3 v4 v5 v6 v54 v58 v59:AV)(h:AH)(k:NT):=wA v54 (aq h v59) h λv60 c16 h=>wA v54 (ah h 1 v60) h λv61 c17 h=>wC v54 (aw h v61) v61 h λv62 c18 h=>wA v54 (dH h v58 v62) h λv63 c19 h=>wA v54 (ae h .geq v63 (.int .u8 48)) h λv64 c20 h=>wP h (aG h v54 v64 (.bool false)) λv65 c21 h=>wP h (aB h v65) λv66 c22 h=>wsp v66 λv66=>wA v66 (aB h v0) h λv67 c23 h=>BG cl v0 v3 v4 v5 v6 v66 v67 h k
def H6(cl:CL)(v0 v3 v4 v5 v6 v47 v51:AV)(h:AH)(k:NT):=wP h (cL h v51) λv52 c8 h=>wP h (ae h .lss v47 v52) λv53 c9 h=>wP h (aB h v53) λv54 c10 h=>wsp v54 λv54=>wA v54 (aB h v0) h λv55 c11 h=>wA v54 (aq h v55) h λv56 c12 h=>wA v54 (ah h 0 v56) h λv57 c13 h=>wC v54 (aw h v57) v57 h λv58 c14 h=>wA v54 (aB h v0) h λv59 c15 h=>Bc cl v0 v3 v4 v5 v6 v54 v58 v59 h k
def Fj(cl:CL)(v0 v3 v4 v5 v6:AV)(h:AH)(k:NT):=wdr h 38 λr h=>wP h (aB h v0) λv44 c0 h=>wP h (aq h v44) λv45 c1 h=>wP h (ah h 1 v45) λv46 c2 h=>wR h (aw h v46) v46 λv47 c3 h=>wP h (aB h v0) λv48 c4 h=>wP h (aq h v48) λv49 c5 h=>wP h (ah h 0 v49) λv50 c6 h=>wR h (aw h v50) v50 λv51 c7 h=>H6 cl v0 v3 v4 v5 v6 v47 v51 h k
def O4(cl:CL)(v0 v3 v4 v5 v6 v96 v97:AV)(h:AH)(k:KT):=wk (ah h 1 v97) λv98 h=>wk (aw h v98) λv99 h=>wk (ae h .add v99 (I 1)) λgF h=>wk (aq h v96) λlu h=>wk (ah h 1 lu) λiW h=>wk (kSt h 1 iW gF) λ_ h=>k .nrm [v0,v3,v4,v5,v6] [v0,v3,v4,v5,v6] h
def RJ(cl:CL)(v0 v3 v4 v5 v6 v83 v87 v89:AV)(h:AH)(k:KT):=wP h (ah h 1 v89) λv90 c8 h=>wR h (aw h v90) v90 λv91 c9 h=>wP h (dH h v87 v91) λv92 c10 h=>wP h (ae h .sub v92 (.int .u8 48)) λv93 c11 h=>wP h (cB h .i64 v93) λv94 c12 h=>wP h (ae h .add v83 v94) λv95 c13 h=>wP h (aB h v95) λv5 c14 h=>wk (aq h v0) λv97 h=>O4 cl v0 v3 v4 v5 v6 v0 v97 h k
def IW(cl:CL)(v0 v3 v4 v5 v6 v81:AV)(h:AH)(k:KT):=wif v81 (wdr h 15 λr h=>wP h (aB h v5) λv82 c0 h=>wP h (ae h .mul (I 10) v82) λv83 c1 h=>wP h (aB h v0) λv84 c2 h=>wP h (aq h v84) λv85 c3 h=>wP h (ah h 0 v85) λv86 c4 h=>wR h (aw h v86) v86 λv87 c5 h=>wP h (aB h v0) λv88 c6 h=>wP h (aq h v88) λv89 c7 h=>RJ cl v0 v3 v4 v5 v6 v83 v87 v89 h k) (k (.exit 0) [v0,v3,v4,v5,v6] [v0,v3,v4,v5,v6] h)
def T8(cl:CL)(v0 v3 v4 v5 v6:AV)(h:AH)(k:KT):=aI (Fj cl v0 v3 v4 v5 v6 h) λvs h=>IW cl (ai vs 0) (ai vs 1) (ai vs 2) (ai vs 3) (ai vs 4) (ai vs 5) h k
def GB(cl:CL)(v0 v3 v5 v6 mO:AV)(h:AH)(k:NT):=wif mO (wk (kUn h .neg v5) λv105 h=>k [v0,v3,v105,v6] h) (k [v0,v3,v5,v6] h)
def sd(cl:CL)(c16 c20:Rec)(v0 v5 fB ow oq v127 ou:AV)(h:AH)(k:NT):=wB fB (ah h 1 ou) h λv130 c24 h=>wD fB (aw h v130) v130 h λv131 c25 h=>wB fB (gI h oq (some v127) (some v131)) h λgG c26 h=>wB fB (ae h .neq ow gG) h λpo c27 h=>wP h (aG h fB (.bool true) po) λpr c28 h=>aU c16 c20=true/\aU c16 c25=true/\k [v0,v5,pr] h
def rI(cl:CL)(v0 v3 v5 fB kK:AV)(h:AH)(k:NT):=wgd (gdv false fB) (λk=>wdc cl (F 81) [kK] h k) h λow c16 h=>wB fB (aB h v0) h λnf c17 h=>wB fB (aq h nf) h λv124 c18 h=>wB fB (ah h 0 v124) h λni c19 h=>wD fB (aw h ni) ni h λoq c20 h=>wB fB (aB h v3) h λv127 c21 h=>wB fB (aB h v0) h λnh c22 h=>wB fB (aq h nh) h λou c23 h=>sd cl c16 c20 v0 v5 fB ow oq v127 ou h k
def rB(cl:CL)(v0 v3 v5 jD lx:AV)(h:AH)(k:NT):=wB jD (ae h .gtr lx (I 1099511627776)) h λiV c8 h=>wP h (aG h jD (.bool true) iV) λpX c9 h=>wP h (aB h pX) λjC c10 h=>wsp jC λjC=>wB jC (aB h v5) h λv117 c11 h=>wB jC (ae h .lss v117 (I (-1099511627776))) h λkG c12 h=>wP h (aG h jC (.bool true) kG) λkJ c13 h=>wP h (aB h kJ) λfB c14 h=>wsp fB λfB=>wB fB (aB h v5) h λkK c15 h=>rI cl v0 v3 v5 fB kK h k
def Fs(cl:CL)(v0 v3 v5 v6:AV)(h:AH)(k:NT):=wdr h 29 λr h=>wP h (aB h v0) λmg c0 h=>wP h (aq h mg) λv107 c1 h=>wP h (ah h 1 v107) λiL c2 h=>wR h (aw h iL) iL λv109 c3 h=>wP h (aB h v6) λkq c4 h=>wP h (ae h .eql v109 kq) λgp c5 h=>wP h (aB h gp) λjD c6 h=>wsp jD λjD=>wB jD (aB h v5) h λlx c7 h=>rB cl v0 v3 v5 jD lx h k
def E9(cl:CL)(v0 v5 pr:AV)(h:AH)(k:NT):=wif pr (wk (aq h v0) λxP h=>wk (ah h 2 xP) λmh h=>wk (kSt h 1 mh (.bool true)) λ_ h=>k [v5] h) (k [v5] h)
def Uf(cl:CL)(v5:AV)(h:AH)(Q:QT):=Q v5 h
def KL(cl:CL)(v0 v5 pr:AV)(h:AH)(Q:QT):=aI (E9 cl v0 v5 pr h) λvs h=>Uf cl (ai vs 0) h Q
def JG(cl:CL)(v0 v3 v5 v6:AV)(h:AH)(Q:QT):=aI (Fs cl v0 v3 v5 v6 h) λvs h=>KL cl (ai vs 0) (ai vs 1) (ai vs 2) h Q
def Cp(cl:CL)(v0 v3 v4 v5 v6:AV)(h:AH)(Q:QT):=aI (GB cl v0 v3 v5 v6 v4 h) λvs h=>JG cl (ai vs 0) (ai vs 1) (ai vs 2) (ai vs 3) h Q
def KN(cl:CL)(x:AX)(v0 v3 v4 v5 v6:AV)(h:AH)(Q:QT):=xs x (Cp cl v0 v3 v4 v5 v6 h Q) (λj=>cond (Nat.beq j 0) (Cp cl v0 v3 v4 v5 v6 h Q) (False)) (Q (.undef) h)
def JO(cl:CL)(v0 v3 v4:AV)(h:AH)(Q:QT):=wdr h 6 λr h=>wP h (aB h v0) λv40 c0 h=>wP h (aq h v40) λv41 c1 h=>wP h (ah h 1 v41) λv42 c2 h=>wR h (aw h v42) v42 λv43 c3 h=>wP h (aB h (I 0)) λv5 c4 h=>wP h (aB h v43) λv6 c5 h=>b9 (λvs h k=>T8 cl (ai vs 0) (ai vs 1) (ai vs 2) (ai vs 3) (ai vs 4) h k) [v0,v3,v4,v5,v6] h λx vs h=>KN cl x (ai vs 0) (ai vs 1) (ai vs 2) (ai vs 3) (ai vs 4) h Q
def KF(cl:CL)(v0 v3 v4 v32:AV)(h:AH)(Q:QT):=aI (Hm cl v0 v3 v4 v32 h) λvs h=>JO cl (ai vs 0) (ai vs 1) (ai vs 2) h Q
def g85(cl:CL)(v0:AV)(h:AH)(Q:QT):=wk (aq h v0) λv8 h=>wk (ah h 1 v8) λv9 h=>wk (aw h v9) λv10 h=>aI (HO cl v0 v10 ((.bool false)) h) λvs h=>KF cl (ai vs 0) (ai vs 1) (ai vs 2) (ai vs 3) h Q
theorem C85{cl}(hcl:bt prog cl){v0 h Q}(hg:g85 cl v0 h Q):aJ prog 85 [v0] h Q:=bI hcl [(2,.jn [0,3,4,32]),(3,.jn [0,3,4]),(8,.l [0,3,4,5,6] [0,3,4,5,6]),(9,.jn [0,3,4,5,6,81]),(15,.jn [0,3,5,6]),(17,.jn [0,5,134]),(18,.jn [5])] func85 (by kernel_rfl) (by kernel_rfl) hg
def g49(cl:CL)(v0:AV)(h:AH)(Q:QT):=ax cl (F 47) [v0] h λv4 h=>ax cl (F 85) [v0] h λv6 h=>Q v6 h
theorem C49{cl}(hcl:bt prog cl){v0 h Q}(hg:g49 cl v0 h Q):aJ prog 49 [v0] h Q:=bI hcl [] func49 (by kernel_rfl) (by kernel_rfl) hg
def afa(cl:CL)(v0:AV)(h:AH)(Q:QT):=wk (kX h .s2r [v0]) λv4 h=>wk (kX h .r2s [v4]) λv5 h=>wk (ae h .eql v5 v0) λv7 h=>Q v7 h
theorem aip{cl}(hcl:bt prog cl){v0 h Q}(hg:afa cl v0 h Q):aJ prog 117 [v0] h Q:=bI hcl [] func117 (by kernel_rfl) (by kernel_rfl) hg
def Gv(cl:CL)(v0 v16 v20 v21:AV)(h:AH)(k:NT):=wB v16 (aq h v21) h λv22 c16 h=>wB v16 (ah h 1 v22) h λv23 c17 h=>wD v16 (aw h v23) v23 h λv24 c18 h=>wB v16 (dH h v20 v24) h λv25 c19 h=>wB v16 (ae h .neq v25 (.int .u8 34)) h λv26 c20 h=>wP h (aG h v16 (.bool true) v26) λv27 c21 h=>k [v0,v27] h
def E8(cl:CL)(v0 v9 v13:AV)(h:AH)(k:NT):=wP h (cL h v13) λv14 c8 h=>wP h (ae h .geq v9 v14) λv15 c9 h=>wP h (aB h v15) λv16 c10 h=>wsp v16 λv16=>wB v16 (aB h v0) h λv17 c11 h=>wB v16 (aq h v17) h λv18 c12 h=>wB v16 (ah h 0 v18) h λv19 c13 h=>wD v16 (aw h v19) v19 h λv20 c14 h=>wB v16 (aB h v0) h λv21 c15 h=>Gv cl v0 v16 v20 v21 h k
def GZ(cl:CL)(v0:AV)(h:AH)(k:NT):=wdr h 22 λr h=>wP h (aB h v0) λv6 c0 h=>wP h (aq h v6) λv7 c1 h=>wP h (ah h 1 v7) λv8 c2 h=>wR h (aw h v8) v8 λv9 c3 h=>wP h (aB h v0) λv10 c4 h=>wP h (aq h v10) λv11 c5 h=>wP h (ah h 0 v11) λv12 c6 h=>wR h (aw h v12) v12 λv13 c7 h=>E8 cl v0 v9 v13 h k
def E2(cl:CL)(v0 v3 v48 v52 v53:AV)(h:AH)(k:NT):=wA v48 (aq h v53) h λv54 c16 h=>wA v48 (ah h 1 v54) h λv55 c17 h=>wC v48 (aw h v55) v55 h λv56 c18 h=>wA v48 (dH h v52 v56) h λv57 c19 h=>wA v48 (ae h .neq v57 (.int .u8 34)) h λv58 c20 h=>wP h (aG h v48 v58 (.bool false)) λv59 c21 h=>k [v0,v3,v59] h
def Ga(cl:CL)(v0 v3 v41 v45:AV)(h:AH)(k:NT):=wP h (cL h v45) λv46 c8 h=>wP h (ae h .lss v41 v46) λv47 c9 h=>wP h (aB h v47) λv48 c10 h=>wsp v48 λv48=>wA v48 (aB h v0) h λv49 c11 h=>wA v48 (aq h v49) h λv50 c12 h=>wA v48 (ah h 0 v50) h λv51 c13 h=>wC v48 (aw h v51) v51 h λv52 c14 h=>wA v48 (aB h v0) h λv53 c15 h=>E2 cl v0 v3 v48 v52 v53 h k
def Gn(cl:CL)(v0 v3:AV)(h:AH)(k:NT):=wdr h 22 λr h=>wP h (aB h v0) λv38 c0 h=>wP h (aq h v38) λv39 c1 h=>wP h (ah h 1 v39) λv40 c2 h=>wR h (aw h v40) v40 λv41 c3 h=>wP h (aB h v0) λv42 c4 h=>wP h (aq h v42) λv43 c5 h=>wP h (ah h 0 v43) λv44 c6 h=>wR h (aw h v44) v44 λv45 c7 h=>Ga cl v0 v3 v41 v45 h k
def Bg(cl:CL)(v0 v3 v4 v78 v83:AV)(h:AH)(k:NT):=wA v78 (aB h v0) h λv84 c8 h=>wA v78 (aq h v84) h λv85 c9 h=>wA v78 (ah h 0 v85) h λv86 c10 h=>wC v78 (aw h v86) v86 h λv87 c11 h=>wA v78 (cL h v87) h λv88 c12 h=>wA v78 (ae h .lss v83 v88) h λv89 c13 h=>wP h (aG h v78 v89 (.bool false)) λv90 c14 h=>k [v0,v3,v4,v90] h
def AN(cl:CL)(v0 v3 v4:AV)(h:AH)(k:NT):=wdr h 15 λr h=>wP h (aB h v4) λv76 c0 h=>wP h (ae h .eql v76 (.int .u8 92)) λv77 c1 h=>wP h (aB h v77) λv78 c2 h=>wsp v78 λv78=>wA v78 (aB h v0) h λv79 c3 h=>wA v78 (aq h v79) h λv80 c4 h=>wA v78 (ah h 1 v80) h λv81 c5 h=>wC v78 (aw h v81) v81 h λv82 c6 h=>wA v78 (ae h .add v82 (I 1)) h λv83 c7 h=>Bg cl v0 v3 v4 v78 v83 h k
def G0(cl:CL)(v0 v3 v4:AV)(h:AH)(k:NT):=wk (ae h .neq v4 (.int .u8 34)) λkq h=>wsp kq λgp=>wg (gdv true gp) (λk=>k v4 h) h λjD h=>gA gp (ae h .neq jD (.int .u8 92)) h λlx h=>wk (aG h gp lx (.bool false)) λiV h=>k [v0,v3,v4,iV] h
def Fe(cl:CL)(v0 v3 v4 iV:AV)(h:AH)(k:NT):=wif iV (wk (aq h v0) λjC h=>wk (ah h 2 jC) λv117 h=>wk (kSt h 1 v117 (.bool true)) λ_ h=>k [v0,v3,v4] h) (k [v0,v3,v4] h)
def IG(cl:CL)(v0 v3 v4 mg:AV)(h:AH)(k:NT):=wP h (aB h mg) λv4 c9 h=>wk (ae h .eql v4 (.int .u8 110)) λiL h=>wif iL (k [v0,v3,.int .u8 10] h) (aI (G0 cl v0 v3 v4 h) λvs h=>Fe cl (ai vs 0) (ai vs 1) (ai vs 2) (ai vs 3) h k)
def Sg(cl:CL)(v0 v3 v4 v98:AV)(h:AH)(k:NT):=wP h (aq h v98) λv99 c1 h=>wP h (ah h 0 v99) λgF c2 h=>wR h (aw h gF) gF λlu c3 h=>wP h (aB h v0) λiW c4 h=>wP h (aq h iW) λmO c5 h=>wP h (ah h 1 mO) λpV c6 h=>wR h (aw h pV) pV λv105 c7 h=>wP h (dH h lu v105) λmg c8 h=>IG cl v0 v3 v4 mg h k
def AU(cl:CL)(v0 v3 v4 v90:AV)(h:AH)(k:NT):=wif v90 (wk (aq h v0) λv92 h=>wk (ah h 1 v92) λv93 h=>wk (aw h v93) λv94 h=>wk (ae h .add v94 (I 1)) λv95 h=>wk (aq h v0) λv96 h=>wk (ah h 1 v96) λv97 h=>wk (kSt h 1 v97 v95) λ_ h=>wdr h 10 λr h=>wP h (aB h v0) λv98 c0 h=>Sg cl v0 v3 v4 v98 h k) (wk (ae h .eql v4 (.int .u8 92)) λkJ h=>wif kJ (wk (aq h v0) λkK h=>wk (ah h 2 kK) λow h=>wk (kSt h 1 ow (.bool true)) λ_ h=>k [v0,v3,v4] h) (k [v0,v3,v4] h))
def Tu(cl:CL)(v0 v3 v64 v66:AV)(h:AH)(k:KT):=wk (kSt h 1 v66 v64) λ_ h=>k .nrm [v0,v3] [v0,v3] h
def Pu(cl:CL)(v0 v3 v4:AV)(h:AH)(k:KT):=wk (aQ h 1 1 [.int .u8 0] [(0,1,v4)]) λni h=>wk (dK h 1 1 v3 ni) λoq h=>wk (aq h v0) λv61 h=>wk (ah h 1 v61) λv62 h=>wk (aw h v62) λv63 h=>wk (ae h .add v63 (I 1)) λv64 h=>wk (aq h v0) λv65 h=>wk (ah h 1 v65) λv66 h=>Tu cl v0 oq v64 v66 h k
def QZ(cl:CL)(v0 v3 v4 v90:AV)(h:AH)(k:KT):=aI (AU cl v0 v3 v4 v90 h) λvs h=>Pu cl (ai vs 0) (ai vs 1) (ai vs 2) h k
def TW(cl:CL)(v0 v3 v70 v74:AV)(h:AH)(k:KT):=wP h (dH h v70 v74) λv75 c8 h=>wP h (aB h v75) λv4 c9 h=>aI (AN cl v0 v3 v4 h) λvs h=>QZ cl (ai vs 0) (ai vs 1) (ai vs 2) (ai vs 3) h k
def Gl(cl:CL)(v0 v3 v59:AV)(h:AH)(k:KT):=wif v59 (wdr h 10 λr h=>wP h (aB h v0) λv67 c0 h=>wP h (aq h v67) λv68 c1 h=>wP h (ah h 0 v68) λv69 c2 h=>wR h (aw h v69) v69 λv70 c3 h=>wP h (aB h v0) λv71 c4 h=>wP h (aq h v71) λv72 c5 h=>wP h (ah h 1 v72) λv73 c6 h=>wR h (aw h v73) v73 λv74 c7 h=>TW cl v0 v3 v70 v74 h k) (k (.exit 0) [v0,v3] [v0,v3] h)
def Kg(cl:CL)(v0 v3:AV)(h:AH)(k:KT):=aI (Gn cl v0 v3 h) λvs h=>Gl cl (ai vs 0) (ai vs 1) (ai vs 2) h k
def AR(cl:CL)(v0 v3 v127 gG xT:AV)(h:AH)(k:NT):=wP h (aG h gG (.bool true) xT) λv143 c16 h=>wP h (aq h v127) λxQ c17 h=>wP h (ah h 2 xQ) λv145 c18 h=>wde h (kSt h 1 v145 v143) λ_ c19 h=>k [v0,v3] h
def B5(cl:CL)(v0 v3 v127 gG pr:AV)(h:AH)(k:NT):=wB gG (ah h 1 pr) h λr9 c8 h=>wD gG (aw h r9) r9 h λxP c9 h=>wB gG (aB h v0) h λmh c10 h=>wB gG (aq h mh) h λv138 c11 h=>wB gG (ah h 0 v138) h λv139 c12 h=>wD gG (aw h v139) v139 h λpW c13 h=>wB gG (cL h pW) h λv141 c14 h=>wB gG (ae h .geq xP v141) h λxT c15 h=>AR cl v0 v3 v127 gG xT h k
def Bx(cl:CL)(v0 v3:AV)(h:AH)(k:NT):=wdr h 20 λr h=>wP h (aB h v0) λv127 c0 h=>wP h (aB h v0) λnh c1 h=>wP h (aq h nh) λou c2 h=>wP h (ah h 2 ou) λv130 c3 h=>wR h (aw h v130) v130 λv131 c4 h=>wP h (aB h v131) λgG c5 h=>wsp gG λgG=>wB gG (aB h v0) h λpo c6 h=>wB gG (aq h po) h λpr c7 h=>B5 cl v0 v3 v127 gG pr h k
def Bt(cl:CL)(v5 v164 yn:AV)(h:AH)(k:NT):=wk (ah h 2 yn) λtd h=>wk (kSt h 1 td v164) λ_ h=>k [v5] h
def Cx(cl:CL)(v0 v5:AV)(h:AH)(k:NT):=wk (aq h v0) λv157 h=>wk (ah h 2 v157) λuh h=>wk (aw h uh) λv159 h=>wsp v159 λv160=>wg (gdv false v160) (λk=>k v5 h) h λx8 h=>wg (gdv false v160) (λk=>ax cl (F 117) [x8] h k) h λv162 h=>gB v160 (kUn h .not v162) h λxX h=>wk (aG h v160 (.bool true) xX) λv164 h=>wk (aq h v0) λyn h=>Bt cl v5 v164 yn h k
def Kd(cl:CL)(v5:AV)(h:AH)(Q:QT):=Q v5 h
def Lp(cl:CL)(v0 v154:AV)(h:AH)(Q:QT):=aI (Cx cl v0 v154 h) λvs h=>Kd cl (ai vs 0) h Q
def JQ(cl:CL)(v0 v3:AV)(h:AH)(Q:QT):=wk (aq h v0) λCP h=>wk (ah h 1 CP) λv148 h=>wk (aw h v148) λug h=>wk (ae h .add ug (I 1)) λuj h=>wk (aq h v0) λCU h=>wk (ah h 1 CU) λv152 h=>wk (kSt h 1 v152 uj) λ_ h=>wk (kX h .b2s [v3]) λv154 h=>Lp cl v0 v154 h Q
def Aj(cl:CL)(v0 v3:AV)(h:AH)(Q:QT):=aI (Bx cl v0 v3 h) λvs h=>JQ cl (ai vs 0) (ai vs 1) h Q
def Lu(cl:CL)(x:AX)(v0 v3:AV)(h:AH)(Q:QT):=xs x (Aj cl v0 v3 h Q) (λj=>cond (Nat.beq j 0) (Aj cl v0 v3 h Q) (False)) (Q (.undef) h)
def Bm(cl:CL)(v0 v27:AV)(h:AH)(Q:QT):=wif v27 (wk (aq h v0) λv29 h=>wk (ah h 2 v29) λv30 h=>wk (kSt h 1 v30 (.bool true)) λ_ h=>Q ((.str [])) h) (wk (aq h v0) λv32 h=>wk (ah h 1 v32) λv33 h=>wk (aw h v33) λv34 h=>wk (ae h .add v34 (I 1)) λv35 h=>wk (aq h v0) λv36 h=>wk (ah h 1 v36) λv37 h=>wk (kSt h 1 v37 v35) λ_ h=>b9 (λvs h k=>Kg cl (ai vs 0) (ai vs 1) h k) [v0,(.aa)] h λx vs h=>Lu cl x (ai vs 0) (ai vs 1) h Q)
def g88(cl:CL)(v0:AV)(h:AH)(Q:QT):=aI (GZ cl v0 h) λvs h=>Bm cl (ai vs 0) (ai vs 1) h Q
theorem C88{cl}(hcl:bt prog cl){v0 h Q}(hg:g88 cl v0 h Q):aJ prog 88 [v0] h Q:=bI hcl [(1,.jn [0,27]),(8,.l [0,3] [0,3]),(9,.jn [0,3,59]),(13,.jn [0,3,4,90]),(14,.jn [0,3,4]),(20,.jn [0,3,4,114]),(28,.jn [0,3]),(31,.jn [5])] func88 (by kernel_rfl) (by kernel_rfl) hg
def g53(cl:CL)(v0:AV)(h:AH)(Q:QT):=ax cl (F 47) [v0] h λv4 h=>ax cl (F 88) [v0] h λv6 h=>Q v6 h
theorem C53{cl}(hcl:bt prog cl){v0 h Q}(hg:g53 cl v0 h Q):aJ prog 53 [v0] h Q:=bI hcl [] func53 (by kernel_rfl) (by kernel_rfl) hg
def FY(cl:CL)(v0 v1 v18 v36:AV)(h:AH)(k:NT):=wP h (aG h v18 (.bool true) v36) λv37 c32 h=>k [v0,v1,v37] h
def Gc(cl:CL)(v0 v1 v18 v22 v26 v28:AV)(h:AH)(k:NT):=wB v18 (ah h 1 v28) h λv29 c24 h=>wD v18 (aw h v29) v29 h λv30 c25 h=>wB v18 (aB h v1) h λv31 c26 h=>wB v18 (cL h v31) h λv32 c27 h=>wB v18 (ae h .add v30 v32) h λv33 c28 h=>wB v18 (gI h v22 (some v26) (some v33)) h λv34 c29 h=>wB v18 (aB h v1) h λv35 c30 h=>wB v18 (ae h .neq v34 v35) h λv36 c31 h=>FY cl v0 v1 v18 v36 h k
def EZ(cl:CL)(v0 v1 v18 v20:AV)(h:AH)(k:NT):=wB v18 (ah h 0 v20) h λv21 c16 h=>wD v18 (aw h v21) v21 h λv22 c17 h=>wB v18 (aB h v0) h λv23 c18 h=>wB v18 (aq h v23) h λv24 c19 h=>wB v18 (ah h 1 v24) h λv25 c20 h=>wD v18 (aw h v25) v25 h λv26 c21 h=>wB v18 (aB h v0) h λv27 c22 h=>wB v18 (aq h v27) h λv28 c23 h=>Gc cl v0 v1 v18 v22 v26 v28 h k
def G1(cl:CL)(v0 v1 v9 v12:AV)(h:AH)(k:NT):=wR h (aw h v12) v12 λv13 c8 h=>wP h (ae h .sub v9 v13) λv14 c9 h=>wP h (aB h v1) λv15 c10 h=>wP h (cL h v15) λv16 c11 h=>wP h (ae h .lss v14 v16) λv17 c12 h=>wP h (aB h v17) λv18 c13 h=>wsp v18 λv18=>wB v18 (aB h v0) h λv19 c14 h=>wB v18 (aq h v19) h λv20 c15 h=>EZ cl v0 v1 v18 v20 h k
def G9(cl:CL)(v0 v1:AV)(h:AH)(k:NT):=wdr h 33 λr h=>wP h (aB h v0) λv5 c0 h=>wP h (aq h v5) λv6 c1 h=>wP h (ah h 0 v6) λv7 c2 h=>wR h (aw h v7) v7 λv8 c3 h=>wP h (cL h v8) λv9 c4 h=>wP h (aB h v0) λv10 c5 h=>wP h (aq h v10) λv11 c6 h=>wP h (ah h 1 v11) λv12 c7 h=>G1 cl v0 v1 v9 v12 h k
def Qu(cl:CL)(h:AH)(Q:QT):=Q ((.bool true)) h
def Hw(cl:CL)(v0 v1 v37:AV)(h:AH)(Q:QT):=wif v37 (Q ((.bool false)) h) (wk (aq h v0) λv39 h=>wk (ah h 1 v39) λv40 h=>wk (aw h v40) λv41 h=>wk (cL h v1) λv43 h=>wk (ae h .add v41 v43) λv44 h=>wk (aq h v0) λv45 h=>wk (ah h 1 v45) λv46 h=>wk (kSt h 1 v46 v44) λ_ h=>Qu cl h Q)
def g87(cl:CL)(v0 v1:AV)(h:AH)(Q:QT):=aI (G9 cl v0 v1 h) λvs h=>Hw cl (ai vs 0) (ai vs 1) (ai vs 2) h Q
theorem C87{cl}(hcl:bt prog cl){v0 v1 h Q}(hg:g87 cl v0 v1 h Q):aJ prog 87 [v0,v1] h Q:=bI hcl [(1,.jn [0,1,37])] func87 (by kernel_rfl) (by kernel_rfl) hg
def HX(cl:CL)(v0 v1 v4 v33 v37 v38:AV)(h:AH)(k:NT):=wA v33 (aq h v38) h λv39 c16 h=>wA v33 (ah h 1 v39) h λv40 c17 h=>wC v33 (aw h v40) v40 h λv41 c18 h=>wA v33 (dH h v37 v41) h λv42 c19 h=>wA v33 (ae h .eql v42 (.int .u8 34)) h λv43 c20 h=>wP h (aG h v33 v43 (.bool false)) λv44 c21 h=>wP h (aB h v44) λv22 c22 h=>k [v0,v1,v4,v22] h
def FD(cl:CL)(v0 v1 v4 v26 v30:AV)(h:AH)(k:NT):=wP h (cL h v30) λv31 c8 h=>wP h (ae h .lss v26 v31) λv32 c9 h=>wP h (aB h v32) λv33 c10 h=>wsp v33 λv33=>wA v33 (aB h v0) h λv34 c11 h=>wA v33 (aq h v34) h λv35 c12 h=>wA v33 (ah h 0 v35) h λv36 c13 h=>wC v33 (aw h v36) v36 h λv37 c14 h=>wA v33 (aB h v0) h λv38 c15 h=>HX cl v0 v1 v4 v33 v37 v38 h k
def HZ(cl:CL)(v0 v1 v4:AV)(h:AH)(k:NT):=wdr h 23 λr h=>wP h (aB h v0) λv23 c0 h=>wP h (aq h v23) λv24 c1 h=>wP h (ah h 1 v24) λv25 c2 h=>wR h (aw h v25) v25 λv26 c3 h=>wP h (aB h v0) λv27 c4 h=>wP h (aq h v27) λv28 c5 h=>wP h (ah h 0 v28) λv29 c6 h=>wR h (aw h v29) v29 λv30 c7 h=>FD cl v0 v1 v4 v26 v30 h k
def HJ(cl:CL)(v0 v1 v4 v59 v61:AV)(h:AH)(k:NT):=wk (kSt h 1 v61 v59) λ_ h=>k [v0,v1,v4] h
def zY(cl:CL)(v0 v1 v4:AV)(h:AH)(k:NT):=wk (aq h v0) λv53 h=>wk (ah h 2 v53) λv54 h=>wk (aw h v54) λv55 h=>wsp v55 λv56=>wg (gdv false v56) (λk=>k v1 h) h λv57 h=>gB v56 (ae h .gtr v57 (I 16)) h λv58 h=>wk (aG h v56 (.bool true) v58) λv59 h=>wk (aq h v0) λv60 h=>wk (ah h 2 v60) λv61 h=>HJ cl v0 v1 v4 v59 v61 h k
def HD(cl:CL)(v0 v1 v4 v5:AV)(h:AH)(k:NT):=wk (aq h v0) λv64 h=>wk (ah h 2 v64) λv65 h=>wk (aw h v65) λv66 h=>wk (kUn h .not v66) λv67 h=>wsp v67 λv68=>wg (gdv true v68) (λk=>k v0 h) h λv69 h=>wg (gdv true v68) (λk=>ax cl (F 87) [v69,.str [93]] h k) h λv70 h=>gA v68 (kUn h .not v70) h λv71 h=>wk (aG h v68 v71 (.bool false)) λv72 h=>k [v0,v1,v4,v5,v72] h
def E3(cl:CL)(v0 v1 v4 v5 v76:AV)(h:AH)(k:NT):=wif v76 (ax cl (F 47) [v0] h λv78 h=>k [v0,v1,v4,v5] h) (k [v0,v1,v4,v5] h)
def Pv(cl:CL)(c1 c5 c6:Rec)(v0 v1 v4 v5 v86:AV)(h:AH)(k:KT):=wP h (ah h 3 v5) λv87 c8 h=>wde h (kSt h 1 v87 v86) λ_ c9 h=>aU c1 c5=true/\aU c1 c6=true/\k .nrm [v0,v1,v4,v5] [v4,v5] h
def TB(cl:CL)(v0 v1 v4 v5:AV)(h:AH)(k:KT):=wdr h 10 λr h=>wP h (ah h 3 v5) λv79 c0 h=>wR h (aw h v79) v79 λv80 c1 h=>wP h (aB h v0) λv81 c2 h=>wP h (aB h v1) λv82 c3 h=>wP h (ae h .add v82 (I 1)) λv83 c4 h=>wdc cl (F 52) [v81,v83] h λv84 c5 h=>wda (r+6) h (dC 4 1 [I 0,I 0,.str [],.aa] [(0,4,v84)]) λv85 c6 h=>wde h (dK h 4 56 v80 v85) λv86 c7 h=>Pv cl c1 c5 c6 v0 v1 v4 v5 v86 h k
def H8(cl:CL)(v0 v1 v4 v5 v72:AV)(h:AH)(k:KT):=wif v72 (wk (ah h 3 v5) λv73 h=>wk (aw h v73) λv74 h=>wk (bh h v74) λv75 h=>wk (ae h .gtr v75 (I 0)) λv76 h=>aI (E3 cl v0 v1 v4 v5 v76 h) λvs h=>TB cl (ai vs 0) (ai vs 1) (ai vs 2) (ai vs 3) h k) (k (.exit 1) [v0,v1,v4,v5] [v4,v5] h)
def RX(cl:CL)(v0 v1 v4 v5:AV)(h:AH)(k:KT):=aI (HD cl v0 v1 v4 v5 h) λvs h=>H8 cl (ai vs 0) (ai vs 1) (ai vs 2) (ai vs 3) (ai vs 4) h k
def Gi(cl:CL)(v4 v5:AV)(h:AH)(Q:QT):=wk (bj h 4 v5) λv88 h=>wk (kSt h 4 v4 v88) λ_ h=>bP (a8 h [.cell v4 (some 4)]) h Q
def SY(cl:CL)(x:AX)(v4 v5:AV)(h:AH)(Q:QT):=xs x (Gi cl v4 v5 h Q) (λj=>cond (Nat.beq j 1) (Gi cl v4 v5 h Q) (cond (Nat.beq j 0) (wk (aO h [I 0,I 0,.str [],.aa] []) λv89 h=>wk (kSt h 4 v4 v89) λ_ h=>bP (a8 h [.cell v4 (some 4)]) h Q) (False))) (bP (a8 h [.cell v4 (some 4)]) h Q)
def uN(cl:CL)(v0 v1 v4:AV)(h:AH)(Q:QT):=wk (aO h [I 0,I 0,.str [],.aa] [(0,1,(I 4))]) λv62 h=>wk (cU h [I 0,I 0,.str [],.aa]) λv5 h=>wk (kSt h 4 v5 v62) λ_ h=>b9 (λvs h k=>RX cl (ai vs 0) (ai vs 1) (ai vs 2) (ai vs 3) h k) [v0,v1,v4,v5] h λx vs h=>SY cl x (ai vs 0) (ai vs 1) h Q
def z7(cl:CL)(v0 v1 v4 v22:AV)(h:AH)(Q:QT):=wif v22 (ax cl (F 88) [v0] h λv46 h=>wk (aO h [I 0,I 0,.str [],.aa] [(0,1,(I 3)),(2,1,v46)]) λv47 h=>wk (kSt h 4 v4 v47) λ_ h=>bP (a8 h [.cell v4 (some 4)]) h Q) (ax cl (F 87) [v0,.str [91]] h λv50 h=>wif v50 (aI (zY cl v0 v1 v4 h) λvs h=>uN cl (ai vs 0) (ai vs 1) (ai vs 2) h Q) (ax cl (F 85) [v0] h λv7 h=>wk (aO h [I 0,I 0,.str [],.aa] [(0,1,(I 1)),(1,1,v7)]) λv8 h=>wk (kSt h 4 v4 v8) λ_ h=>bP (a8 h [.cell v4 (some 4)]) h Q))
def g52(cl:CL)(v0 v1:AV)(h:AH)(Q:QT):=wk (cU h [I 0,I 0,.str [],.aa]) λv4 h=>wk (aq h v0) λv11 h=>wk (ah h 2 v11) λv12 h=>wk (aw h v12) λv13 h=>wif v13 (wk (aO h [I 0,I 0,.str [],.aa] []) λv89 h=>wk (kSt h 4 v4 v89) λ_ h=>bP (a8 h [.cell v4 (some 4)]) h Q) (ax cl (F 87) [v0,.str [116,114,117,101]] h λv16 h=>wif v16 (wk (aO h [I 0,I 0,.str [],.aa] [(0,1,(I 2)),(1,1,(I 1))]) λv17 h=>wk (kSt h 4 v4 v17) λ_ h=>bP (a8 h [.cell v4 (some 4)]) h Q) (ax cl (F 87) [v0,.str [102,97,108,115,101]] h λv20 h=>wif v20 (wk (aO h [I 0,I 0,.str [],.aa] [(0,1,(I 2))]) λv21 h=>wk (kSt h 4 v4 v21) λ_ h=>bP (a8 h [.cell v4 (some 4)]) h Q) (aI (HZ cl v0 v1 v4 h) λvs h=>z7 cl (ai vs 0) (ai vs 1) (ai vs 2) (ai vs 3) h Q)))
theorem C52{cl}(hcl:bt prog cl){v0 v1 h Q}(hg:g52 cl v0 v1 h Q):aJ prog 52 [v0,v1] h Q:=bI hcl [(10,.jn [0,1,4,22]),(15,.jn [0,1,4]),(18,.l [0,1,4,5] [4,5]),(19,.jn [0,1,4,5,72]),(23,.jn [0,1,4,5])] func52 (by kernel_rfl) (by kernel_rfl) hg
def FZ(cl:CL)(v0 v1 v5:AV)(h:AH)(k:NT):=wk (aF h 1 v0 v5) λv14 h=>wk (aw h v14) λv15 h=>wk (ae h .eql v15 v1) λv17 h=>wsp v17 λv18=>wg (gdv true v18) (λk=>k v1 h) h λv19 h=>gA v18 (ae h .neq v19 (.str [])) h λv20 h=>wk (aG h v18 v20 (.bool false)) λv21 h=>k [v0,v1,v5,v21] h
def FW(cl:CL)(v0 v1 v5 v21:AV)(h:AH)(k:KT):=wif v21 (k .ret [v0,v1,v5] [v5] h) (wk (ae h .add v5 (I 1)) λv11 h=>k .nrm [v0,v1,v11] [.undef] h)
def H0(cl:CL)(v0 v1 v5:AV)(h:AH)(k:KT):=wk (bh h v0) λv8 h=>wk (ae h .lss v5 v8) λv9 h=>wif v9 (aI (FZ cl v0 v1 v5 h) λvs h=>FW cl (ai vs 0) (ai vs 1) (ai vs 2) (ai vs 3) h k) (k (.exit 0) [v0,v1,v5] [.undef] h)
def Fy(cl:CL)(h:AH)(Q:QT):=Q ((I (-1))) h
def Ht(cl:CL)(x:AX)(v4:AV)(h:AH)(Q:QT):=xs x (Fy cl h Q) (λj=>cond (Nat.beq j 0) (Fy cl h Q) (False)) (Q v4 h)
def g48(cl:CL)(v0 v1:AV)(h:AH)(Q:QT):=b9 (λvs h k=>H0 cl (ai vs 0) (ai vs 1) (ai vs 2) h k) [v0,v1,I 0] h λx vs h=>Ht cl x (ai vs 0) h Q
theorem C48{cl}(hcl:bt prog cl){v0 v1 h Q}(hg:g48 cl v0 v1 h Q):aJ prog 48 [v0,v1] h Q:=bI hcl [(3,.l [0,1,5] [4]),(7,.jn [0,1,5,21])] func48 (by kernel_rfl) (by kernel_rfl) hg
def g39(cl:CL)(h:AH)(Q:QT):=wk (aQ h 1 7 [.str [],.str [],.str [],.str [],.str [],.str [],.str []] [(0,1,(.str [])),(1,1,(.str [100,111,119,110])),(2,1,(.str [109,111,118,101])),(3,1,(.str [117,112])),(4,1,(.str [99,97,110,99,101,108])),(5,1,(.str [116,105,99,107])),(6,1,(.str [119,104,101,101,108]))]) λv1 h=>Q v1 h
theorem C39{cl}(hcl:bt prog cl){h Q}(hg:g39 cl h Q):aJ prog 39 [] h Q:=bI hcl [] func39 (by kernel_rfl) (by kernel_rfl) hg
def g44(cl:CL)(h:AH)(Q:QT):=wk (aQ h 1 9 [.str [],.str [],.str [],.str [],.str [],.str [],.str [],.str [],.str []] [(0,1,(.str [112,114,101,115,115])),(1,1,(.str [102,111,99,117,115])),(2,1,(.str [105,110,99,114,101,97,115,101])),(3,1,(.str [100,101,99,114,101,97,115,101])),(4,1,(.str [115,101,116,116,101,120,116])),(5,1,(.str [115,101,108,101,99,116])),(6,1,(.str [115,99,114,111,108,108,117,112])),(7,1,(.str [115,99,114,111,108,108,100,111,119,110])),(8,1,(.str [100,105,115,109,105,115,115]))]) λv1 h=>Q v1 h
theorem C44{cl}(hcl:bt prog cl){h Q}(hg:g44 cl h Q):aJ prog 44 [] h Q:=bI hcl [] func44 (by kernel_rfl) (by kernel_rfl) hg
def P8(cl:CL)(v27 v29:AV)(h:AH)(Q:QT):=wk (kX h .s2r [v29]) λv30 h=>wk (aq h v27) λv31 h=>wk (ah h 1 v31) λv32 h=>wk (kSt h 1 v32 v30) λ_ h=>Q (.tup []) h
def Qs(cl:CL)(v0 v1:AV)(h:AH)(Q:QT):=ax cl (F 53) [v0] h λv29 h=>P8 cl v1 v29 h Q
def Ix(cl:CL)(v0 v1:AV)(h:AH)(k:NT):=wk (aq h v0) λv50 h=>wk (ah h 2 v50) λv51 h=>wk (aw h v51) λv52 h=>wk (kUn h .not v52) λv53 h=>wsp v53 λv54=>wg (gdv true v54) (λk=>k v0 h) h λv55 h=>wg (gdv true v54) (λk=>ax cl (F 51) [v55] h k) h λv56 h=>gA v54 (kUn h .not v56) h λv57 h=>wk (aG h v54 v57 (.bool false)) λv58 h=>k [v0,v1,v58] h
def PO(cl:CL)(v0 v1 v61 v65 v72:AV)(h:AH)(k:KT):=wk (aQ h 2 1 [I 0,.bool false] [(0,2,v72)]) λv73 h=>wk (dK h 2 16 v65 v73) λv74 h=>wk (aq h v61) λv75 h=>wk (ah h 13 v75) λv76 h=>wk (kSt h 1 v76 v74) λ_ h=>k .nrm [v0,v1] [] h
def Ge(cl:CL)(v0 v1 v58:AV)(h:AH)(k:KT):=wif v58 (ax cl (F 49) [v0] h λv60 h=>wk (aq h v1) λv63 h=>wk (ah h 13 v63) λv64 h=>wk (aw h v64) λv65 h=>wk (kUn h .neg v60) λv68 h=>wk (iy h true v60 v68) λv69 h=>wk (ae h .lss v60 (I 0)) λv71 h=>wk (aO h [I 0,.bool false] [(0,1,v69),(1,1,v71)]) λv72 h=>PO cl v0 v1 v1 v65 v72 h k) (k (.exit 1) [v0,v1] [] h)
def OH(cl:CL)(v0 v1:AV)(h:AH)(k:KT):=aI (Ix cl v0 v1 h) λvs h=>Ge cl (ai vs 0) (ai vs 1) (ai vs 2) h k
def H2(cl:CL)(h:AH)(Q:QT):=Q (.tup []) h
def TF(cl:CL)(x:AX)(h:AH)(Q:QT):=xs x (H2 cl h Q) (λj=>cond (Nat.beq j 1) (H2 cl h Q) (cond (Nat.beq j 0) (Q (.tup []) h) (False))) (Q (.tup []) h)
def OU(cl:CL)(v0 v1 v44 v46:AV)(h:AH)(Q:QT):=wk (aq h v44) λv47 h=>wk (ah h 12 v47) λv48 h=>wk (kSt h 1 v48 v46) λ_ h=>b9 (λvs h k=>OH cl (ai vs 0) (ai vs 1) h k) [v0,v1] h λx vs h=>TF cl x h Q
def Rf(cl:CL)(v0 v1 v38 v40:AV)(h:AH)(Q:QT):=wk (kX h .s2r [v40]) λv41 h=>wk (aq h v38) λv42 h=>wk (ah h 1 v42) λv43 h=>wk (kSt h 1 v43 v41) λ_ h=>ax cl (F 49) [v0] h λv46 h=>OU cl v0 v1 v1 v46 h Q
def Se(cl:CL)(v0 v1 v37:AV)(h:AH)(Q:QT):=wk (kSt h 1 v37 (I 15)) λ_ h=>ax cl (F 53) [v0] h λv40 h=>Rf cl v0 v1 v1 v40 h Q
def SA(cl:CL)(v11:AV)(h:AH)(Q:QT):=wk (kSt h 1 v11 (.bool true)) λ_ h=>Q (.tup []) h
def g54(cl:CL)(v0 v1:AV)(h:AH)(Q:QT):=ax cl (F 47) [v0] h λv6 h=>ax cl (F 46) [v0] h λv8 h=>wk (ae h .eql v8 (.str [98,101,103,105,110])) λv13 h=>wif v13 (wk (aq h v1) λv15 h=>wk (ah h 0 v15) λv16 h=>wk (kSt h 1 v16 (I 14)) λ_ h=>Q (.tup []) h) (wk (ae h .eql v8 (.str [99,97,110,99,101,108])) λv18 h=>wif v18 (wk (aq h v1) λv20 h=>wk (ah h 0 v20) λv21 h=>wk (kSt h 1 v21 (I 17)) λ_ h=>Q (.tup []) h) (wk (ae h .eql v8 (.str [99,111,109,109,105,116])) λv23 h=>wif v23 (wk (aq h v1) λv25 h=>wk (ah h 0 v25) λv26 h=>wk (kSt h 1 v26 (I 16)) λ_ h=>Qs cl v0 v1 h Q) (wk (ae h .eql v8 (.str [117,112,100,97,116,101])) λv34 h=>wif v34 (wk (aq h v1) λv36 h=>wk (ah h 0 v36) λv37 h=>Se cl v0 v1 v37 h Q) (wk (aq h v0) λv10 h=>wk (ah h 2 v10) λv11 h=>SA cl v11 h Q))))
theorem C54{cl}(hcl:bt prog cl){v0 v1 h Q}(hg:g54 cl v0 v1 h Q):aJ prog 54 [v0,v1] h Q:=bI hcl [(19,.l [0,1] []),(20,.jn [0,1,58])] func54 (by kernel_rfl) (by kernel_rfl) hg
def Gr(cl:CL)(v2 v4 v5 v6 v38 v40:AV)(h:AH)(k:NT):=wk (kSt h 1 v40 v38) λ_ h=>k [v2,v4,v5,v6] h
def F5(cl:CL)(v2 v4 v5 v6:AV)(h:AH)(k:NT):=wk (aq h v4) λv32 h=>wk (ah h 2 v32) λv33 h=>wk (aw h v33) λv34 h=>wsp v34 λv35=>wg (gdv false v35) (λk=>k v6 h) h λv36 h=>gB v35 (ae h .lss v36 (I 0)) h λv37 h=>wk (aG h v35 (.bool true) v37) λv38 h=>wk (aq h v4) λv39 h=>wk (ah h 2 v39) λv40 h=>Gr cl v2 v4 v5 v6 v38 v40 h k
def P2(cl:CL)(v2 v4 v5 v59:AV)(h:AH)(k:NT):=wk (ah h 1 v5) λv60 h=>wk (ah h 5 v60) λv61 h=>wk (kSt h 1 v61 v59) λ_ h=>k [v2,v4,v5] h
def RE(cl:CL)(v2 v4 v5 v55:AV)(h:AH)(k:NT):=wk (ah h 1 v5) λv56 h=>wk (ah h 4 v56) λv57 h=>wk (kSt h 1 v57 v55) λ_ h=>ax cl (F 49) [v4] h λv59 h=>P2 cl v2 v4 v5 v59 h k
def ON(cl:CL)(v2 v4 v5 v51:AV)(h:AH)(k:NT):=wk (ah h 1 v5) λv52 h=>wk (ah h 3 v52) λv53 h=>wk (kSt h 1 v53 v51) λ_ h=>ax cl (F 49) [v4] h λv55 h=>RE cl v2 v4 v5 v55 h k
def Tc(cl:CL)(v2 v4 v5 v47:AV)(h:AH)(k:NT):=wk (ah h 1 v5) λv48 h=>wk (ah h 2 v48) λv49 h=>wk (kSt h 1 v49 v47) λ_ h=>ax cl (F 49) [v4] h λv51 h=>ON cl v2 v4 v5 v51 h k
def SE(cl:CL)(v2 v4 v5 v41 v43:AV)(h:AH)(k:NT):=wk (aO h [I 0,I 0,I 0,I 0,I 0,I 0] [(0,1,v41),(1,1,v43)]) λv44 h=>wk (ah h 1 v5) λv45 h=>wk (kSt h 6 v45 v44) λ_ h=>ax cl (F 49) [v4] h λv47 h=>Tc cl v2 v4 v5 v47 h k
def Q_(cl:CL)(v2 v4 v5 v6:AV)(h:AH)(k:NT):=ax cl (F 49) [v4] h λv43 h=>SE cl v2 v4 v5 v6 v43 h k
def OQ(cl:CL)(v2 v4 v5 v26:AV)(h:AH)(k:NT):=ax cl (F 46) [v4] h λv28 h=>ax cl (F 48) [v26,v28] h λv29 h=>aI (F5 cl v2 v4 v5 v29 h) λvs h=>Q_ cl (ai vs 0) (ai vs 1) (ai vs 2) (ai vs 3) h k
def Am(cl:CL)(v2 v4 v5 v7 v73 v82 v84:AV)(h:AH)(k:NT):=gB v82 (ae h .neq v84 (I 1)) h λv85 h=>wk (aG h v82 (.bool true) v85) λv86 h=>wk (aq h v73) λv87 h=>wk (ah h 2 v87) λv88 h=>wk (kSt h 1 v88 v86) λ_ h=>k [v2,v4,v5,v7] h
def Ag(cl:CL)(v2 v4 v5 v7 v8:AV)(h:AH)(k:NT):=wk (aq h v4) λv75 h=>wk (ah h 2 v75) λv76 h=>wk (aw h v76) λv77 h=>wsp v77 λv78=>wg (gdv false v78) (λk=>k v8 h) h λv79 h=>gB v78 (ae h .neq v79 (I 0)) h λv80 h=>wk (aG h v78 (.bool true) v80) λv81 h=>wsp v81 λv82=>wg (gdv false v82) (λk=>k v7 h) h λv83 h=>gB v82 (bh h v83) h λv84 h=>Am cl v2 v4 v5 v7 v4 v82 v84 h k
def Hr(cl:CL)(v2 v4 v5 v7 v93:AV)(h:AH)(k:NT):=wif v93 (wk (aF h 2 v7 (I 0)) λv95 h=>wk (bj h 2 v95) λv96 h=>wk (ah h 7 v5) λv97 h=>wk (kSt h 2 v97 v96) λ_ h=>k [v2,v4,v5] h) (k [v2,v4,v5] h)
def Ub(cl:CL)(v2 v4 v5:AV)(h:AH)(k:NT):=ax cl (F 49) [v4] h λv99 h=>wk (ah h 9 v5) λgF h=>wk (kSt h 1 gF v99) λ_ h=>k [v2,v4,v5] h
def SJ(cl:CL)(v2 v4 v5 v7:AV)(h:AH)(k:NT):=wk (aq h v4) λv90 h=>wk (ah h 2 v90) λv91 h=>wk (aw h v91) λv92 h=>wk (kUn h .not v92) λv93 h=>aI (Hr cl v2 v4 v5 v7 v93 h) λvs h=>Ub cl (ai vs 0) (ai vs 1) (ai vs 2) h k
def Rc(cl:CL)(v2 v4 v5 v70:AV)(h:AH)(k:NT):=wk (cm h v70 0) λv71 h=>wk (cm h v70 1) λv72 h=>aI (Ag cl v2 v4 v5 v71 v72 h) λvs h=>SJ cl (ai vs 0) (ai vs 1) (ai vs 2) (ai vs 3) h k
def LS(cl:CL)(v2 v4 v5 v69:AV)(h:AH)(k:NT):=ax cl (F 50) [v69] h λv70 h=>Rc cl v2 v4 v5 v70 h k
def Kn(cl:CL)(v2 v4 v5 pX:AV)(h:AH)(k:NT):=wk (ah h 10 v5) λjC h=>wk (ah h 1 jC) λv117 h=>wk (kSt h 1 v117 pX) λ_ h=>k [v2,v4,v5] h
def JW(cl:CL)(v2 v4 v5 gp:AV)(h:AH)(k:NT):=wk (ah h 10 v5) λjD h=>wk (ah h 0 jD) λlx h=>wk (kSt h 1 lx gp) λ_ h=>ax cl (F 49) [v4] h λpX h=>Kn cl v2 v4 v5 pX h k
def la(cl:CL)(v2 v4 v5 r9 v148 v154:AV)(h:AH)(k:NT):=wk (aG h v148 (.bool true) v154) λEP h=>wk (aq h r9) λEJ h=>wk (ah h 2 EJ) λv157 h=>wk (kSt h 1 v157 EP) λ_ h=>k [v2,v4,v5] h
def kZ(cl:CL)(v2 v4 v5 v10 r9 pW v143 v145:AV)(h:AH)(k:NT):=gB pW (aG h v143 v145 (.bool false)) h λv146 h=>wk (aG h pW (.bool true) v146) λCP h=>wsp CP λv148=>wg (gdv false v148) (λk=>k v10 h) h λug h=>gB v148 (ae h .neq ug (.str [104,105,103,104])) h λuj h=>wg (gdv false v148) (λk=>k uj h) h λCU h=>wsp CU λCU=>wg (gdv true CU) (λk=>k v10 h) h λv152 h=>gA CU (ae h .neq v152 (.str [110,111,114,109,97,108])) h λI8 h=>gB v148 (aG h CU I8 (.bool false)) h λv154 h=>la cl v2 v4 v5 r9 v148 v154 h k
def nC(cl:CL)(v2 v4 v5 v9 v10:AV)(h:AH)(k:NT):=wk (aq h v4) λmh h=>wk (ah h 2 mh) λv138 h=>wk (aw h v138) λv139 h=>wsp v139 λpW=>wg (gdv false pW) (λk=>k v9 h) h λv141 h=>gB pW (ae h .neq v141 (.str [100,97,114,107])) h λxT h=>wg (gdv false pW) (λk=>k xT h) h λv143 h=>wsp v143 λv143=>wg (gdv true v143) (λk=>k v9 h) h λxQ h=>gA v143 (ae h .neq xQ (.str [108,105,103,104,116])) h λv145 h=>kZ cl v2 v4 v5 v10 v4 pW v143 v145 h k
def Jw(cl:CL)(v2 v4 v5 v159:AV)(h:AH)(k:NT):=wk (ah h 12 v5) λv160 h=>wk (ah h 2 v160) λx8 h=>wk (kSt h 1 x8 v159) λ_ h=>k [v2,v4,v5] h
def S6(cl:CL)(v2 v4 v5:AV)(h:AH)(k:NT):=ax cl (F 49) [v4] h λv159 h=>Jw cl v2 v4 v5 v159 h k
def Js(cl:CL)(v2 v4 v5:AV)(h:AH)(k:NT):=ax cl (F 46) [v4] h λv124 h=>ax cl (F 47) [v4] h λoq h=>ax cl (F 46) [v4] h λnh h=>wk (ae h .eql v124 (.str [100,97,114,107])) λv130 h=>wk (ae h .eql nh (.str [104,105,103,104])) λgG h=>wk (aO h [.bool false,.bool false,I 0] [(0,1,v130),(1,1,gG)]) λpo h=>wk (ah h 12 v5) λpr h=>wk (kSt h 3 pr po) λ_ h=>aI (nC cl v2 v4 v5 v124 nh h) λvs h=>S6 cl (ai vs 0) (ai vs 1) (ai vs 2) h k
def FN(cl:CL)(v2 v4 v5:AV)(h:AH)(k:NT):=wk (aq h v4) λtd h=>wk (ah h 2 td) λv167 h=>wk (aw h v167) λv168 h=>wk (kUn h .not v168) λxN h=>wsp xN λtf=>wg (gdv true tf) (λk=>k v4 h) h λv171 h=>wg (gdv true tf) (λk=>ax cl (F 51) [v171] h k) h λEO h=>gA tf (kUn h .not EO) h λv173 h=>wk (aG h tf v173 (.bool false)) λqO h=>k [v2,v4,v5,qO] h
def Bh(cl:CL)(v2 v4 v5 v11 UU U9:AV)(h:AH)(k:NT):=wk (ah h 2 U9) λacb h=>wk (kSt h 1 acb UU) λ_ h=>k [v2,v4,v5,v11] h
def A3(cl:CL)(v2 v4 v5 v11:AV)(h:AH)(k:NT):=wk (aq h v4) λJi h=>wk (ah h 2 Ji) λv182 h=>wk (aw h v182) λv183 h=>wsp v183 λNZ=>gB NZ (bj h 4 v11) h λI_ h=>wg (gdv false NZ) (λk=>ax cl (F 42) [I_] h k) h λajV h=>gB NZ (ae h .neq ajV (I 0)) h λUQ h=>wk (aG h NZ (.bool true) UQ) λUU h=>wk (aq h v4) λU9 h=>Bh cl v2 v4 v5 v11 UU U9 h k
def K7(cl:CL)(c1 c2 c4:Rec)(v2 v4 v5 v193 v196 NY v198:AV)(h:AH)(k:KT):=(wde h (kSt h 4 NY v193) λ_ c8 h=>wde h (kSt h 1 v198 v196) λ_ c9 h=>aU c1 c4=true/\aU c2 c4=true/\k .nrm [v2,v4,v5] [v2,v4,v5] h) /\(wde h (kSt h 1 v198 v196) λ_ c8 h=>wde h (kSt h 4 NY v193) λ_ c9 h=>aU c1 c4=true/\aU c2 c4=true/\k .nrm [v2,v4,v5] [v2,v4,v5] h)
def LG(cl:CL)(v2 v4 v5 v11:AV)(h:AH)(k:KT):=wdr h 10 λr h=>wP h (ah h 15 v5) λN6 c0 h=>wR h (aw h N6) N6 λXt c1 h=>wR h (bj h 4 v11) v11 λv193 c2 h=>wP h (bh h Xt) λv194 c3 h=>wda (r+4) h (dC 4 1 [I 0,I 0,.str [],.aa] [(0,4,(.agg [I 0,I 0,.str [],.aa]))]) λabH c4 h=>wde h (dK h 4 56 Xt abH) λv196 c5 h=>wP h (aF h 4 v196 v194) λNY c6 h=>wP h (ah h 15 v5) λv198 c7 h=>K7 cl c1 c2 c4 v2 v4 v5 v193 v196 NY v198 h k
def zL(cl:CL)(v2 v4 v5 qO:AV)(h:AH)(k:KT):=wif qO (ax cl (F 47) [v4] h λUz h=>ax cl (F 52) [v4,I 1] h λUS h=>wk (cU h [I 0,I 0,.str [],.aa]) λv11 h=>wk (kSt h 4 v11 US) λ_ h=>aI (A3 cl v2 v4 v5 v11 h) λvs h=>LG cl (ai vs 0) (ai vs 1) (ai vs 2) (ai vs 3) h k) (k (.exit 1) [v2,v4,v5] [v2,v4,v5] h)
def JA(cl:CL)(v2 v4 v5:AV)(h:AH)(k:KT):=aI (FN cl v2 v4 v5 h) λvs h=>zL cl (ai vs 0) (ai vs 1) (ai vs 2) (ai vs 3) h k
def B1(cl:CL)(v2 v4 v5:AV)(h:AH)(k:NT):=k [v2,v4,v5] h
def Mh(cl:CL)(x:AX)(v2 v4 v5:AV)(h:AH)(k:NT):=xs x (B1 cl v2 v4 v5 h k) (λj=>cond (Nat.beq j 1) (B1 cl v2 v4 v5 h k) (cond (Nat.beq j 0) (k [v2,v4,v5] h) (False))) (False)
def AB(cl:CL)(v2 v4 v5 v12 ab_ v226:AV)(h:AH)(k:NT):=wk (kSt h 1 v226 ab_) λ_ h=>k [v2,v4,v5,v12] h
def BB(cl:CL)(v2 v4 v5 v12:AV)(h:AH)(k:NT):=wk (aq h v4) λv218 h=>wk (ah h 2 v218) λabR h=>wk (aw h abR) λajC h=>wsp ajC λUK=>wg (gdv false UK) (λk=>k v12 h) h λv222 h=>gB UK (ae h .lss v222 (I 0)) h λUR h=>wk (aG h UK (.bool true) UR) λab_ h=>wk (aq h v4) λacw h=>wk (ah h 2 acw) λv226 h=>AB cl v2 v4 v5 v12 ab_ v226 h k
def Ms(cl:CL)(v2 v4 v5 acA:AV)(h:AH)(k:NT):=wk (ah h 16 v5) λajB h=>wk (ah h 5 ajB) λajp h=>wk (kSt h 1 ajp acA) λ_ h=>k [v2,v4,v5] h
def Ls(cl:CL)(v2 v4 v5 abP:AV)(h:AH)(k:NT):=wk (ah h 16 v5) λajO h=>wk (ah h 4 ajO) λajF h=>wk (kSt h 1 ajF abP) λ_ h=>ax cl (F 53) [v4] h λacA h=>Ms cl v2 v4 v5 acA h k
def Kl(cl:CL)(v2 v4 v5 v234:AV)(h:AH)(k:NT):=wk (ah h 16 v5) λaiY h=>wk (ah h 3 aiY) λv236 h=>wk (kSt h 1 v236 v234) λ_ h=>ax cl (F 49) [v4] h λabP h=>Ls cl v2 v4 v5 abP h k
def Ll(cl:CL)(v2 v4 v5 v12:AV)(h:AH)(k:NT):=wk (iy h true v12 (I 0)) λv228 h=>wk (cB h .u64 v228) λv229 h=>wk (ae h .shl (I 1) v229) λXw h=>wk (ah h 16 v5) λajN h=>wk (ah h 2 ajN) λv232 h=>wk (kSt h 1 v232 Xw) λ_ h=>ax cl (F 49) [v4] h λv234 h=>Kl cl v2 v4 v5 v234 h k
def LW(cl:CL)(v2 v4 v5 v212:AV)(h:AH)(k:NT):=ax cl (F 46) [v4] h λVa h=>ax cl (F 48) [v212,Va] h λXH h=>aI (BB cl v2 v4 v5 XH h) λvs h=>Ll cl (ai vs 0) (ai vs 1) (ai vs 2) (ai vs 3) h k
def Ka(cl:CL)(v2 v4 v5 Vb:AV)(h:AH)(k:NT):=wk (ah h 16 v5) λv208 h=>wk (ah h 1 v208) λacr h=>wk (kSt h 1 acr Vb) λ_ h=>ax cl (F 47) [v4] h λagw h=>ax cl (F 44) [] h λv212 h=>LW cl v2 v4 v5 v212 h k
def JU(cl:CL)(v2 v4 v5 v203:AV)(h:AH)(k:NT):=wk (ah h 16 v5) λacy h=>wk (ah h 0 acy) λacu h=>wk (kSt h 1 acu v203) λ_ h=>ax cl (F 49) [v4] h λVb h=>Ka cl v2 v4 v5 Vb h k
def Mp(cl:CL)(v2 v4 v5 v201:AV)(h:AH)(k:NT):=wk (kSt h 1 v201 (I 7)) λ_ h=>ax cl (F 49) [v4] h λv203 h=>JU cl v2 v4 v5 v203 h k
def A4(cl:CL)(v2 v4 v5 abN:AV)(h:AH)(k:NT):=wif abN (wk (ah h 0 v5) λaiZ h=>wk (kSt h 1 aiZ (I 8)) λ_ h=>wk (ah h 22 v5) λaiO h=>ax cl (F 54) [v4,aiO] h λalk h=>k [v2,v4,v5] h) (wk (aq h v4) λv19 h=>wk (ah h 2 v19) λv20 h=>wk (kSt h 1 v20 (.bool true)) λ_ h=>k [v2,v4,v5] h)
def dL(cl:CL)(v2 v4 v5 v17:AV)(h:AH)(k:NT):=wk (ae h .eql v17 (.str [112,111,105,110,116,101,114])) λv22 h=>wif v22 (wk (ah h 0 v5) λv23 h=>wk (kSt h 1 v23 (I 1)) λ_ h=>ax cl (F 47) [v4] h λv25 h=>ax cl (F 39) [] h λv26 h=>OQ cl v2 v4 v5 v26 h k) (wk (ae h .eql v17 (.str [107,101,121])) λv63 h=>wif v63 (wk (ah h 0 v5) λv64 h=>wk (kSt h 1 v64 (I 2)) λ_ h=>ax cl (F 47) [v4] h λv66 h=>ax cl (F 46) [v4] h λv69 h=>LS cl v2 v4 v5 v69 h k) (wk (ae h .eql v17 (.str [116,105,109,101])) λiW h=>wif iW (wk (ah h 0 v5) λmO h=>wk (kSt h 1 mO (I 3)) λ_ h=>ax cl (F 49) [v4] h λv105 h=>wk (ah h 9 v5) λmg h=>wk (kSt h 1 mg v105) λ_ h=>k [v2,v4,v5] h) (wk (ae h .eql v17 (.str [115,105,122,101])) λiL h=>wif iL (wk (ah h 0 v5) λv109 h=>wk (kSt h 1 v109 (I 4)) λ_ h=>ax cl (F 49) [v4] h λgp h=>JW cl v2 v4 v5 gp h k) (wk (ae h .eql v17 (.str [109,111,100,101])) λkJ h=>wif kJ (wk (ah h 0 v5) λfB h=>wk (kSt h 1 fB (I 5)) λ_ h=>ax cl (F 47) [v4] h λow h=>Js cl v2 v4 v5 h k) (wk (ae h .eql v17 (.str [97,114,103,115])) λxX h=>wif xX (wk (ah h 0 v5) λv164 h=>wk (kSt h 1 v164 (I 6)) λ_ h=>b9 (λvs h k=>JA cl (ai vs 0) (ai vs 1) (ai vs 2) h k) [v2,v4,v5] h λx vs h=>Mh cl x (ai vs 0) (ai vs 1) (ai vs 2) h k) (wk (ae h .eql v17 (.str [97,99,99,101,115,115])) λacn h=>wif acn (wk (ah h 0 v5) λv201 h=>Mp cl v2 v4 v5 v201 h k) (wk (ae h .eql v17 (.str [99,111,109,112,111,115,101])) λabN h=>A4 cl v2 v4 v5 abN h k)))))))
def B_(cl:CL)(c0:Rec)(v2 abW I9 acJ:AV)(h:AH)(Q:QT):=wgd (gdv true I9) (λk=>wdc cl (F 51) [acJ] h k) h λajn c8 h=>wP h (aG h I9 ajn (.bool false)) λajH c9 h=>wde h (kSt h 37 v2 abW) λ_ c10 h=>wP h (aB h ajH) λv3 c11 h=>aU c0 c8=true/\bP (a8 h [.cell v2 (some 37),.val (v3)]) h Q
def uC(cl:CL)(v2 v4 v5:AV)(h:AH)(Q:QT):=wdr h 12 λr h=>wR h (bj h 37 v5) v5 λabW c0 h=>wP h (aB h v4) λajb c1 h=>wP h (aq h ajb) λajy c2 h=>wP h (ah h 2 ajy) λage c3 h=>wR h (aw h age) age λajX c4 h=>wP h (kUn h .not ajX) λai2 c5 h=>wP h (aB h ai2) λI9 c6 h=>wsp I9 λI9=>wA I9 (aB h v4) h λacJ c7 h=>B_ cl c0 v2 abW I9 acJ h Q
def g25(cl:CL)(v0:AV)(h:AH)(Q:QT):=wk (cU h [I 0,I 0,I 0,I 0,I 0,I 0,I 0,I 0,I 0,I 0,I 0,I 0,.bool false,.bool false,I 0,.aa,I 0,I 0,I 0,I 0,I 0,.str [],I 0,.aa,.aa,.aa,I 0,I 0,.bool false,I 0,I 0,I 0,I 0,I 0,I 0,.aa,I 0]) λv2 h=>wk (aO h [.str [],I 0,.bool false] [(0,1,v0)]) λv14 h=>wk (fh h v14) λv15 h=>wk (cU h [I 0,I 0,I 0,I 0,I 0,I 0,I 0,I 0,I 0,I 0,I 0,I 0,.bool false,.bool false,I 0,.aa,I 0,I 0,I 0,I 0,I 0,.str [],I 0,.aa,.aa,.aa,I 0,I 0,.bool false,I 0,I 0,I 0,I 0,I 0,I 0,.aa,I 0]) λv5 h=>ax cl (F 46) [v15] h λv17 h=>aI (dL cl v2 v15 v5 v17 h) λvs h=>uC cl (ai vs 0) (ai vs 1) (ai vs 2) h Q
theorem C25{cl}(hcl:bt prog cl){v0 h Q}(hg:g25 cl v0 h Q):aJ prog 25 [v0] h Q:=bI hcl [(4,.jn [2,4,5]),(10,.jn [2,4,5,6]),(21,.jn [2,4,5,7]),(23,.jn [2,4,5]),(43,.jn [2,4,5]),(49,.l [2,4,5] [2,4,5]),(50,.jn [2,4,5,174]),(55,.jn [2,4,5,11]),(64,.jn [2,4,5,12])] func25 (by kernel_rfl) (by kernel_rfl) hg
def Tb(cl:CL)(r:Nat)(c2:Rec)(v2 v18 v21:AV)(h:AH)(Q:QT):=wP h (cB h .u8 v21) λv22 c6 h=>wda (r+7) h (dC 1 1 [.int .u8 0] [(0,1,v22)]) λv23 c7 h=>wdp h (kX h .b2s [v23]) (rdK (xRd .b2s [v23])) λv24 c8 h=>wP h (ae h .add v18 v24) λv25 c9 h=>wP h (aB h v25) λv2 c10 h=>aU c2 c8=true/\Q v2 h
def g81(cl:CL)(v0:AV)(h:AH)(Q:QT):=wk (ae h .lss v0 (I 0)) λv4 h=>wif v4 (wk (kUn h .neg v0) λv6 h=>ax cl (F 81) [v6] h λv7 h=>wk (ae h .add (.str [45]) v7) λv8 h=>Q v8 h) (wk (ae h .lss v0 (I 10)) λv10 h=>wif v10 (wk (ae h .add (I 48) v0) λv12 h=>wk (cB h .u8 v12) λv13 h=>wk (aQ h 1 1 [.int .u8 0] [(0,1,v13)]) λv14 h=>wk (kX h .b2s [v14]) λv15 h=>Q v15 h) (wdr h 11 λr h=>wP h (aB h v0) λv16 c0 h=>wP h (ae h .quo v16 (I 10)) λv17 c1 h=>wdc cl (F 81) [v17] h λv18 c2 h=>wP h (aB h v0) λv19 c3 h=>wP h (ae h .rem v19 (I 10)) λv20 c4 h=>wP h (ae h .add (I 48) v20) λv21 c5 h=>Tb cl r c2 ((.str [])) v18 v21 h Q))
theorem C81{cl}(hcl:bt prog cl){v0 h Q}(hg:g81 cl v0 h Q):aJ prog 81 [v0] h Q:=bI hcl [] func81 (by kernel_rfl) (by kernel_rfl) hg
def SU(cl:CL)(v2 v9:AV)(h:AH)(Q:QT):=wk (cm h v9 0) λv10 h=>wk (cm h v9 1) λv11 h=>wk (cm h v9 2) λv12 h=>wk (cU h [I 0,.aa]) λv4 h=>wk (kSt h 2 v4 v10) λ_ h=>wk (bj h 2 v4) λv13 h=>wk (kSt h 2 v2 v13) λ_ h=>bP (a8 h [.cell v2 (some 2),.val (v12)]) h Q
def g84(cl:CL)(v0:AV)(h:AH)(Q:QT):=wk (fh h v0) λv1 h=>wk (cU h [I 0,.aa]) λv2 h=>wk (bj h 4 v1) λv8 h=>ax cl (F 116) [v8,I 1,I 0] h λv9 h=>SU cl v2 v9 h Q
theorem C84{cl}(hcl:bt prog cl){v0 h Q}(hg:g84 cl v0 h Q):aJ prog 84 [v0] h Q:=bI hcl [] func84 (by kernel_rfl) (by kernel_rfl) hg
def Pq(cl:CL)(v7:AV)(h:AH)(Q:QT):=wk (cm h v7 0) λv8 h=>wk (cm h v7 1) λv9 h=>wk (cU h [I 0,.aa]) λv3 h=>wk (kSt h 2 v3 v8) λ_ h=>Q v9 h
def g42(cl:CL)(v0:AV)(h:AH)(Q:QT):=wk (fh h v0) λv1 h=>wk (bj h 4 v1) λv6 h=>ax cl (F 84) [v6] h λv7 h=>Pq cl v7 h Q
theorem C42{cl}(hcl:bt prog cl){v0 h Q}(hg:g42 cl v0 h Q):aJ prog 42 [v0] h Q:=bI hcl [] func42 (by kernel_rfl) (by kernel_rfl) hg
def CE(cl:CL)(v1 v2 v3 v6 v9:AV)(h:AH)(k:NT):=wsp v9 λv24=>wg (gdv true v24) (λk=>k v1 h) h λv25 h=>gA v24 (ae h .gtr v25 (I 16)) h λv26 h=>wk (aG h v24 v26 (.bool false)) λv27 h=>k [v1,v2,v3,v6,v9,v27] h
def Bw(cl:CL)(v1 v2 v3 v6 v9 v63 v65:AV)(h:AH)(k:NT):=gB v63 (bh h v65) h λv66 h=>gB v63 (ae h .gtr v66 (I 0)) h λv67 h=>wg (gdv false v63) (λk=>k v67 h) h λv68 h=>wsp v68 λv68=>wg (gdv true v68) (λk=>k v9 h) h λv69 h=>gA v68 (kUn h .not v69) h λv70 h=>gB v63 (aG h v68 v70 (.bool false)) h λv71 h=>wk (aG h v63 (.bool true) v71) λv72 h=>k [v1,v2,v3,v6,v72] h
def Ap(cl:CL)(v1 v2 v3 v6 v9 v53 v56:AV)(h:AH)(k:NT):=wg (gdv false v53) (λk=>k v56 h) h λv57 h=>wsp v57 λv57=>gA v57 (ah h 0 v3) h λv58 h=>gA v57 (aw h v58) h λv59 h=>gA v57 (ae h .neq v59 (I 3)) h λv60 h=>gB v53 (aG h v57 v60 (.bool false)) h λv61 h=>wk (aG h v53 (.bool true) v61) λv62 h=>wsp v62 λv63=>gB v63 (ah h 3 v3) h λv64 h=>gB v63 (aw h v64) h λv65 h=>Bw cl v1 v2 v3 v6 v9 v63 v65 h k
def B0(cl:CL)(v1 v2 v3 v6 v9 v38 v47:AV)(h:AH)(k:NT):=wsp v47 λv47=>gA v47 (ah h 0 v3) h λv48 h=>gA v47 (aw h v48) h λv49 h=>gA v47 (ae h .neq v49 (I 2)) h λv50 h=>gB v38 (aG h v47 v50 (.bool false)) h λv51 h=>wk (aG h v38 (.bool true) v51) λv52 h=>wsp v52 λv53=>gB v53 (ah h 2 v3) h λv54 h=>gB v53 (aw h v54) h λv55 h=>gB v53 (ae h .neq v55 (.str [])) h λv56 h=>Ap cl v1 v2 v3 v6 v9 v53 v56 h k
def A9(cl:CL)(v1 v2 v3 v6 v9 v38 v39:AV)(h:AH)(k:NT):=gB v38 (aw h v39) h λv40 h=>gB v38 (ae h .neq v40 (I 0)) h λv41 h=>wg (gdv false v38) (λk=>k v41 h) h λv42 h=>wsp v42 λv42=>gA v42 (ah h 0 v3) h λv43 h=>gA v42 (aw h v43) h λv44 h=>gA v42 (ae h .neq v44 (I 1)) h λv45 h=>gB v38 (aG h v42 v45 (.bool false)) h λv46 h=>wg (gdv false v38) (λk=>k v46 h) h λv47 h=>B0 cl v1 v2 v3 v6 v9 v38 v47 h k
def LO(cl:CL)(v1 v2 v3 v6 v9:AV)(h:AH)(k:NT):=wk (ah h 0 v3) λv30 h=>wk (aw h v30) λv31 h=>wk (ae h .lss v31 (I 1)) λv32 h=>wsp v32 λv33=>gB v33 (ah h 0 v3) h λv34 h=>gB v33 (aw h v34) h λv35 h=>gB v33 (ae h .gtr v35 (I 4)) h λv36 h=>wk (aG h v33 (.bool true) v36) λv37 h=>wsp v37 λv38=>gB v38 (ah h 1 v3) h λv39 h=>A9 cl v1 v2 v3 v6 v9 v38 v39 h k
def KY(cl:CL)(v1 v2 v3 v6 v88 v97 gF:AV)(h:AH)(k:NT):=gB v88 (aG h v97 gF (.bool false)) h λlu h=>wk (aG h v88 (.bool true) lu) λiW h=>k [v1,v2,v3,v6,iW] h
def Jv(cl:CL)(v1 v2 v3 v6 v88 v92:AV)(h:AH)(k:NT):=wsp v92 λv92=>gA v92 (ah h 1 v3) h λv93 h=>gA v92 (aw h v93) h λv94 h=>gA v92 (ae h .neq v94 (I 0)) h λv95 h=>gB v88 (aG h v92 v95 (.bool false)) h λv96 h=>wg (gdv false v88) (λk=>k v96 h) h λv97 h=>wsp v97 λv97=>gA v97 (ah h 1 v3) h λv98 h=>gA v97 (aw h v98) h λv99 h=>gA v97 (ae h .neq v99 (I 1)) h λgF h=>KY cl v1 v2 v3 v6 v88 v97 gF h k
def Ki(cl:CL)(v1 v2 v3 v6 v78 v82 v83:AV)(h:AH)(k:NT):=gB v82 (aw h v83) h λv84 h=>gB v82 (ae h .gtr v84 (I 1099511627776)) h λv85 h=>gA v78 (aG h v82 (.bool true) v85) h λv86 h=>wk (aG h v78 v86 (.bool false)) λv87 h=>wsp v87 λv88=>gB v88 (ah h 0 v3) h λv89 h=>gB v88 (aw h v89) h λv90 h=>gB v88 (ae h .eql v90 (I 2)) h λv91 h=>wg (gdv false v88) (λk=>k v91 h) h λv92 h=>Jv cl v1 v2 v3 v6 v88 v92 h k
def Jl(cl:CL)(v1 v2 v3 v6:AV)(h:AH)(k:NT):=wk (ah h 0 v3) λv75 h=>wk (aw h v75) λv76 h=>wk (ae h .eql v76 (I 1)) λv77 h=>wsp v77 λv78=>gA v78 (ah h 1 v3) h λv79 h=>gA v78 (aw h v79) h λv80 h=>gA v78 (ae h .lss v80 (I (-1099511627776))) h λv81 h=>wg (gdv true v78) (λk=>k v81 h) h λv82 h=>wsp v82 λv82=>gB v82 (ah h 1 v3) h λv83 h=>Ki cl v1 v2 v3 v6 v78 v82 v83 h k
def LD(cl:CL)(v1 v2 v3 v6 v109 lx:AV)(h:AH)(k:NT):=wk (aG h v109 (.bool true) lx) λiV h=>wsp iV λpX=>wg (gdv false pX) (λk=>k v2 h) h λjC h=>gB pX (ae h .gtr jC (I 1000)) h λv117 h=>wk (aG h pX (.bool true) v117) λkG h=>k [v1,v2,v3,v6,kG] h
def Mk(cl:CL)(v1 v2 v3 v6:AV)(h:AH)(k:NT):=wk (ah h 2 v3) λv105 h=>wk (aw h v105) λmg h=>wk (cL h mg) λv107 h=>wk (ae h .gtr v107 (I 2000)) λiL h=>wsp iL λv109=>gB v109 (ah h 3 v3) h λkq h=>gB v109 (aw h kq) h λgp h=>gB v109 (bh h gp) h λjD h=>gB v109 (ae h .gtr jD (I 100)) h λlx h=>LD cl v1 v2 v3 v6 v109 lx h k
def J0(cl:CL)(v1 v2 v3 v6 v10 v11 v12 v154 EP:AV)(h:AH)(k:JT):=k .ret [v1,v2,v3,v6,v154,EP,v10,v11,v12] h
def Et(cl:CL)(v1 v2 v3 v6 v10 v11 v12 v175:AV)(h:AH)(k:JT):=wk (aQ h 2 1 [I 0,.aa] [(0,2,v175)]) λUz h=>wk (ah h 1 v10) λU0 h=>wk (kSt h 1 U0 Uz) λ_ h=>k .nrm [v1,v2,v3,v6,.undef,.undef,v10,v11,v12] h
def Ee(cl:CL)(r:Nat)(c1 c3 c4:Rec)(v1 v2 v3 v6 v10 v12 xN tf:AV)(h:AH)(k:JT):=wdc cl (F 141) [xN,tf] h λv171 c5 h=>wP h (aB h v171) λyn c6 h=>wP h (cm h yn 0) λEO c7 h=>wP h (cm h yn 1) λv173 c8 h=>wda (r+9) h (K0 [I 0,.aa]) λv16 c9 h=>wde h (kSt h 2 v16 EO) λ_ c10 h=>wP h (aB h v173) λv17 c11 h=>aU c1 c9=true/\aU c3 c9=true/\aU c4 c9=true/\wk (bj h 2 v16) λv175 h=>Et cl v1 v2 v3 v6 v10 v17 v12 v175 h k
def vT(cl:CL)(v1 v2 v3 v6 v10 v11 v12 v13 uh:AV)(h:AH)(k:JT):=wk (aw h uh) λv159 h=>wk (bh h v159) λv160 h=>wk (ae h .eql v160 (I 0)) λx8 h=>wif x8 (wk (bj h 2 v13) λv162 h=>wk (aQ h 2 1 [I 0,.aa] [(0,2,v162)]) λxX h=>wk (ah h 1 v10) λv164 h=>wk (kSt h 1 v164 xX) λ_ h=>k .nrm [v1,v2,v3,v6,.undef,.undef,v10,v11,v12] h) (wdr h 12 λr h=>wP h (ah h 1 v10) λtd c0 h=>wR h (aw h td) td λv167 c1 h=>wP h (aF h 2 v167 (I 0)) λv168 c2 h=>wR h (bj h 2 v168) v168 λxN c3 h=>wR h (bj h 2 v13) v13 λtf c4 h=>Ee cl r c1 c3 c4 v1 v2 v3 v6 v10 v12 xN tf h k)
def qY(cl:CL)(v1 v3 v6 v10 v11 v12 v146:AV)(h:AH)(k:JT):=wk (cm h v146 0) λCP h=>wk (cm h v146 1) λv148 h=>wk (cm h v146 2) λug h=>wk (cU h [I 0,.aa]) λv13 h=>wk (kSt h 2 v13 CP) λ_ h=>wk (ae h .neq ug (I 0)) λv152 h=>wif v152 (wk (aO h [I 0,.aa] []) λI8 h=>wk (kSt h 2 v6 I8) λ_ h=>J0 cl v1 v148 v3 v6 v10 v11 v12 v148 ug h k) (wk (kUn h .not v11) λv157 h=>wif v157 (k .nrm [v1,v148,v3,v6,.undef,.undef,v10,v11,v12] h) (wk (ah h 1 v10) λuh h=>vT cl v1 v148 v3 v6 v10 v11 v12 v13 uh h k))
def Lo(cl:CL)(v1 v2 v3 v6 v10 v11 v12:AV)(h:AH)(k:JT):=wk (ah h 3 v3) λv138 h=>wk (aw h v138) λv139 h=>wk (aF h 4 v139 v12) λv141 h=>wk (bj h 4 v141) λxT h=>wk (ae h .add v1 (I 1)) λxQ h=>ax cl (F 116) [xT,xQ,v2] h λv146 h=>qY cl v1 v3 v6 v10 v11 v12 v146 h k
def Bs(cl:CL)(x:AX)(v1 v2 v3 v6 v7 v8 v10 v11 v12:AV)(h:AH)(k:KT):=xs x (wk (ae h .add v12 (I 1)) λxP h=>k .nrm [v1,v2,v3,v6,v10,v11,xP] [v2,v6,v7,v8,v10,v11] h) (λj=>k (.exit j) [v1,v2,v3,v6,v10,v11,v12] [v2,v6,v7,v8,v10,v11] h) (k .ret [v1,v2,v3,v6,v10,v11,v12] [v2,v6,v7,v8,v10,v11] h)
def Cn(cl:CL)(v1 v2 v3 v6 v10 v11 v12:AV)(h:AH)(k:KT):=wk (ah h 3 v3) λv131 h=>wk (aw h v131) λgG h=>wk (bh h gG) λpo h=>wk (ae h .lss v12 po) λpr h=>wif pr (vJ (Lo cl v1 v2 v3 v6 v10 v11 v12 h) λx vs h=>Bs cl x (ai vs 0) (ai vs 1) (ai vs 2) (ai vs 3) (ai vs 4) (ai vs 5) (ai vs 6) (ai vs 7) (ai vs 8) h k) (k (.exit 0) [v1,v2,v3,v6,v10,v11,v12] [v2,v6,.undef,.undef,v10,v11] h)
def ry(cl:CL)(v2 v6 v10 v11:AV)(h:AH)(Q:QT):=wk (kUn h .not v11) λU2 h=>wif U2 (wk (aO h [I 0,.aa] []) λqL h=>wk (kSt h 2 v6 qL) λ_ h=>bP (a8 h [.cell v6 (some 2),.val (v2),.val ((I 5))]) h Q) (wk (bj h 2 v10) λv182 h=>wk (kSt h 2 v6 v182) λ_ h=>bP (a8 h [.cell v6 (some 2),.val (v2),.val ((I 0))]) h Q)
def B2(cl:CL)(x:AX)(v2 v6 v7 v8 v10 v11:AV)(h:AH)(Q:QT):=xs x (ry cl v2 v6 v10 v11 h Q) (λj=>cond (Nat.beq j 0) (ry cl v2 v6 v10 v11 h Q) (False)) (bP (a8 h [.cell v6 (some 2),.val (v7),.val (v8)]) h Q)
def xx(cl:CL)(v1 v2 v3 v6 v10 ou:AV)(h:AH)(Q:QT):=wk (kSt h 2 v10 ou) λ_ h=>b9 (λvs h k=>Cn cl (ai vs 0) (ai vs 1) (ai vs 2) (ai vs 3) (ai vs 4) (ai vs 5) (ai vs 6) h k) [v1,v2,v3,v6,v10,.bool true,I 0] h λx vs h=>B2 cl x (ai vs 0) (ai vs 1) (ai vs 2) (ai vs 3) (ai vs 4) (ai vs 5) h Q
def u0(cl:CL)(v1 v2 v3 v6 kG:AV)(h:AH)(Q:QT):=wif kG (wk (aO h [I 0,.aa] []) λkJ h=>wk (kSt h 2 v6 kJ) λ_ h=>bP (a8 h [.cell v6 (some 2),.val (v2),.val ((I 2))]) h Q) (wk (ah h 2 v3) λkK h=>wk (aw h kK) λow h=>ax cl (F 117) [ow] h λnf h=>wk (kUn h .not nf) λv124 h=>wif v124 (wk (aO h [I 0,.aa] []) λni h=>wk (kSt h 2 v6 ni) λ_ h=>bP (a8 h [.cell v6 (some 2),.val (v2),.val ((I 3))]) h Q) (wk (ah h 0 v3) λv127 h=>wk (aw h v127) λnh h=>wk (aO h [I 0,.aa] [(0,1,nh)]) λou h=>wk (cU h [I 0,.aa]) λv10 h=>xx cl v1 v2 v3 v6 v10 ou h Q))
def wz(cl:CL)(v1 v2 v3 v6 iW:AV)(h:AH)(Q:QT):=wif iW (wk (aO h [I 0,.aa] []) λmO h=>wk (kSt h 2 v6 mO) λ_ h=>bP (a8 h [.cell v6 (some 2),.val (v2),.val ((I 1))]) h Q) (aI (Mk cl v1 v2 v3 v6 h) λvs h=>u0 cl (ai vs 0) (ai vs 1) (ai vs 2) (ai vs 3) (ai vs 4) h Q)
def vh(cl:CL)(v1 v2 v3 v6 v72:AV)(h:AH)(Q:QT):=wif v72 (wk (aO h [I 0,.aa] []) λv73 h=>wk (kSt h 2 v6 v73) λ_ h=>bP (a8 h [.cell v6 (some 2),.val (v2),.val ((I 9))]) h Q) (aI (Jl cl v1 v2 v3 v6 h) λvs h=>wz cl (ai vs 0) (ai vs 1) (ai vs 2) (ai vs 3) (ai vs 4) h Q)
def vI(cl:CL)(v1 v2 v3 v6 v9 v27:AV)(h:AH)(Q:QT):=wif v27 (wk (aO h [I 0,.aa] []) λv28 h=>wk (kSt h 2 v6 v28) λ_ h=>bP (a8 h [.cell v6 (some 2),.val (v2),.val ((I 8))]) h Q) (aI (LO cl v1 v2 v3 v6 v9 h) λvs h=>vh cl (ai vs 0) (ai vs 1) (ai vs 2) (ai vs 3) (ai vs 4) h Q)
def afw(cl:CL)(v0 v1 v2:AV)(h:AH)(Q:QT):=wk (fh h v0) λv3 h=>wk (cU h [I 0,.aa]) λv6 h=>wk (ae h .add v2 (I 1)) λv19 h=>wk (ah h 0 v3) λv20 h=>wk (aw h v20) λv21 h=>wk (ae h .eql v21 (I 4)) λv22 h=>aI (CE cl v1 v19 v3 v6 v22 h) λvs h=>vI cl (ai vs 0) (ai vs 1) (ai vs 2) (ai vs 3) (ai vs 4) (ai vs 5) h Q
theorem ahD{cl}(hcl:bt prog cl){v0 v1 v2 h Q}(hg:afw cl v0 v1 v2 h Q):aJ prog 116 [v0,v1,v2] h Q:=bI hcl [(3,.jn [1,2,3,6,9,27]),(6,.jn [1,2,3,6,72]),(9,.jn [1,2,3,6,102]),(12,.jn [1,2,3,6,118]),(22,.l [1,2,3,6,10,11,12] [2,6,7,8,10,11]),(25,.j [1,2,3,6,7,8,10,11,12])] func116 (by kernel_rfl) (by kernel_rfl) hg
def Lg(cl:CL)(v4:AV)(h:AH)(Q:QT):=wk (aO h [I 0,.aa] []) λv13 h=>wk (kSt h 2 v4 v13) λ_ h=>bP (a8 h [.cell v4 (some 2),.val ((.bool false))]) h Q
def Ld(cl:CL)(v2 v4:AV)(h:AH)(Q:QT):=wk (bj h 2 v2) λv23 h=>wk (kSt h 2 v4 v23) λ_ h=>bP (a8 h [.cell v4 (some 2),.val ((.bool true))]) h Q
def Mf(cl:CL)(v4:AV)(h:AH)(Q:QT):=wk (aO h [I 0,.aa] []) λv38 h=>wk (kSt h 2 v4 v38) λ_ h=>bP (a8 h [.cell v4 (some 2),.val ((.bool false))]) h Q
def LQ(cl:CL)(v2 v4 v6:AV)(h:AH)(Q:QT):=wk (ah h 0 v2) λv39 h=>wk (aw h v39) λv40 h=>wk (bj h 2 v6) λv41 h=>wk (aQ h 2 1 [I 0,.aa] [(0,2,v41)]) λv42 h=>wk (aO h [I 0,.aa] [(0,1,v40),(1,1,v42)]) λv43 h=>wk (kSt h 2 v4 v43) λ_ h=>bP (a8 h [.cell v4 (some 2),.val ((.bool true))]) h Q
def Lc(cl:CL)(r:Nat)(c1 c3 c5 c7:Rec)(v2 v4 v28 v32:AV)(h:AH)(Q:QT):=wdc cl (F 141) [v28,v32] h λv33 c8 h=>wP h (aB h v33) λv24 c9 h=>wP h (cm h v24 0) λv34 c10 h=>wP h (cm h v24 1) λv35 c11 h=>wda (r+12) h (K0 [I 0,.aa]) λv6 c12 h=>wde h (kSt h 2 v6 v34) λ_ c13 h=>wP h (aB h v35) λv7 c14 h=>aU c1 c12=true/\aU c3 c12=true/\aU c5 c12=true/\aU c7 c12=true/\wk (kUn h .not v7) λv37 h=>wif v37 (Mf cl v4 h Q) (LQ cl v2 v4 v6 h Q)
def L_(cl:CL)(r:Nat)(v2 v3 v4:AV)(h:AH)(Q:QT):=wP h (ah h 1 v2) λv25 c0 h=>wR h (aw h v25) v25 λv26 c1 h=>wP h (aF h 2 v26 (I 0)) λv27 c2 h=>wR h (bj h 2 v27) v27 λv28 c3 h=>wP h (ah h 1 v3) λv29 c4 h=>wR h (aw h v29) v29 λv30 c5 h=>wP h (aF h 2 v30 (I 0)) λv31 c6 h=>wR h (bj h 2 v31) v31 λv32 c7 h=>Lc cl r c1 c3 c5 c7 v2 v4 v28 v32 h Q
def uH(cl:CL)(v2 v3 v4:AV)(h:AH)(Q:QT):=wk (ah h 1 v2) λv14 h=>wk (aw h v14) λv15 h=>wk (bh h v15) λv16 h=>wk (ae h .eql v16 (I 0)) λv17 h=>wif v17 (wk (bj h 2 v3) λv18 h=>wk (kSt h 2 v4 v18) λ_ h=>bP (a8 h [.cell v4 (some 2),.val ((.bool true))]) h Q) (wk (ah h 1 v3) λv19 h=>wk (aw h v19) λv20 h=>wk (bh h v20) λv21 h=>wk (ae h .eql v21 (I 0)) λv22 h=>wif v22 (Ld cl v2 v4 h Q) (wdr h 15 λr h=>L_ cl r v2 v3 v4 h Q))
def Y2(cl:CL)(v0 v1:AV)(h:AH)(Q:QT):=wk (fh h v0) λv2 h=>wk (fh h v1) λv3 h=>wk (cU h [I 0,.aa]) λv4 h=>wk (ah h 0 v2) λv8 h=>wk (aw h v8) λv9 h=>wk (ah h 0 v3) λv10 h=>wk (aw h v10) λv11 h=>wk (ae h .neq v9 v11) λv12 h=>wif v12 (Lg cl v4 h Q) (uH cl v2 v3 v4 h Q)
theorem aio{cl}(hcl:bt prog cl){v0 v1 h Q}(hg:Y2 cl v0 v1 h Q):aJ prog 141 [v0,v1] h Q:=bI hcl [] func141 (by kernel_rfl) (by kernel_rfl) hg
def O7(cl:CL)(v1:AV)(h:AH)(k:NT):=wk (ah h 1 v1) λv4 h=>wk (aw h v4) λv5 h=>wk (ae h .lss v5 (I 0)) λv6 h=>wsp v6 λv7=>gB v7 (ah h 1 v1) h λv8 h=>gB v7 (aw h v8) h λv9 h=>gB v7 (ae h .gtr v9 (I 15)) h λv10 h=>wk (aG h v7 (.bool true) v10) λv11 h=>k [v1,v11] h
def Ue(cl:CL)(v3:AV)(h:AH)(k:NT):=wk (ae h .geq v3 (I 1)) λv15 h=>wsp v15 λv16=>wg (gdv true v16) (λk=>k v3 h) h λv17 h=>gA v16 (ae h .leq v17 (I 23)) h λv18 h=>wk (aG h v16 v18 (.bool false)) λv19 h=>k [v3,v19] h
def T_(cl:CL)(v34 v37 v39:AV)(h:AH)(Q:QT):=gA v34 (aG h v37 (.bool true) v39) h λv40 h=>wk (aG h v34 v40 (.bool false)) λv41 h=>Q v41 h
def PN(cl:CL)(v3 v26 v29 v30:AV)(h:AH)(Q:QT):=gB v29 (ae h .gtr v30 (I 57343)) h λv31 h=>gA v26 (aG h v29 (.bool true) v31) h λv32 h=>wk (aG h v26 v32 (.bool false)) λv33 h=>wsp v33 λv34=>wg (gdv true v34) (λk=>k v3 h) h λv35 h=>gA v34 (ae h .lss v35 (I 65)) h λv36 h=>wg (gdv true v34) (λk=>k v36 h) h λv37 h=>wsp v37 λv37=>wg (gdv false v37) (λk=>k v3 h) h λv38 h=>gB v37 (ae h .gtr v38 (I 90)) h λv39 h=>T_ cl v34 v37 v39 h Q
def Rl(cl:CL)(v3 v19:AV)(h:AH)(Q:QT):=wif v19 (Q ((.bool true)) h) (wk (ae h .geq v3 (I 32)) λv21 h=>wsp v21 λv22=>wg (gdv true v22) (λk=>k v3 h) h λv23 h=>gA v22 (ae h .leq v23 (I 1114111)) h λv24 h=>wk (aG h v22 v24 (.bool false)) λv25 h=>wsp v25 λv26=>wg (gdv true v26) (λk=>k v3 h) h λv27 h=>gA v26 (ae h .lss v27 (I 55296)) h λv28 h=>wg (gdv true v26) (λk=>k v28 h) h λv29 h=>wsp v29 λv29=>wg (gdv false v29) (λk=>k v3 h) h λv30 h=>PN cl v3 v26 v29 v30 h Q)
def EY(cl:CL)(v1 v11:AV)(h:AH)(Q:QT):=wif v11 (Q ((.bool false)) h) (wk (ah h 0 v1) λv12 h=>wk (aw h v12) λv13 h=>aI (Ue cl v13 h) λvs h=>Rl cl (ai vs 0) (ai vs 1) h Q)
def g82(cl:CL)(v0:AV)(h:AH)(Q:QT):=wk (fh h v0) λv1 h=>aI (O7 cl v1 h) λvs h=>EY cl (ai vs 0) (ai vs 1) h Q
theorem C82{cl}(hcl:bt prog cl){v0 h Q}(hg:g82 cl v0 h Q):aJ prog 82 [v0] h Q:=bI hcl [(1,.jn [1,11]),(5,.jn [3,19])] func82 (by kernel_rfl) (by kernel_rfl) hg
def PD(cl:CL)(v1 v4 v16 v17:AV)(h:AH)(k:NT):=wk (aF h 1 v17 v4) λv19 h=>wk (aw h v19) λv20 h=>wk (ae h .add v20 (.str [43])) λv21 h=>wk (ae h .add v16 v21) λv22 h=>k [v1,v22,v4] h
def BF(cl:CL)(v1 v3 v4:AV)(h:AH)(k:NT):=wk (ah h 1 v1) λv9 h=>wk (aw h v9) λv10 h=>wk (cB h .u64 v4) λv12 h=>wk (ae h .shr v10 v12) λv13 h=>wk (ae h .and v13 (I 1)) λv14 h=>wk (ae h .eql v14 (I 1)) λv15 h=>wif v15 (ax cl (F 114) [] h λv17 h=>PD cl v1 v4 v3 v17 h k) (k [v1,v3,v4] h)
def Gp(cl:CL)(v1 v3 v4:AV)(h:AH)(k:KT):=wk (ae h .add v4 (I 1)) λv8 h=>k .nrm [v1,v3,v8] [v1,v3] h
def vA(cl:CL)(v1 v3 v4:AV)(h:AH)(k:KT):=wk (ae h .lss v4 (I 4)) λv6 h=>wif v6 (aI (BF cl v1 v3 v4 h) λvs h=>Gp cl (ai vs 0) (ai vs 1) (ai vs 2) h k) (k (.exit 0) [v1,v3,v4] [v1,v3] h)
def Gs(cl:CL)(c1 c3:Rec)(v27 v31:AV)(h:AH)(Q:QT):=wR h (aw h v31) v31 λv32 c5 h=>wP h (ae h .add v27 v32) λv33 c6 h=>wP h (aB h v33) λv2 c7 h=>aU c1 c3=true/\Q v2 h
def Ia(cl:CL)(v40 v42:AV)(h:AH)(Q:QT):=wk (cB h .i32 v42) λv43 h=>wk (kX h .i2s [v43]) λv44 h=>wk (ae h .add v40 v44) λv45 h=>Q v45 h
def o_(cl:CL)(v1 v3:AV)(h:AH)(Q:QT):=wk (ah h 0 v1) λv24 h=>wk (aw h v24) λv25 h=>wk (ae h .leq v25 (I 23)) λv26 h=>wif v26 (wdr h 8 λr h=>wP h (aB h v3) λv27 c0 h=>wdc cl (F 115) [] h λv28 c1 h=>wP h (ah h 0 v1) λv29 c2 h=>wR h (aw h v29) v29 λv30 c3 h=>wP h (aF h 1 v28 v30) λv31 c4 h=>Gs cl c1 c3 v27 v31 h Q) (wk (ah h 0 v1) λv35 h=>wk (aw h v35) λv36 h=>wk (ae h .eql v36 (I 32)) λv37 h=>wif v37 (wk (ae h .add v3 (.str [115,112,97,99,101])) λv39 h=>Q v39 h) (wk (ah h 0 v1) λv41 h=>wk (aw h v41) λv42 h=>Ia cl v3 v42 h Q))
def Fx(cl:CL)(x:AX)(v1 v3:AV)(h:AH)(Q:QT):=xs x (o_ cl v1 v3 h Q) (λj=>cond (Nat.beq j 0) (o_ cl v1 v3 h Q) (False)) (Q (.undef) h)
def g83(cl:CL)(v0:AV)(h:AH)(Q:QT):=wk (fh h v0) λv1 h=>b9 (λvs h k=>vA cl (ai vs 0) (ai vs 1) (ai vs 2) h k) [v1,.str [],I 0] h λx vs h=>Fx cl x (ai vs 0) (ai vs 1) h Q
theorem C83{cl}(hcl:bt prog cl){v0 h Q}(hg:g83 cl v0 h Q):aJ prog 83 [v0] h Q:=bI hcl [(4,.l [1,3,4] [1,3]),(7,.jn [1,3,4])] func83 (by kernel_rfl) (by kernel_rfl) hg
def Hi(cl:CL)(v0 v2 v4 v5 v6 v24 v28 v29:AV)(h:AH)(k:NT):=gA v24 (ae h .eql v28 v29) h λv30 h=>wk (aG h v24 v30 (.bool false)) λv31 h=>k [v0,v2,v4,v5,v6,v31] h
def Fl(cl:CL)(v0 v2 v4 v5 v6:AV)(h:AH)(k:NT):=wk (cL h v0) λv20 h=>wk (cL h v6) λv22 h=>wk (ae h .gtr v20 v22) λv23 h=>wsp v23 λv24=>wg (gdv true v24) (λk=>k v0 h) h λv25 h=>wg (gdv true v24) (λk=>k v6 h) h λv26 h=>gA v24 (cL h v26) h λv27 h=>gA v24 (gI h v25 none (some v27)) h λv28 h=>wg (gdv true v24) (λk=>k v6 h) h λv29 h=>Hi cl v0 v2 v4 v5 v6 v24 v28 v29 h k
def SP(cl:CL)(v2 v4 v5 v39 v41:AV)(h:AH)(k:NT):=wk (gI h v39 (some v41) none) λv42 h=>k [v42,v2,v4,v5] h
def Gz(cl:CL)(v0 v2 v4 v5 v6 v31:AV)(h:AH)(k:NT):=wif v31 (wk (ah h 1 v4) λv32 h=>wk (aw h v32) λv33 h=>wk (cB h .u64 v5) λv35 h=>wk (ae h .shl (I 1) v35) λv36 h=>wk (ae h .add v33 v36) λv37 h=>wk (ah h 1 v4) λv38 h=>wk (kSt h 1 v38 v37) λ_ h=>wk (cL h v6) λv41 h=>SP cl v2 v4 v5 v0 v41 h k) (k [v0,v2,v4,v5] h)
def SD(cl:CL)(v0 v2 v4 v5 v14:AV)(h:AH)(k:NT):=wk (aF h 1 v14 v5) λv16 h=>wk (aw h v16) λv17 h=>wk (ae h .add v17 (.str [43])) λv18 h=>aI (Fl cl v0 v2 v4 v5 v18 h) λvs h=>Gz cl (ai vs 0) (ai vs 1) (ai vs 2) (ai vs 3) (ai vs 4) (ai vs 5) h k
def Qo(cl:CL)(v0 v2 v4 v5:AV)(h:AH)(k:NT):=ax cl (F 114) [] h λv14 h=>SD cl v0 v2 v4 v5 v14 h k
def Qd(cl:CL)(v0 v2 v4 v5:AV)(h:AH)(k:KT):=wk (ae h .add v5 (I 1)) λv13 h=>k .nrm [v0,v2,v4,v13] [v0,v2,v4] h
def Ig(cl:CL)(v0 v2 v4 v5:AV)(h:AH)(k:KT):=wk (ae h .lss v5 (I 4)) λv11 h=>wif v11 (aI (Qo cl v0 v2 v4 v5 h) λvs h=>Qd cl (ai vs 0) (ai vs 1) (ai vs 2) (ai vs 3) h k) (k (.exit 0) [v0,v2,v4,v5] [v0,v2,v4] h)
def Qz(cl:CL)(v0 v2 v4 v7 v8 v49:AV)(h:AH)(k:NT):=wk (aF h 1 v49 v8) λv51 h=>wk (aw h v51) λv52 h=>wk (ae h .eql v52 v0) λv54 h=>wif v54 (wk (ah h 0 v4) λv56 h=>wk (kSt h 1 v56 v8) λ_ h=>k [v0,v2,v4,v7,v8] h) (k [v0,v2,v4,v7,v8] h)
def QR(cl:CL)(v0 v2 v4 v7 v8:AV)(h:AH)(k:NT):=ax cl (F 115) [] h λv49 h=>Qz cl v0 v2 v4 v7 v8 v49 h k
def Uk(cl:CL)(v0 v2 v4 v7 v8:AV)(h:AH)(k:KT):=wk (ae h .add v8 (I 1)) λv48 h=>k .nrm [v0,v2,v4,v7,v48] [v0,v2,v4,v7] h
def Hx(cl:CL)(v0 v2 v4 v7 v8:AV)(h:AH)(k:KT):=wk (ae h .leq v8 (I 23)) λv46 h=>wif v46 (aI (QR cl v0 v2 v4 v7 v8 h) λvs h=>Uk cl (ai vs 0) (ai vs 1) (ai vs 2) (ai vs 3) (ai vs 4) h k) (k (.exit 2) [v0,v2,v4,v7,v8] [v0,v2,v4,v7] h)
def F2(cl:CL)(v0 v2 v4 v7 v58:AV)(h:AH)(k:NT):=wif v58 (wk (ah h 0 v4) λv59 h=>wk (kSt h 1 v59 (I 32)) λ_ h=>k [v0,v2,v4,v7] h) (k [v0,v2,v4,v7] h)
def Cr(cl:CL)(v0 v2 v4 v7 v68 v69:AV)(h:AH)(k:NT):=gA v68 (aF h 1 v69 (I 0)) h λv70 h=>gA v68 (aw h v70) h λv71 h=>gA v68 (ae h .gtr v71 (.int .i32 32)) h λv72 h=>wk (aG h v68 v72 (.bool false)) λv73 h=>k [v0,v2,v4,v7,v73] h
def uI(cl:CL)(v0 v2 v4 v7:AV)(h:AH)(k:NT):=wk (ah h 0 v4) λv60 h=>wk (aw h v60) λv61 h=>wk (ae h .eql v61 (I 0)) λv62 h=>wsp v62 λv63=>wg (gdv true v63) (λk=>k v7 h) h λv64 h=>gA v63 (bh h v64) h λv65 h=>gA v63 (ae h .eql v65 (I 1)) h λv66 h=>wk (aG h v63 v66 (.bool false)) λv67 h=>wsp v67 λv68=>wg (gdv true v68) (λk=>k v7 h) h λv69 h=>Cr cl v0 v2 v4 v7 v68 v69 h k
def AQ(cl:CL)(v0 v2 v4 v7 v73:AV)(h:AH)(k:NT):=wif v73 (wk (aF h 1 v7 (I 0)) λv75 h=>wk (aw h v75) λv76 h=>wk (cB h .i64 v76) λv77 h=>wk (ah h 0 v4) λv78 h=>wk (kSt h 1 v78 v77) λ_ h=>k [v0,v2,v4] h) (k [v0,v2,v4] h)
def BA(cl:CL)(c0 c6 c12:Rec)(v2 v79 v94:AV)(h:AH)(Q:QT):=wde h (kSt h 2 v2 v79) λ_ c16 h=>wP h (aB h v94) λv3 c17 h=>aU c0 c6=true/\aU c0 c12=true/\bP (a8 h [.cell v2 (some 2),.val (v3)]) h Q
def BH(cl:CL)(c0 c6:Rec)(v0 v2 v4 v79 v86:AV)(h:AH)(Q:QT):=wP h (aB h v86) λv87 c8 h=>wsp v87 λv87=>wA v87 (ah h 0 v4) h λv88 c9 h=>wC v87 (aw h v88) v88 h λv89 c10 h=>wA v87 (aO h [I 0,I 0] [(0,1,v89)]) h λv90 c11 h=>wgd (gdv true v87) (λk=>wdc cl (F 83) [v90] h k) h λv91 c12 h=>wA v87 (aB h v0) h λv92 c13 h=>wA v87 (ae h .eql v91 v92) h λv93 c14 h=>wP h (aG h v87 v93 (.bool false)) λv94 c15 h=>BA cl c0 c6 c12 v2 v79 v94 h Q
def KR(cl:CL)(v0 v2 v4:AV)(h:AH)(Q:QT):=wdr h 18 λr h=>wR h (bj h 2 v4) v4 λv79 c0 h=>wP h (ah h 0 v4) λv80 c1 h=>wR h (aw h v80) v80 λv81 c2 h=>wP h (ae h .gtr v81 (I 0)) λv82 c3 h=>wP h (aB h v82) λv83 c4 h=>wsp v83 λv83=>wC v83 (bj h 2 v4) v4 h λv84 c5 h=>wgd (gdv true v83) (λk=>wdc cl (F 82) [v84] h k) h λv85 c6 h=>wP h (aG h v83 v85 (.bool false)) λv86 c7 h=>BH cl c0 c6 v0 v2 v4 v79 v86 h Q
def Lv(cl:CL)(v0 v2 v4 v7 v73:AV)(h:AH)(Q:QT):=aI (AQ cl v0 v2 v4 v7 v73 h) λvs h=>KR cl (ai vs 0) (ai vs 1) (ai vs 2) h Q
def JY(cl:CL)(v0 v2 v4 v7:AV)(h:AH)(Q:QT):=aI (uI cl v0 v2 v4 v7 h) λvs h=>Lv cl (ai vs 0) (ai vs 1) (ai vs 2) (ai vs 3) (ai vs 4) h Q
def B4(cl:CL)(v0 v2 v4 v7:AV)(h:AH)(Q:QT):=wk (ae h .eql v0 (.str [115,112,97,99,101])) λv58 h=>aI (F2 cl v0 v2 v4 v7 v58 h) λvs h=>JY cl (ai vs 0) (ai vs 1) (ai vs 2) (ai vs 3) h Q
def JJ(cl:CL)(x:AX)(v0 v2 v4 v7:AV)(h:AH)(Q:QT):=xs x (B4 cl v0 v2 v4 v7 h Q) (λj=>cond (Nat.beq j 2) (B4 cl v0 v2 v4 v7 h Q) (False)) (bP (a8 h [.cell v2 (some 2),.val (.undef)]) h Q)
def zR(cl:CL)(v0 v2 v4:AV)(h:AH)(Q:QT):=wk (kX h .s2r [v0]) λv44 h=>b9 (λvs h k=>Hx cl (ai vs 0) (ai vs 1) (ai vs 2) (ai vs 3) (ai vs 4) h k) [v0,v2,v4,v44,I 1] h λx vs h=>JJ cl x (ai vs 0) (ai vs 1) (ai vs 2) (ai vs 3) h Q
def J2(cl:CL)(x:AX)(v0 v2 v4:AV)(h:AH)(Q:QT):=xs x (zR cl v0 v2 v4 h Q) (λj=>cond (Nat.beq j 0) (zR cl v0 v2 v4 h Q) (False)) (bP (a8 h [.cell v2 (some 2),.val (.undef)]) h Q)
def g86(cl:CL)(v0:AV)(h:AH)(Q:QT):=wk (cU h [I 0,I 0]) λv2 h=>wk (aO h [I 0,I 0] []) λv9 h=>wk (cU h [I 0,I 0]) λv4 h=>wk (kSt h 2 v4 v9) λ_ h=>b9 (λvs h k=>Ig cl (ai vs 0) (ai vs 1) (ai vs 2) (ai vs 3) h k) [v0,v2,v4,I 0] h λx vs h=>J2 cl x (ai vs 0) (ai vs 1) (ai vs 2) h Q
theorem C86{cl}(hcl:bt prog cl){v0 h Q}(hg:g86 cl v0 h Q):aJ prog 86 [v0] h Q:=bI hcl [(4,.l [0,2,4,5] [0,2,4]),(7,.jn [0,2,4,5]),(9,.jn [0,2,4,5,6,31]),(17,.l [0,2,4,7,8] [0,2,4,7]),(20,.jn [0,2,4,7,8]),(26,.jn [0,2,4,7]),(28,.jn [0,2,4,7,73]),(29,.jn [0,2,4])] func86 (by kernel_rfl) (by kernel_rfl) hg
def GL(cl:CL)(v0 v4 v5 v6:AV)(h:AH)(k:NT):=wk (cL h v0) λv20 h=>wk (ae h .lss v6 v20) λv21 h=>wsp v21 λv22=>wg (gdv true v22) (λk=>k v0 h) h λv23 h=>wg (gdv true v22) (λk=>k v6 h) h λv24 h=>gA v22 (dH h v23 v24) h λv25 h=>gA v22 (ae h .neq v25 (.int .u8 32)) h λv26 h=>wk (aG h v22 v26 (.bool false)) λv27 h=>k [v0,v4,v5,v6,v27] h
def Sy(cl:CL)(v0 v6 v41:AV)(h:AH)(k:JT):=wk (ae h .add v6 (I 1)) λv43 h=>k .nrm [v0,.undef,.undef,v41,v43,v6] h
def Sj(cl:CL)(v0 v4 v5 v6 v33:AV)(h:AH)(k:JT):=wk (cm h v33 0) λv34 h=>wk (cm h v33 1) λv35 h=>wk (cU h [I 0,I 0]) λv7 h=>wk (kSt h 2 v7 v34) λ_ h=>wk (kUn h .not v35) λv37 h=>wif v37 (k .ret [v0,(.aa),I 3,v4,v5,v6] h) (wk (bj h 2 v7) λv39 h=>wk (aQ h 2 1 [I 0,I 0] [(0,2,v39)]) λv40 h=>wk (dK h 2 16 v4 v40) λv41 h=>Sy cl v0 v6 v41 h k)
def IJ(cl:CL)(v0 v4 v5 v6 v27:AV)(h:AH)(k:JT):=wif v27 (k .nrm [v0,.undef,.undef,v4,v5,v6] h) (wk (gI h v0 (some v5) (some v6)) λv32 h=>ax cl (F 86) [v32] h λv33 h=>Sj cl v0 v4 v5 v6 v33 h k)
def Q9(cl:CL)(v0 v4 v5 v6:AV)(h:AH)(k:JT):=aI (GL cl v0 v4 v5 v6 h) λvs h=>IJ cl (ai vs 0) (ai vs 1) (ai vs 2) (ai vs 3) (ai vs 4) h k
def Bd(cl:CL)(x:AX)(v0 v2 v3 v4 v5 v6:AV)(h:AH)(k:KT):=xs x (wk (ae h .add v6 (I 1)) λv17 h=>k .nrm [v0,v4,v5,v17] [v2,v3,v4] h) (λj=>k (.exit j) [v0,v4,v5,v6] [v2,v3,v4] h) (k .ret [v0,v4,v5,v6] [v2,v3,v4] h)
def GR(cl:CL)(v0 v4 v5 v6:AV)(h:AH)(k:KT):=wk (cL h v0) λv14 h=>wk (ae h .leq v6 v14) λv15 h=>wif v15 (vJ (Q9 cl v0 v4 v5 v6 h) λx vs h=>Bd cl x (ai vs 0) (ai vs 1) (ai vs 2) (ai vs 3) (ai vs 4) (ai vs 5) h k) (k (.exit 0) [v0,v4,v5,v6] [.undef,.undef,v4] h)
def G_(cl:CL)(v4:AV)(h:AH)(Q:QT):=wk (bh h v4) λv45 h=>wk (ae h .gtr v45 (I 3)) λv46 h=>wif v46 (Q (.tup [(.aa),I 2]) h) (Q (.tup [v4,I 0]) h)
def FJ(cl:CL)(x:AX)(v2 v3 v4:AV)(h:AH)(Q:QT):=xs x (G_ cl v4 h Q) (λj=>cond (Nat.beq j 0) (G_ cl v4 h Q) (False)) (Q (.tup [v2,v3]) h)
def g50(cl:CL)(v0:AV)(h:AH)(Q:QT):=wk (cL h v0) λv10 h=>wk (ae h .gtr v10 (I 100)) λv11 h=>wif v11 (Q (.tup [(.aa),I 2]) h) (b9 (λvs h k=>GR cl (ai vs 0) (ai vs 1) (ai vs 2) (ai vs 3) h k) [v0,(.aa),I 0,I 0] h λx vs h=>FJ cl x (ai vs 0) (ai vs 1) (ai vs 2) h Q)
theorem C50{cl}(hcl:bt prog cl){v0 h Q}(hg:g50 cl v0 h Q):aJ prog 50 [v0] h Q:=bI hcl [(8,.l [0,4,5,6] [2,3,4]),(11,.j [0,2,3,4,5,6]),(12,.jn [0,4,5,6,27])] func50 (by kernel_rfl) (by kernel_rfl) hg
def adT(cl:CL)(h:AH)(Q:QT):=wk (aQ h 1 4 [.str [],.str [],.str [],.str []] [(0,1,(.str [99,116,114,108])),(1,1,(.str [97,108,116])),(2,1,(.str [115,104,105,102,116])),(3,1,(.str [109,101,116,97]))]) λv1 h=>Q v1 h
theorem ail{cl}(hcl:bt prog cl){h Q}(hg:adT cl h Q):aJ prog 114 [] h Q:=bI hcl [] func114 (by kernel_rfl) (by kernel_rfl) hg
def afZ(cl:CL)(h:AH)(Q:QT):=wk (aQ h 1 24 [.str [],.str [],.str [],.str [],.str [],.str [],.str [],.str [],.str [],.str [],.str [],.str [],.str [],.str [],.str [],.str [],.str [],.str [],.str [],.str [],.str [],.str [],.str [],.str []] [(0,1,(.str [])),(1,1,(.str [116,97,98])),(2,1,(.str [101,110,116,101,114])),(3,1,(.str [101,115,99,97,112,101])),(4,1,(.str [98,97,99,107,115,112,97,99,101])),(5,1,(.str [100,101,108,101,116,101])),(6,1,(.str [108,101,102,116])),(7,1,(.str [114,105,103,104,116])),(8,1,(.str [117,112])),(9,1,(.str [100,111,119,110])),(10,1,(.str [104,111,109,101])),(11,1,(.str [101,110,100])),(12,1,(.str [102,49])),(13,1,(.str [102,50])),(14,1,(.str [102,51])),(15,1,(.str [102,52])),(16,1,(.str [102,53])),(17,1,(.str [102,54])),(18,1,(.str [102,55])),(19,1,(.str [102,56])),(20,1,(.str [102,57])),(21,1,(.str [102,49,48])),(22,1,(.str [102,49,49])),(23,1,(.str [102,49,50]))]) λv1 h=>Q v1 h
theorem aib{cl}(hcl:bt prog cl){h Q}(hg:afZ cl h Q):aJ prog 115 [] h Q:=bI hcl [] func115 (by kernel_rfl) (by kernel_rfl) hg
def Qy(cl:CL)(v0 v7 v40:AV)(h:AH)(k:JT):=wk (ae h .add v7 (I 1)) λv42 h=>k .nrm [v0,.undef,.undef,.undef,v40,v42,v7] h
def E5(cl:CL)(v0 v5 v6 v7 v30:AV)(h:AH)(k:JT):=wk (cm h v30 0) λv31 h=>wk (cm h v30 1) λv32 h=>wk (cU h [I 0,I 0,I 0,I 0,I 0,I 0,I 0,I 0,I 0,I 0,I 0,I 0,.bool false,.bool false,I 0,.aa,I 0,I 0,I 0,I 0,I 0,.str [],I 0,.aa,.aa,.aa,I 0,I 0,.bool false,I 0,I 0,I 0,I 0,I 0,I 0,.aa,I 0]) λv8 h=>wk (kSt h 37 v8 v31) λ_ h=>wk (kUn h .not v32) λv34 h=>wif v34 (wk (bh h v5) λv36 h=>k .ret [v0,(.aa),v36,I 3,v5,v6,v7] h) (wk (bj h 37 v8) λv38 h=>wk (aQ h 37 1 [I 0,I 0,I 0,I 0,I 0,I 0,I 0,I 0,I 0,I 0,I 0,I 0,.bool false,.bool false,I 0,.aa,I 0,I 0,I 0,I 0,I 0,.str [],I 0,.aa,.aa,.aa,I 0,I 0,.bool false,I 0,I 0,I 0,I 0,I 0,I 0,.aa,I 0] [(0,37,v38)]) λv39 h=>wk (dK h 37 376 v5 v39) λv40 h=>Qy cl v0 v7 v40 h k)
def zW(cl:CL)(v0 v5 v6 v7:AV)(h:AH)(k:JT):=wk (dH h v0 v7) λv18 h=>wk (ae h .neq v18 (.int .u8 10)) λv19 h=>wif v19 (k .nrm [v0,.undef,.undef,.undef,v5,v6,v7] h) (wk (bh h v5) λv21 h=>wk (ae h .geq v21 (I 200)) λv22 h=>wif v22 (wk (bh h v5) λv24 h=>k .ret [v0,(.aa),v24,I 2,v5,v6,v7] h) (wk (gI h v0 (some v6) (some v7)) λv29 h=>ax cl (F 25) [v29] h λv30 h=>E5 cl v0 v5 v6 v7 v30 h k))
def Ha(cl:CL)(x:AX)(v0 v2 v3 v4 v5 v6 v7:AV)(h:AH)(k:KT):=xs x (wk (ae h .add v7 (I 1)) λv15 h=>k .nrm [v0,v5,v6,v15] [v0,v2,v3,v4,v5,v6] h) (λj=>k (.exit j) [v0,v5,v6,v7] [v0,v2,v3,v4,v5,v6] h) (k .ret [v0,v5,v6,v7] [v0,v2,v3,v4,v5,v6] h)
def FM(cl:CL)(v0 v5 v6 v7:AV)(h:AH)(k:KT):=wk (cL h v0) λv12 h=>wk (ae h .lss v7 v12) λv13 h=>wif v13 (vJ (zW cl v0 v5 v6 v7 h) λx vs h=>Ha cl x (ai vs 0) (ai vs 1) (ai vs 2) (ai vs 3) (ai vs 4) (ai vs 5) (ai vs 6) h k) (k (.exit 0) [v0,v5,v6,v7] [v0,.undef,.undef,.undef,v5,v6] h)
def uZ(cl:CL)(v0 v5 v6:AV)(h:AH)(Q:QT):=wk (cL h v0) λv45 h=>wk (ae h .lss v6 v45) λv46 h=>wif v46 (wk (bh h v5) λv48 h=>wk (ae h .geq v48 (I 200)) λv49 h=>wif v49 (wk (bh h v5) λv51 h=>Q (.tup [(.aa),v51,I 2]) h) (wk (bh h v5) λv53 h=>Q (.tup [(.aa),v53,I 3]) h)) (wk (bh h v5) λv56 h=>Q (.tup [v5,v56,I 0]) h)
def HT(cl:CL)(x:AX)(v0 v2 v3 v4 v5 v6:AV)(h:AH)(Q:QT):=xs x (uZ cl v0 v5 v6 h Q) (λj=>cond (Nat.beq j 0) (uZ cl v0 v5 v6 h Q) (False)) (Q (.tup [v2,v3,v4]) h)
def g13(cl:CL)(v0:AV)(h:AH)(Q:QT):=b9 (λvs h k=>FM cl (ai vs 0) (ai vs 1) (ai vs 2) (ai vs 3) h k) [v0,(.aa),I 0,I 0] h λx vs h=>HT cl x (ai vs 0) (ai vs 1) (ai vs 2) (ai vs 3) (ai vs 4) (ai vs 5) h Q
theorem C13{cl}(hcl:bt prog cl){v0 h Q}(hg:g13 cl v0 h Q):aJ prog 13 [v0] h Q:=bI hcl [(5,.l [0,5,6,7] [0,2,3,4,5,6]),(8,.j [0,2,3,4,5,6,7])] func13 (by kernel_rfl) (by kernel_rfl) hg
open Go.St
structure RS where
 pos:Nat
 bad:Bool
structure Rd where
 s:Str
 t:RS
def rdC(x:Rd):LA:=[.str x.s,I x.t.pos,.bool x.t.bad]
theorem gi(x:Rd):vt (rdC x):=by
 intro H;rw[bK];refine⟨rfl,λi a b ha hb=>?_⟩;rw[ha]at hb;cases hb;match i with
 |0=>simp[rdC]at ha;subst ha;exact .str _
 |1=>simp[rdC]at ha;subst ha;exact .int _ _
 |2=>simp[rdC]at ha;subst ha;exact .bool _
 |i+3=>simp[rdC]at ha
def Rd.Ok(x:Rd):Prop:=x.s.length<=1000000/\x.t.pos<=x.s.length+1
def aN(s:Str)(t:RS):RS:=if s[t.pos]?=some 32 then⟨t.pos+1,t.bad⟩else⟨t.pos,true⟩
def aP(s:Str)(t:RS):Str:=(s.drop t.pos).takeWhile (bl false)
def aX(s:Str)(t:RS):RS:=⟨t.pos+(aP s t).length,t.bad⟩
def cG(s:Str)(t:RS):Int:=dV (s.drop (aN s t).pos)
def dU(s:Str)(t:RS):RS:=⟨t.pos+((s.drop t.pos).length-(fH (s.drop t.pos)).length),t.bad || !(kU (s.drop t.pos))⟩
def a_(s:Str)(t:RS):RS:=dU s (aN s t)
def rQ1(s:Str)(c:UInt8)(t:RS):UInt8×RS:=if c=92 then(match s[t.pos+1]? with|some d=>(if d=110 then 10 else d,⟨t.pos+2,t.bad || !(mq d)⟩)|none=>(92,⟨t.pos+1,true⟩))else(c,⟨t.pos+1,t.bad⟩)
def rQL(s:Str):Nat->Str->RS->Str×RS
 |0,out,t=>(out,t)
 |n+1,out,t=>match s[t.pos]? with
  |some c=>if c=34 then(out,t)else rQL s n (out++[(rQ1 s c t).1]) (rQ1 s c t).2
  |none=>(out,t)
def ju(s:Str)(t:RS):Str:=if s[t.pos]?=some 34 then(rQL s s.length [] ⟨t.pos+1,t.bad⟩).1 else []
def fb(s:Str)(t:RS):RS:=if s[t.pos]?=some 34 then⟨(rQL s s.length [] ⟨t.pos+1,t.bad⟩).2.pos+1,((rQL s s.length [] ⟨t.pos+1,t.bad⟩).2.bad||decide (s.length<=(rQL s s.length [] ⟨t.pos+1,t.bad⟩).2.pos)) || !(Lib.validD (rQL s s.length [] ⟨t.pos+1,t.bad⟩).1)⟩else⟨t.pos,true⟩
def fP(s:Str)(t:RS):Str:=ju s (aN s t)
def ft(s:Str)(t:RS):RS:=fb s (aN s t)
theorem uS{s:Str}{t:RS}(h:t.pos<=s.length+1):(aN s t).pos<=s.length+1:=by
 unfold aN;split
 ·rename_i h32;have:=(amV.1 h32).1;simp only;omega
 ·exact h
theorem adU(h:AH)(id:Nat)(x:Rd)(hc:h.ab id=some (rdC x))(hid:id<h.nx)(hx:x.Ok):aK prog 51 [.ptr id 0] h (.bool (decide (x.s.length<=x.t.pos))) h:=by
 obtain⟨s,⟨p,b⟩⟩:=x;refine aZ (R:=λv h'=>v =.bool (decide (s.length<=p))/\h.nx<=h'.nx/\h'.H=h.H) (C51 (aW []) ?_) λv' h' ⟨h1,h2,h3⟩=>⟨by rw[h1];exact .bool _,h2,λi _=>by rw[h3]⟩
 have hc':h.ab id=some [.str s,I p,.bool b]:=hc;simp[g51,hc'];simp[QG,hc']
def e51:QE prog:=QE.abx 51 (λ_ _=>True) rdC (fun(_:Unit)=>[]) (fun(x:Rd)(y:Unit)=>match y with|_=>x.Ok) (fun(x:Rd)(y:Unit)=>match y with|_=>.bool (decide (x.s.length<=x.t.pos))) (λh id x y hj hc hid hx=>match y,hx with|_,hx=>adU h id x hc hid hx)
theorem PV{tl h}{id:Nat}{x:Rd}{Q:QT}(hc:h.ab id=some (rdC x))(hid:id<h.nx)(hx:x.Ok)(hq:Q (.bool (decide (x.s.length<=x.t.pos))) h):tb (e51::tl) 51 (.ptr id 0::[]) h Q:=y_ () trivial hc hid hx hq
@[simp ↓] theorem akb:TbT e51 51:=aH e51
theorem ado(h:AH)(id:Nat)(x:Rd)(hc:h.ab id=some (rdC x))(hid:id<h.nx)(hx:x.Ok):aK prog 47 [.ptr id 0] h (.tup []) (h.set id (.cells (rdC ⟨x.s,aN x.s x.t⟩))):=by
 obtain⟨s,⟨p,b⟩⟩:=x;have hs:s.length<=1000000:=hx.1;have hp:p<=s.length+1:=hx.2;refine bm (R:=λv h'=>v =.tup []/\Ob h h' id (rdC ⟨s,aN s ⟨p,b⟩⟩)) hid (gi _) (C47 (aW []) ?_) λv' h' ⟨h1,h2⟩=>⟨by rw[h1];exact .tup [] [] rfl (by simp),h2⟩
 have hc':h.ab id=some [.str s,I p,.bool b]:=hc;simp[g47];refine⟨λvs h'=>vs=[.ptr id 0,.bool (!(s[p]?== some 32))]/\Ob h h' id (rdC ⟨s,⟨p,b⟩⟩),?_,?_⟩
 ·by_cases hlt:p<s.length
  ·obtain⟨c,hcp⟩:∃c,s[p]?=some c:=⟨s[p],am0 hlt⟩;have cw:¬(s.length:Int)<=p:=by omega
   have k1:=AY c;rw[hcp];simp[FO,hc'];simp[GH,hc',cw];simp[II,hc',bC hcp,k1];exact⟨rfl,(Ob.start hc).bump _ (by simp)⟩
  ·have cw:(s.length:Int)<=p:=by omega
   have hn:s[p]?=none:=by rw[ank];omega
   rw[hn];simp[FO,hc'];simp[GH,hc',cw];simp[II];exact(Ob.start hc).bump _ (by simp)
 ·rintro vs h' ⟨rfl,ho⟩;have hc2:h'.ab id=some [.str s,I p,.bool b]:=ho.c;by_cases h32:s[p]?=some 32
  ·have e:aN s ⟨p,b⟩=⟨p+1,b⟩:=by unfold aN;rw[am1 h32]
   rw[e,h32];simp(disch:=first|go_size|fail)[Gu,hc2];exact ho.set _
  ·have e:aN s ⟨p,b⟩=⟨p,true⟩:=by unfold aN;rw[amU h32]
   have hb:(!(s[p]?== some 32))=true:=by simp[h32]
   rw[e,hb];simp(disch:=first|go_size|fail)[Gu,hc2];exact ho.set _
def e47:QE prog:=QE.obj 47 (λ_ _=>True) rdC (fun(_:Unit)=>[]) (fun(x:Rd)(y:Unit)=>match y with|_=>x.Ok) (fun(x:Rd)(y:Unit)=>match y with|_=>.tup []) (fun(x:Rd)(y:Unit)=>match y with|_=>⟨x.s,aN x.s x.t⟩) (λh id x y hj hc hid hx=>match y,hx with|_,hx=>ado h id x hc hid hx)
theorem qd{tl h}{id:Nat}{x:Rd}{Q:QT}(hc:h.ab id=some (rdC x))(hid:id<h.nx)(hx:x.Ok)(hq:Q (.tup []) (h.set id (.cells (rdC (⟨x.s,aN x.s x.t⟩))))):tb (e47::tl) 47 (.ptr id 0::[]) h Q:=bF () trivial hc hid hx hq
@[simp ↓] theorem aj5:TbT e47 47:=aH e47
theorem Wg(h:AH)(id:Nat)(x:Rd)(hc:h.ab id=some (rdC x))(hid:id<h.nx)(hx:x.Ok/\x.t.pos<=x.s.length):aK prog 46 [.ptr id 0] h (.str (aP x.s x.t)) (h.set id (.cells (rdC ⟨x.s,aX x.s x.t⟩))):=by
 obtain⟨s,⟨p,b⟩⟩:=x;have hs:s.length<=1000000:=hx.1.1;have hp:p<=s.length:=hx.2;have hw:p+(aP s ⟨p,b⟩).length<=s.length:=by
  have:=mD (bl false) (s.drop p);rw[am3]at this;unfold aP;simp only;omega
 refine bm (R:=λv h'=>v =.str (aP s ⟨p,b⟩)/\Ob h h' id (rdC ⟨s,aX s ⟨p,b⟩⟩)) hid (gi _) (C46 (aW []) ?_) λv' h' ⟨h1,h2⟩=>⟨by rw[h1];exact .str _,h2⟩
 have hc':h.ab id=some [.str s,I p,.bool b]:=hc;have eT:aX s ⟨p,b⟩=⟨p+(aP s ⟨p,b⟩).length,b⟩:=rfl;rw[eT];generalize hW:aP s ⟨p,b⟩=W at*;have hWd:(s.drop p).takeWhile (bl false)=W:=hW;simp[g46,hc'];refine⟨λm vs h'=>∃q,vs=[.ptr id 0,I p]/\Ob h h' id (rdC ⟨s,⟨q,b⟩⟩)/\p<=q/\q<=p+W.length/\m=p+W.length-q,W.length,?_,?_⟩
 ·exact⟨p,rfl,Ob.start hc,by omega,by omega,by omega⟩
 ·rintro m vs h' ⟨q,rfl,ho,hq0,hq1,rfl⟩;have hc2:h'.ab id=some [.str s,I q,.bool b]:=ho.c;simp[Sv];refine⟨λvs h2=>vs=[.ptr id 0,I p,.bool (decide (q<p+W.length))]/\Ob h h2 id (rdC ⟨s,⟨q,b⟩⟩),?_,?_⟩
  ·by_cases hlt:q<s.length
   ·obtain⟨c,hcp⟩:∃c,s[q]?=some c:=⟨s[q],am0 hlt⟩;have cw:(q:Int)<s.length:=by omega
    have htw:=Tj (bl false) (s.drop p) (q-p) (by rw[hWd];omega);rw[hWd,anl,show p+(q-p)=q by omega,hcp]at htw;have CW:decide (q<p+W.length)=bl false c:=by
     cases hb:bl false c
     ·rw[ano,show q<p+W.length↔q-p<W.length by omega,htw];rintro⟨x,hx1,hx2⟩;cases hx1;rw[hb]at hx2;cases hx2
     ·rw[decide_eq_true_iff,show q<p+W.length↔q-p<W.length by omega,htw];exact⟨c,rfl,hb⟩
    rw[CW];have h8:=AY c;simp[Hk,hc2];simp[Fm,hc2,cw];by_cases h32:c=32
    ·simp[AG,hc2,bC hcp,h8,h32];exact⟨by simp[bl],ho.bump _ (by simp)⟩
    ·simp[AG,hc2,bC hcp,h8,h32];exact⟨by simp[bl,h32],ho.bump _ (by simp)⟩
   ·have cw:¬(q:Int)<s.length:=by omega
    have CW:¬q<p+W.length:=by omega
    simp[Hk,hc2];simp[Fm,hc2,cw];simp(disch:=first|go_size|fail)[AG,CW];exact ho.bump _ (by simp)
  ·rintro vs h2 ⟨rfl,ho2⟩;have hc3:h2.ab id=some [.str s,I q,.bool b]:=ho2.c;by_cases hlt:q<p+W.length
   ·simp(disch:=first|go_size|fail)[GQ,hlt,hc3];exact⟨p+W.length-(q+1),by omega,q+1,ho2.set _,by omega,by omega,rfl⟩
   ·obtain rfl:q=p+W.length:=by omega
    simp only[hlt,aoz];simp[GQ];simp[PB];generalize hq:p+W.length=q at*;simp[Ho,hc3];simp[Ss,hc3,nG (show p<=q by omega) (show q<=s.length by omega)];refine⟨?_,ho2.bump _ (by simp)⟩;have:=Mr (bl false) (s.drop p);rw[hWd]at this;rw[show q-p=W.length by omega];exact this
def e46:QE prog:=QE.obj 46 (λ_ _=>True) rdC (fun(_:Unit)=>[]) (fun(x:Rd)(y:Unit)=>match y with|_=>x.Ok/\x.t.pos<=x.s.length) (fun(x:Rd)(y:Unit)=>match y with|_=>.str (aP x.s x.t)) (fun(x:Rd)(y:Unit)=>match y with|_=>⟨x.s,aX x.s x.t⟩) (λh id x y hj hc hid hx=>match y,hx with|_,hx=>Wg h id x hc hid hx)
theorem vP{tl h}{id:Nat}{x:Rd}{Q:QT}(hc:h.ab id=some (rdC x))(hid:id<h.nx)(hx:x.Ok/\x.t.pos<=x.s.length)(hq:Q (.str (aP x.s x.t)) (h.set id (.cells (rdC (⟨x.s,aX x.s x.t⟩))))):tb (e46::tl) 46 (.ptr id 0::[]) h Q:=bF () trivial hc hid hx hq
@[simp ↓] theorem akU:TbT e46 46:=aH e46
def muD(n:Int):Nat:=if n<0 then 2*n.natAbs+1 else 2*n.natAbs
def DI(k:Nat):Prop:=∀(n:Int) (h:AH),muD n<k -> -1000000000000000000<=n/\n<=1000000000000000000->aK prog 81 [I n] h (.str (Lib.itoa n)) h
def eD(k:Nat)(hk:DI k):QE prog:=
 ⟨81,λargs h Q=>∃n:Int,args=[I n]/\muD n<k/\(-1000000000000000000<=n/\n<=1000000000000000000)/\Q (.str (Lib.itoa n)) h,λargs h Q ⟨n,h1,h2,h3,h4⟩=>by
  subst h1;exact⟨_,_,hk n h h2 h3,h4⟩⟩
theorem afV{k:Nat}{hk:DI k}{tl h}{n:Int}{Q:QT}(h1:muD n<k)(h2 : -1000000000000000000<=n/\n<=1000000000000000000)(hq:Q (.str (Lib.itoa n)) h):tb (eD k hk::tl) 81 [I n] h Q:=by
 rw[dJ _ tl 81 _ _ _ rfl];exact⟨n,rfl,h1,h2,hq⟩
theorem bQ{h:AH}{a b:Str}(hl:a.length+b.length<=9223372036854775807):ae h .add (.str a) (.str b)=some (.str (a++b),h):=by
 simp[ae,dy,vn,hl]
theorem Dp(u:Nat):(Lib.decDigits u).length<=u+1:=by
 induction u using Nat.strongRecOn with
 |_ u ih=>
  by_cases h:u<10
  ·rw[Lib.decDigits,dif_pos h];simp
  ·rw[Lib.decDigits,dif_neg h,amX,am2];have:=ih (u/10) (by omega);omega
theorem Co{h:AH}{k:Nat}{l:Str}(hc:h.ab k=some (aR l)):kX h .b2s [.rsl k 0 l.length 1]=some (.str l,h):=by
 have h1:cut (aR l) 0 l.length=some (aR l):=by
  have:=aM (α:=aR l) (b:=[]) (n:=l.length) (by simp[aR]);rwa [am5]at this
 have hb:=vV l;simp[kX,cj,fj,hc,h1,hb]
theorem adB{n:Int}(h0:0<=n)(h1:n<10):IntKind.u8.wrap (48+n)=((UInt8.ofNat (48+n.toNat)).toNat:Int):=by
 have:=CG n.toNat (by omega);rw[this];simp only[IntKind.wrap,IntKind.bits,IntKind.signed];simp;omega
theorem PY{k:Nat}(hk:DI k):DI (k+1):=by
 intro n h hm hb;refine aZ (R:=λv h'=>v =.str (Lib.itoa n)/\h.nx<=h'.nx/\∀i,i<h.nx->h'.H.get i=h.H.get i) (C81 (aW [eD k hk]) ?_) λv' h' ⟨h1,h2,h3⟩=>⟨by rw[h1];exact .str _,h2,h3⟩
 by_cases hn:n<0
 ·simp(disch:=first|go_size|fail)[g81,hn];have e1:Lib.itoa n=[45]++Lib.itoa (-n):=by
   unfold Lib.itoa;rw[am1 hn,amU (by omega),show(-n).toNat=n.natAbs by omega];rfl
  have hl:=Dp (-n).toNat;have hl2:(Lib.itoa (-n)).length<=1000000000000000001:=by unfold Lib.itoa;rw[amU (by omega)];omega
  refine afV (n:= -n) (by unfold muD at hm ⊢; rw[am1 hn]at hm;rw[amU (by omega)];omega) (by omega) ?_;rw[bQ (by simp;omega),e1];simp(disch:=first|go_size|fail)[]
 ·by_cases h10:n<10
  ·have e1:Lib.itoa n=[UInt8.ofNat (48+n.toNat)]:=by unfold Lib.itoa;rw[amU hn,Lib.decDigits,dif_pos (by omega)]
   simp(disch:=first|go_size|fail)[g81,hn,h10];rw[adB (by omega) h10];have hc:(h.add (.cells [.int .u8 (UInt8.ofNat (48+n.toNat)).toNat])).ab h.nx=some (aR [UInt8.ofNat (48+n.toNat)]):=aj _ _ _ rfl;have:=Co hc;rw[am2]at this;rw[this,e1];simp(disch:=first|go_size|fail)[];intro i hi;rw[az,amU (by omega)]
  ·have e1:Lib.itoa n=Lib.itoa (n/10)++[UInt8.ofNat (48+(n%10).toNat)]:=by
    unfold Lib.itoa;rw[amU hn,amU (by omega),Lib.decDigits,dif_neg (by omega),show(n/10).toNat=n.toNat/10 by omega,show(n%10).toNat=n.toNat%10 by omega]
   have eq:n.tdiv 10=n/10:=Int.tdiv_eq_ediv_of_nonneg (by omega);have er:n.tmod 10=n%10:=Int.tmod_eq_emod_of_nonneg (by omega);have hl:=Dp (n/10).toNat;have hl2:(Lib.itoa (n/10)).length<=1000000000000000001:=by unfold Lib.itoa;rw[amU (by omega)];omega
   simp(disch:=first|go_size|fail)[g81,hn,h10];rw[Gt _ _ _ (by omega) (by rw[eq];omega) (by rw[eq];omega),eq];simp[];refine afV (n:=n/10) (by unfold muD at hm ⊢; rw[amU hn]at hm;rw[amU (by omega)];omega) (by omega) ?_;refine⟨by simp,?_⟩;rw[vX _ _ _ _ (by omega),er];simp[];simp(disch:=first|go_size|fail)[Tb];rw[adB (by omega) (by omega)];have hc:((AH.mk h.H (h.nx+11)).set (h.nx+7) (.cells [.int .u8 (UInt8.ofNat (48+(n%10).toNat)).toNat])).ab (h.nx+7)=some (aR [UInt8.ofNat (48+(n%10).toNat)]):=an _ _ _ _ rfl;have hb:=Co hc;rw[am2]at hb;rw[hb];simp(disch:=first|go_size|fail)[];rw[bQ (by simp;omega),e1];simp(disch:=first|go_size|fail)[xRd,rdK];intro i hi;rw[au,amU (by omega)]
theorem J4:∀k,DI k
 |0=>λn h hm _=>by omega
 |k+1=>PY (J4 k)
theorem MS(h:AH)(n:Int)(hn : -1000000000000000000<=n/\n<=1000000000000000000):aK prog 81 [I n] h (.str (Lib.itoa n)) h:=J4 (muD n+1) n h (by omega) hn
def e81:QE prog:=QE.fn 81 (λ_=>True) (fun(n:Int)=>[I n]) (fun(n:Int)(h:AH)=> -1000000000000000000<=n/\n<=1000000000000000000) (fun(n:Int)=>.str (Lib.itoa n)) (λh n hj hx=>MS h n hx)
theorem O2{tl h}(n:Int){Q:QT}(hx : -1000000000000000000<=n/\n<=1000000000000000000)(hq:Q (.str (Lib.itoa n)) h):tb (e81::tl) 81 [I n] h Q:=aV n trivial hx hq
@[simp ↓] theorem akm:TbT e81 81:=aH e81
theorem aaJ(h:AH)(s:Str)(hs:s.length<=1000000):aK prog 117 [.str s] h (.bool (Lib.validD s)) h:=by
 refine aZ (R:=λv h'=>v =.bool (Lib.validD s)/\h.nx<=h'.nx/\∀i,i<h.nx->h'.H.get i=h.H.get i) (aip (aW []) ?_) λv' h' ⟨h1,h2,h3⟩=>⟨by rw[h1];exact .bool _,h2,h3⟩
 simp[afa];rw[qj h s hs];have hc:(h.add (.cells ((aD s).map bH))).ab h.nx=some ((aD s).map bH):=aj _ _ _ rfl;have h1:cj (h.add (.cells ((aD s).map bH))) 1 (.rsl h.nx 0 (aD s).length 1)=some ((aD s).map bH):=by
  have:=aM (α:=(aD s).map bH) (b:=[]) (n:=(aD s).length) (by simp);rw[am5]at this;simp[cj,hc,this]
 have h2:=Fk (m:=(aD s).length) h1 (by simp[fj]);simp[h2,Qe];intro i hi;rw[az,amU (by omega)]
def Nl:QE prog:=QE.fn 117 (λ_=>True) (fun(s:Str)=>[.str s]) (fun(s:Str)(h:AH)=>s.length<=1000000) (fun(s:Str)=>.bool (Lib.validD s)) (λh s hj hx=>aaJ h s hx)
theorem SR{tl h}(s:Str){Q:QT}(hx:s.length<=1000000)(hq:Q (.bool (Lib.validD s)) h):tb (Nl::tl) 117 [.str s] h Q:=aV s trivial hx hq
@[simp ↓] theorem ais:TbT Nl 117:=aH Nl
