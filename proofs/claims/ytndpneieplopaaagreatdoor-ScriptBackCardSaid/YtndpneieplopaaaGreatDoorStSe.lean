/- The replacer's function, as plain transformers of predicates; printed by a program of ours. -/
import Derived.Test.YtndpneieplopaaaGreatDoorStFe
set_option linter.unusedSimpArgs false
set_option linter.unusedVariables false
noncomputable section
namespace Go.Proofs.YtndpneieplopaaaGreatDoor
open Go.Eng Tryz
set_option maxRecDepth 100000
def C3.r0:List aY:=[
 ⟨some 4,.mov (.const (.str [])),none⟩]
def C3.r1:List aY:=[
 ⟨some 16,.mov (.tmp 1),none⟩,
 ⟨some 17,.Xq (.tmp 16),none⟩,
 ⟨some 5,.mov (.tmp 17),none⟩]
def C3.r2:List aY:=[
 ⟨some 6,.mov (.const (.bool false)),none⟩]
def C3.r3:List aY:=[
 ⟨some 18,.mov (.tmp 0),none⟩,
 ⟨some 19,.CK (.tmp 18),none⟩,
 ⟨some 20,.abw 256 (.tmp 19),none⟩,
 ⟨some 21,.ld1 (.tmp 20),none⟩,
 ⟨some 22,.len (.tmp 21),none⟩,
 ⟨some 23,.arith .mul (.tmp 22) (.const (I 8)),none⟩,
 ⟨some 24,.mov (.tmp 1),none⟩,
 ⟨some 25,.Xq (.tmp 24),none⟩,
 ⟨some 26,.arith .leq (.tmp 23) (.tmp 25),none⟩]
def C3.r4:List aY:=[
 ⟨some 27,.mov (.tmp 0),none⟩,
 ⟨some 28,.CK (.tmp 27),none⟩,
 ⟨some 29,.abw 256 (.tmp 28),none⟩,
 ⟨some 30,.ld1 (.tmp 29),none⟩,
 ⟨some 31,.len (.tmp 30),none⟩,
 ⟨some 32,.mov (.const (I 0)),none⟩]
def C3.r5:List aY:=[
 ⟨some 33,.arith .lss (.tmp 32) (.tmp 31),none⟩]
def C3.r6:List aY:=[
 ⟨some 34,.abB 1 (.tmp 30) (.tmp 32),none⟩,
 ⟨some 35,.ld1 (.tmp 34),none⟩,
 ⟨some 8,.mov (.tmp 35),none⟩]
def C3.r7:List aY:=[
 ⟨some 36,.mov (.tmp 1),none⟩,
 ⟨some 37,.mov (.tmp 8),none⟩,
 ⟨some 38,.call (.const (.func (.func 164) [] [])) [.tmp 36,.tmp 37],none⟩,
 ⟨some 9,.mov (.tmp 38),none⟩]
def C3.r8:List aY:=[
 ⟨some 39,.mov (.tmp 9),none⟩,
 ⟨some 40,.arith .neq (.tmp 39) (.const (I 0)),none⟩]
def C3.r9:List (aY×Nat):=[
 (⟨some 41,.mov (.tmp 5),none⟩,0),
 (⟨some 42,.mov (.tmp 9),none⟩,0),
 (⟨some 43,.mov (.tmp 0),none⟩,0),
 (⟨some 44,.mov (.tmp 8),none⟩,0),
 (⟨some 45,.Xo (.tmp 44) (.const (I 0)),none⟩,8),
 (⟨some 46,.CK (.tmp 43),none⟩,4),
 (⟨some 47,.abw 0 (.tmp 46),none⟩,36),
 (⟨some 48,.uU 256 1 (.tmp 47) (.tmp 45),none⟩,124),
 (⟨some 49,.ld1 (.tmp 48),none⟩,252),
 (⟨some 50,.len (.tmp 49),none⟩,508),
 (⟨some 51,.arith .sub (.tmp 50) (.const (I 1)),none⟩,1020),
 (⟨some 52,.arith .mul (.tmp 42) (.tmp 51),none⟩,2046),
 (⟨some 53,.arith .add (.tmp 41) (.tmp 52),none⟩,4095),
 (⟨some 5,.mov (.tmp 53),none⟩,8191)]
def C3.r10:List aY:=[
 ⟨some 6,.mov (.const (.bool true)),none⟩]
def C3.r11:List aY:=[
 ⟨some 54,.arith .add (.tmp 32) (.const (I 1)),none⟩,
 ⟨some 32,.mov (.tmp 54),none⟩]
def C3.r12:List aY:=[
 ⟨some 10,.mov (.const (I 0)),none⟩]
def C3.r13:List aY:=[
 ⟨some 55,.mov (.tmp 10),none⟩,
 ⟨some 56,.mov (.tmp 1),none⟩,
 ⟨some 57,.Xq (.tmp 56),none⟩,
 ⟨some 58,.arith .lss (.tmp 55) (.tmp 57),none⟩]
def C3.r14:List aY:=[
 ⟨some 61,.mov (.tmp 1),none⟩,
 ⟨some 62,.mov (.tmp 10),none⟩,
 ⟨some 63,.Xo (.tmp 61) (.tmp 62),none⟩,
 ⟨some 11,.mov (.tmp 63),none⟩]
def C3.r15:List aY:=[
 ⟨some 64,.mov (.tmp 0),none⟩,
 ⟨some 65,.mov (.tmp 11),none⟩,
 ⟨some 66,.CK (.tmp 64),none⟩,
 ⟨some 67,.abw 0 (.tmp 66),none⟩,
 ⟨some 68,.uU 256 1 (.tmp 67) (.tmp 65),none⟩,
 ⟨some 69,.ld1 (.tmp 68),none⟩,
 ⟨some 70,.eqn .sl true (.tmp 69) (.const (.aa)),none⟩]
def C3.r16:List aY:=[
 ⟨some 71,.mov (.tmp 5),none⟩,
 ⟨some 72,.mov (.tmp 0),none⟩,
 ⟨some 73,.mov (.tmp 11),none⟩,
 ⟨some 74,.CK (.tmp 72),none⟩,
 ⟨some 75,.abw 0 (.tmp 74),none⟩,
 ⟨some 76,.uU 256 1 (.tmp 75) (.tmp 73),none⟩,
 ⟨some 77,.ld1 (.tmp 76),none⟩,
 ⟨some 78,.len (.tmp 77),none⟩,
 ⟨some 79,.arith .sub (.tmp 78) (.const (I 1)),none⟩,
 ⟨some 80,.arith .add (.tmp 71) (.tmp 79),none⟩,
 ⟨some 5,.mov (.tmp 80),none⟩]
def C3.r17:List aY:=[
 ⟨some 6,.mov (.const (.bool true)),none⟩]
def C3.r18:List aY:=[
 ⟨some 59,.mov (.tmp 10),none⟩,
 ⟨some 60,.arith .add (.tmp 59) (.const (I 1)),none⟩,
 ⟨some 10,.mov (.tmp 60),none⟩]
def C3.r19:List aY:=[
 ⟨some 81,.mov (.tmp 6),none⟩,
 ⟨some 82,.un .not (.tmp 81),none⟩]
def C3.r20:List aY:=[
 ⟨some 83,.mov (.tmp 1),none⟩,
 ⟨some 4,.mov (.tmp 83),none⟩]
def C3.r21:List aY:=[
 ⟨some 84,.mov (.tmp 5),none⟩,
 ⟨some 85,.Uu 1 1 [.int .u8 0] (.tmp 84) (.tmp 84),none⟩,
 ⟨some 12,.mov (.tmp 85),none⟩]
def C3.r22:List aY:=[
 ⟨some 13,.mov (.const (I 0)),none⟩]
def C3.r23:List aY:=[
 ⟨some 14,.mov (.const (I 0)),none⟩]
def C3.r24:List aY:=[
 ⟨some 86,.mov (.tmp 14),none⟩,
 ⟨some 87,.mov (.tmp 1),none⟩,
 ⟨some 88,.Xq (.tmp 87),none⟩,
 ⟨some 89,.arith .lss (.tmp 86) (.tmp 88),none⟩]
def C3.r25:List aY:=[
 ⟨some 92,.mov (.tmp 1),none⟩,
 ⟨some 93,.mov (.tmp 14),none⟩,
 ⟨some 94,.Xo (.tmp 92) (.tmp 93),none⟩,
 ⟨some 15,.mov (.tmp 94),none⟩]
def C3.r26:List aY:=[
 ⟨some 95,.mov (.tmp 0),none⟩,
 ⟨some 96,.mov (.tmp 15),none⟩,
 ⟨some 97,.CK (.tmp 95),none⟩,
 ⟨some 98,.abw 0 (.tmp 97),none⟩,
 ⟨some 99,.uU 256 1 (.tmp 98) (.tmp 96),none⟩,
 ⟨some 100,.ld1 (.tmp 99),none⟩,
 ⟨some 101,.eqn .sl true (.tmp 100) (.const (.aa)),none⟩]
def C3.r27:List (aY×Nat):=[
 (⟨some 102,.mov (.tmp 13),none⟩,0),
 (⟨some 103,.mov (.tmp 12),none⟩,0),
 (⟨some 104,.mov (.tmp 13),none⟩,0),
 (⟨some 105,.sl 1 (.tmp 103) (some (.tmp 104)) none none,none⟩,6),
 (⟨some 106,.mov (.tmp 0),none⟩,0),
 (⟨some 107,.mov (.tmp 15),none⟩,0),
 (⟨some 108,.CK (.tmp 106),none⟩,16),
 (⟨some 109,.abw 0 (.tmp 108),none⟩,80),
 (⟨some 110,.uU 256 1 (.tmp 109) (.tmp 107),none⟩,240),
 (⟨some 111,.ld1 (.tmp 110),none⟩,496),
 (⟨some 112,.copy 1 (.tmp 105) (.tmp 111),none⟩,1022),
 (⟨some 113,.arith .add (.tmp 102) (.tmp 112),none⟩,2047),
 (⟨some 13,.mov (.tmp 113),none⟩,4095)]
def C3.r28:List aY:=[
 ⟨some 114,.mov (.tmp 12),none⟩,
 ⟨some 115,.mov (.tmp 13),none⟩,
 ⟨some 116,.mov (.tmp 15),none⟩,
 ⟨some 117,.abB 1 (.tmp 114) (.tmp 115),none⟩,
 ⟨none,.st 1 (.tmp 117) (.tmp 116),none⟩]
def C3.r29:List aY:=[
 ⟨some 118,.mov (.tmp 13),none⟩,
 ⟨some 119,.arith .add (.tmp 118) (.const (I 1)),none⟩,
 ⟨some 13,.mov (.tmp 119),none⟩]
def C3.r30:List aY:=[
 ⟨some 90,.mov (.tmp 14),none⟩,
 ⟨some 91,.arith .add (.tmp 90) (.const (I 1)),none⟩,
 ⟨some 14,.mov (.tmp 91),none⟩]
def C3.r31:List aY:=[
 ⟨some 120,.mov (.tmp 12),none⟩,
 ⟨some 121,.xo .b2s [.tmp 120],none⟩,
 ⟨some 4,.mov (.tmp 121),none⟩]
def C3:SFn:=⟨122,[.tmp 4],.seq (.reg C3.r0) (.seq (.reg C3.r1) (.seq (.reg C3.r2) (.seq (.seq (.reg C3.r3) (.xI [0,1,5,6] (.cond (.tmp 26) (.seq (.reg C3.r4) (.block 0 (.loop [0,1,5,6,30,31,32] [0,1,5,6] (.seq (.reg C3.r5) (.seq (.cond (.tmp 33) (.skip) (.exit 0)) (.seq (.xI [0,1,5,6,30,31,32] (.block 1 (.seq (.reg C3.r6) (.seq (.reg C3.r7) (.seq (.reg C3.r8) (.cond (.tmp 40) (.seq (.draw C3.r9) (.reg C3.r10)) (.skip))))))) (.reg C3.r11))))))) (.seq (.reg C3.r12) (.block 2 (.loop [0,1,5,6,10] [0,1,5,6] (.seq (.seq (.reg C3.r13) (.cond (.tmp 58) (.skip) (.exit 2))) (.seq (.xI [0,1,5,6,10] (.block 3 (.seq (.reg C3.r14) (.seq (.reg C3.r15) (.cond (.tmp 70) (.seq (.reg C3.r16) (.reg C3.r17)) (.skip)))))) (.reg C3.r18))))))))) (.seq (.seq (.reg C3.r19) (.cond (.tmp 82) (.seq (.reg C3.r20) (.ret)) (.skip))) (.seq (.reg C3.r21) (.seq (.reg C3.r22) (.seq (.seq (.reg C3.r23) (.block 4 (.loop [0,1,12,13,14] [12] (.seq (.seq (.reg C3.r24) (.cond (.tmp 89) (.skip) (.exit 4))) (.seq (.xI [0,1,12,13,14] (.block 5 (.seq (.reg C3.r25) (.seq (.reg C3.r26) (.cond (.tmp 101) (.draw C3.r27) (.seq (.reg C3.r28) (.reg C3.r29))))))) (.reg C3.r30)))))) (.seq (.reg C3.r31) (.ret)))))))))⟩
theorem aya:cFn prog Tryz.f251=some C3.erase:=by kernel_rfl
def avd(cl:CL)(v0 v1 v5 v30 v31 v32 v41 v52:AV)(h:AH)(k:NT):=wdp h (ae h .add v41 v52) .pure λv53 c12 h=>wdp h (aB h v53) .pure λv5 c13 h=>k [v0,v1,v5,(.bool true),v30,v31,v32] h
def aum(cl:CL)(v0 v1 v5 v30 v31 v32 v41 v42 v43 v44:AV)(h:AH)(k:NT):=wdp h (dH h v44 (I 0)) .pure λv45 c4 h=>wdp h (aq h v43) .pure λv46 c5 h=>wdp h (ah h 0 v46) .pure λv47 c6 h=>wdp h (fv h 256 1 v47 v45) .pure λv48 c7 h=>wdp h (eK h v48) (rdK (rdv v48)) λv49 c8 h=>wdp h (bh h v49) .pure λv50 c9 h=>wdp h (ae h .sub v50 (I 1)) .pure λv51 c10 h=>wdp h (ae h .mul v42 v51) .pure λv52 c11 h=>avd cl (v0) (v1) (v5) (v30) (v31) (v32) (v41) (v52) h k
def auF(cl:CL)(v0 v1 v5 v6 v30 v31 v32:AV)(h:AH)(k:NT):=wk (aF h 1 v30 v32) λv34 h=>wk (eK h v34) λv35 h=>ax cl (.func (.func 164) [] []) [v1,v35] h λv38 h=>wk (ae h .neq v38 (I 0)) λv40 h=>wif v40 (wdr h 14 λr h=>wdp h (aB h v5) .pure λv41 c0 h=>wdp h (aB h v38) .pure λv42 c1 h=>wdp h (aB h v0) .pure λv43 c2 h=>wdp h (aB h v35) .pure λv44 c3 h=>aum cl (v0) (v1) (v5) (v30) (v31) (v32) (v41) (v42) (v43) (v44) h k) (k [v0,v1,v5,v6,v30,v31,v32] h)
def auo(cl:CL)(v0 v1 v5 v6 v30 v31 v32:AV)(h:AH)(k:AX->List AV->NT):=wk (ae h .add v32 (I 1)) λv54 h=>k .nrm [v0,v1,v5,v6,v30,v31,v54] [v0,v1,v5,v6] h
def ar0(cl:CL)(v0 v1 v5 v6 v30 v31 v32:AV)(h:AH)(k:AX->List AV->NT):=wk (ae h .lss v32 v31) λv33 h=>wif v33 (aI (auF cl (v0) (v1) (v5) (v6) (v30) (v31) (v32) h) λvs h=>auo cl (ai vs 0) (ai vs 1) (ai vs 2) (ai vs 3) (ai vs 4) (ai vs 5) (ai vs 6) h k) (k (.exit 0) [v0,v1,v5,v6,v30,v31,v32] [v0,v1,v5,v6] h)
def ass(cl:CL)(v0 v1 v5 v6:AV)(h:AH)(k:NT):=k [v0,v1,v5,v6] h
def auj(cl:CL)(x:AX)(v0 v1 v5 v6:AV)(h:AH)(k:NT):=xs x (ass cl (v0) (v1) (v5) (v6) h k) (λj=>cond (Nat.beq j 0) (ass cl (v0) (v1) (v5) (v6) h k) (False)) (False)
def auY(cl:CL)(v0 v1 v10 v71 v73 v75:AV)(h:AH)(k:NT):=wk (fv h 256 1 v75 v73) λv76 h=>wk (eK h v76) λv77 h=>wk (bh h v77) λv78 h=>wk (ae h .sub v78 (I 1)) λv79 h=>wk (ae h .add v71 v79) λv80 h=>k [v0,v1,v80,(.bool true),v10] h
def asm(cl:CL)(v0 v1 v5 v6 v10:AV)(h:AH)(k:NT):=wk (dH h v1 v10) λv63 h=>wk (aq h v0) λv66 h=>wk (ah h 0 v66) λv67 h=>wk (fv h 256 1 v67 v63) λv68 h=>wk (eK h v68) λv69 h=>wk (NF h .sl true v69 (.aa)) λv70 h=>wif v70 (wk (aq h v0) λv74 h=>wk (ah h 0 v74) λv75 h=>auY cl (v0) (v1) (v10) (v5) (v63) (v75) h k) (k [v0,v1,v5,v6,v10] h)
def aup(cl:CL)(v0 v1 v5 v6 v10:AV)(h:AH)(k:AX->List AV->NT):=wk (ae h .add v10 (I 1)) λv60 h=>k .nrm [v0,v1,v5,v6,v60] [v0,v1,v5,v6] h
def asv(cl:CL)(v0 v1 v5 v6 v10:AV)(h:AH)(k:AX->List AV->NT):=wk (cL h v1) λv57 h=>wk (ae h .lss v10 v57) λv58 h=>wif v58 (aI (asm cl (v0) (v1) (v5) (v6) (v10) h) λvs h=>aup cl (ai vs 0) (ai vs 1) (ai vs 2) (ai vs 3) (ai vs 4) h k) (k (.exit 2) [v0,v1,v5,v6,v10] [v0,v1,v5,v6] h)
def ar2(cl:CL)(v0 v1 v5 v6:AV)(h:AH)(k:NT):=k [v0,v1,v5,v6] h
def asN(cl:CL)(x:AX)(v0 v1 v5 v6:AV)(h:AH)(k:NT):=xs x (ar2 cl (v0) (v1) (v5) (v6) h k) (λj=>cond (Nat.beq j 2) (ar2 cl (v0) (v1) (v5) (v6) h k) (False)) (False)
def aqr(cl:CL)(v0 v1 v5 v6 v26:AV)(h:AH)(k:NT):=wif v26 (wk (aq h v0) λv28 h=>wk (ah h 256 v28) λv29 h=>wk (eK h v29) λv30 h=>wk (bh h v30) λv31 h=>b9 (λvs h k=>ar0 cl (ai vs 0) (ai vs 1) (ai vs 2) (ai vs 3) (ai vs 4) (ai vs 5) (ai vs 6) h k) [v0,v1,v5,v6,v30,v31,(I 0)] h λx vs h=>auj cl x (ai vs 0) (ai vs 1) (ai vs 2) (ai vs 3) h k) (b9 (λvs h k=>asv cl (ai vs 0) (ai vs 1) (ai vs 2) (ai vs 3) (ai vs 4) h k) [v0,v1,v5,v6,(I 0)] h λx vs h=>asN cl x (ai vs 0) (ai vs 1) (ai vs 2) (ai vs 3) h k)
def ava(cl:CL)(v0 v1 v12 v13 v14 iW v105 gp:AV)(h:AH)(k:NT):=wde h (yq h 1 v105 gp) λjD c10 h=>wdp h (ae h .add iW jD) .pure λlx c11 h=>wdp h (aB h lx) .pure λv13 c12 h=>k [v0,v1,v12,v13,v14] h
def auX(cl:CL)(v0 v1 v12 v13 v14 v15 iW mO:AV)(h:AH)(k:NT):=wdp h (aB h v13) .pure λpV c2 h=>wdp h (kSl h 1 mO (some pV) none none) .pure λv105 c3 h=>wdp h (aB h v0) .pure λmg c4 h=>wdp h (aB h v15) .pure λv107 c5 h=>wdp h (aq h mg) .pure λiL c6 h=>wdp h (ah h 0 iL) .pure λv109 c7 h=>wdp h (fv h 256 1 v109 v107) .pure λkq c8 h=>wdp h (eK h kq) (rdK (rdv kq)) λgp c9 h=>ava cl (v0) (v1) (v12) (v13) (v14) (iW) (v105) (gp) h k
def auD(cl:CL)(v0 v1 v12 v13 v14:AV)(h:AH)(k:NT):=wk (ae h .add v13 (I 1)) λkJ h=>k [v0,v1,v12,kJ,v14] h
def arE(cl:CL)(v0 v1 v12 v13 v14:AV)(h:AH)(k:NT):=wk (dH h v1 v14) λv94 h=>wk (aq h v0) λv97 h=>wk (ah h 0 v97) λv98 h=>wk (fv h 256 1 v98 v94) λv99 h=>wk (eK h v99) λgF h=>wk (NF h .sl true gF (.aa)) λlu h=>wif lu (wdr h 13 λr h=>wdp h (aB h v13) .pure λiW c0 h=>wdp h (aB h v12) .pure λmO c1 h=>auX cl (v0) (v1) (v12) (v13) (v14) (v94) (iW) (mO) h k) (wk (aF h 1 v12 v13) λv117 h=>wk (kSt h 1 v117 v94) λ_ h=>auD cl (v0) (v1) (v12) (v13) (v14) h k)
def asU(cl:CL)(v0 v1 v12 v13 v14:AV)(h:AH)(k:AX->List AV->NT):=wk (ae h .add v14 (I 1)) λv91 h=>k .nrm [v0,v1,v12,v13,v91] [v12] h
def arx(cl:CL)(v0 v1 v12 v13 v14:AV)(h:AH)(k:AX->List AV->NT):=wk (cL h v1) λv88 h=>wk (ae h .lss v14 v88) λv89 h=>wif v89 (aI (arE cl (v0) (v1) (v12) (v13) (v14) h) λvs h=>asU cl (ai vs 0) (ai vs 1) (ai vs 2) (ai vs 3) (ai vs 4) h k) (k (.exit 4) [v0,v1,v12,v13,v14] [v12] h)
def arv(cl:CL)(v12:AV)(h:AH)(Q:QT):=wk (kX h .b2s [v12]) λkK h=>Q (kK) h
def as1(cl:CL)(x:AX)(v12:AV)(h:AH)(Q:QT):=xs x (arv cl (v12) h Q) (λj=>cond (Nat.beq j 4) (arv cl (v12) h Q) (False)) (Q (.undef) h)
def arA(cl:CL)(v0 v1 v5 v6:AV)(h:AH)(Q:QT):=wk (kUn h .not v6) λv82 h=>wif v82 (Q (v1) h) (wk (nZ h 1 1 [.int .u8 0] v5 v5) λv85 h=>b9 (λvs h k=>arx cl (ai vs 0) (ai vs 1) (ai vs 2) (ai vs 3) (ai vs 4) h k) [v0,v1,v85,(I 0),(I 0)] h λx vs h=>as1 cl x (ai vs 0) h Q)
def ayV(cl:CL)(v0 v1:AV)(h:AH)(Q:QT):=wk (cL h v1) λv17 h=>wk (aq h v0) λv19 h=>wk (ah h 256 v19) λv20 h=>wk (eK h v20) λv21 h=>wk (bh h v21) λv22 h=>wk (ae h .mul v22 (I 8)) λv23 h=>wk (cL h v1) λv25 h=>wk (ae h .leq v23 v25) λv26 h=>aI (aqr cl (v0) (v1) (v17) ((.bool false)) (v26) h) λvs h=>arA cl (ai vs 0) (ai vs 1) (ai vs 2) (ai vs 3) h Q
theorem axJ(cl:CL)(v0 v1:AV)(h:AH)(Q:QT):ZF cl C3 [v0,v1] h Q=ayV cl v0 v1 h Q:=by kernel_rfl
theorem aAS{cl:CL}(hcl:bt prog cl){v0 v1:AV}{h:AH}{Q:QT}(hg:ayV cl v0 v1 h Q):aJ prog 251 [v0,v1] h Q:=ZX hcl (f:=251) (fn:=Tryz.f251) (by kernel_rfl) aya (by decide) (by kernel_rfl) (WT (by kernel_rfl)) (by rw[axJ];exact hg)
end Go.Proofs.YtndpneieplopaaaGreatDoor
end
noncomputable section
namespace Go.St
open Go.Eng
open Go.Lib
def aqW(c:UInt8):Str:=if c=92 then [92,92]else if c=34 then [92,34]else if c=10 then [92,110]else [c]
def p7:Str->Str
 |[]=>[]
 |c::s=>aqW c++p7 s
def wQ(s:Str):Str:=34::(p7 s++[34])
def kI:List Str->Str
 |[]=>[]
 |w::r=>32::(w++kI r)
def p6:List Str->Str
 |[]=>[]
 |w::r=>w++kI r
mutual
def MP:Val->Str
 |.mk k n s l=>if k=1 then itoa n else if k=2 then(if n=1 then d_ else LM)else if k=3 then wQ s else if k=4 then 91::(p6 (kS l)++[93])else []
def kS:List Val->List Str
 |[]=>[]
 |v::r=>MP v::kS r
end
theorem arR(a b:Str):p7 (a++b)=p7 a++p7 b:=by
 induction a with
 |nil=>rfl
 |cons c a ih=>simp only[anB,p7,ih,aok]
theorem arX(a b:List Val):kS (a++b)=kS a++kS b:=by
 induction a with
 |nil=>simp[kS]
 |cons c a ih=>simp[kS,ih]
def spW(t:PS):Str:=if t.first=true then []else [32]
theorem avf{s:Str}{p:Nat}{c:UInt8}(h:s[p]?=some c):s.drop p=c::s.drop (p+1):=by
 obtain⟨hlt,he⟩:=amV.1 h;rw[ang hlt,he]
theorem apD{s:Str}{b:UInt8}{t:PS}(h:(bg s b t).ok=true):t.ok=true/\s.drop t.pos=b::s.drop (bg s b t).pos/\(bg s b t).first=t.first:=by
 unfold bg at h ⊢;split at h
 ·rename_i hc;rw[am1 hc];have hm:=hc.1;unfold bB at hm;simp only[amZ]at hm;exact⟨hm.1,avf hc.2,rfl⟩
 ·cases h
theorem ao3(s:Str)(t:PS):(mi s t).first=false:=by
 unfold mi;split
 ·rfl
 ·rename_i h;unfold bg;split<;>simpa using h
theorem apc(s:Str)(b:UInt8)(t:PS):(bg s b t).first=t.first:=by
 unfold bg;split<;>rfl
theorem aqI{s:Str}{t:PS}(h:(mi s t).ok=true):t.ok=true/\s.drop t.pos=spW t++s.drop (mi s t).pos:=by
 unfold mi at h ⊢;unfold spW;split at h
 ·rename_i hf;rw[am1 hf,am1 hf];exact⟨h,rfl⟩
 ·rename_i hf;rw[amU hf,amU hf];obtain⟨h1,h2,_⟩:=apD h;exact⟨h1,h2⟩
theorem avK(p:UInt8->Bool)(l:Str):l=l.takeWhile p++l.drop (l.takeWhile p).length:=by
 induction l with
 |nil=>rfl
 |cons a l ih=>
  by_cases ha:p a=true
  ·rw[aof ha,am6,aox,anB,<-ih]
  ·rw[aog ha];rfl
theorem aqt{s:Str}{cl:Bool}{t:PS}(h:(vw s cl t).ok=true):t.ok=true/\s.drop t.pos=bZ s cl t++s.drop (vw s cl t).pos/\bZ s cl t≠[]/\(vw s cl t).first=t.first:=by
 unfold vw at h ⊢;simp only[amZ,anX]at h;refine⟨h.1,?_,?_,rfl⟩
 ·simp only;rw[<-an4];exact avK _ _
 ·intro e;rw[e]at h;simp at h
theorem atp(s:Str)(t:PS):(bq s t).first=false:=ao3 s t
theorem ara{s:Str}{t:PS}(h:(bq s t).ok=true):t.ok=true/\s.drop t.pos=spW t++(bT s t++s.drop (bq s t).pos)/\bT s t≠[]:=by
 obtain⟨h1,h2,h3,_⟩:=aqt h;obtain⟨h4,h5⟩:=aqI h1;exact⟨h4,by rw[h5,h2];rfl,h3⟩
theorem QF{s:Str}{t:PS}(h:(bc s t).ok=true):t.ok=true/\s.drop t.pos=spW t++(itoa (cQ s t)++s.drop (bc s t).pos) /\ -eM<=cQ s t/\cQ s t<=eM:=by
 unfold bc at h ⊢;simp only[amZ]at h;obtain⟨h1,h2,h3⟩:=ara h.1;obtain⟨n,n1,n2,n3,n4⟩:=(mP _).1 h.2;unfold cQ;rw[n4];exact⟨h1,by rw[h2,n3],n1,n2⟩
theorem apC(s:Str)(t:PS):(bc s t).first=false:=ao3 s t
theorem awr{l:List Str}{w:Str}(h:0<=idx l w):w=l.getD (idx l w).toNat []/\(idx l w).toNat<l.length:=by
 unfold idx at h ⊢;cases hf:l.findIdx? (· == w)with
 |none=>rw[hf]at h;simp at h
 |some i=>
  obtain⟨h1,h2,_⟩:=aCm.1 hf;simp only[aou];refine⟨?_,h1⟩;rw[anh,am0 h1];simpa using(eq_of_beq h2).symm
theorem ao2{s:Str}{l:List Str}{t:PS}(h:(aL s l t).ok=true):t.ok=true/\s.drop t.pos=spW t++(l.getD (bf s l t).toNat []++s.drop (aL s l t).pos)/\0<=bf s l t/\(bf s l t).toNat<l.length:=by
 unfold aL at h ⊢;simp only[amZ,ana]at h;obtain⟨h1,h2,h3⟩:=ara h.1;obtain⟨h4,h5⟩:=awr h.2;unfold bf;exact⟨h1,by rw[<-h4,h2],h.2,h5⟩
theorem ao6(s:Str)(l:List Str)(t:PS):(aL s l t).first=false:=ao3 s t
def PI(s:Str):Prop:=∀c∈s,c≠10
theorem avs{s:Str}(h:PI s){p:Nat}{c:UInt8}(hc:s[p]?=some c):c≠10:=h c (am9 hc)
theorem azB{c:UInt8}(h:mq c=true):aqW (D0 c)=[92,c]:=by
 unfold mq at h;simp only[anV,an2]at h;rcases h with(rfl|rfl)|rfl<;>rfl
theorem axj{s:Str}(hs:PI s):∀(n:Nat) (out:Str) (t:PS),(pQL s n out t).2.ok=true->t.ok=true/\(pQL s n out t).2.first=t.first/\∃x,(pQL s n out t).1=out++x/\s.drop t.pos=p7 x++s.drop (pQL s n out t).2.pos
 |0,out,t,h=>⟨h,rfl,[],by simp[pQL],rfl⟩
 |n+1,out,t,h=>by
  unfold pQL at h ⊢;by_cases hm:bB s t=true
  ·rw[am1 hm]at h ⊢;have hm2:=hm;unfold bB at hm2;simp only[amZ,ana]at hm2;obtain⟨c,hc⟩:∃c,s[t.pos]?=some c:=⟨s[t.pos],am0 hm2.2⟩;rw[hc]at h ⊢;simp only at h ⊢;by_cases h34:c=34
   ·rw[am1 h34]at h ⊢;exact⟨h,rfl,[],by simp,rfl⟩
   ·rw[amU h34]at h ⊢;obtain⟨h1,h2,x,h3,h4⟩:=axj hs n _ _ h;refine⟨hm2.1,?_,(pQ1 s c t).1::x,by rw[h3];simp,?_⟩
    ·rw[h2];unfold pQ1;split
     ·unfold fx;split
      ·split<;>rfl
      ·rfl
     ·rfl
    ·rw[avf hc];simp only[p7];generalize(pQL s n (out++[(pQ1 s c t).1]) (pQ1 s c t).2).2.pos=e at*;by_cases h92:c=92
     ·subst h92;unfold pQ1 at h1 h4 ⊢;rw[am1 rfl]at h1 h4 ⊢;unfold fx at h1 h4;unfold lU;by_cases hm3:bB s ⟨t.pos+1,t.first,t.ok⟩=true
      ·rw[am1 hm3]at h1 h4 ⊢;have hm4:=hm3;unfold bB at hm4;simp only[amZ,ana]at hm4;obtain⟨d,hd⟩:∃d,s[t.pos+1]?=some d:=⟨s[t.pos+1],am0 hm4.2⟩;simp only[hd]at h1 h4 ⊢;rw[avf hd,h4,azB h1];rfl
      ·rw[amU hm3]at h1;cases h1
     ·have h10:=avs hs hc;unfold pQ1 at h4 ⊢;rw[amU h92]at h4 ⊢;simp only at h4 ⊢;rw[h4];unfold aqW;rw[amU h92,amU h34,amU h10];rfl
  ·rw[amU hm]at h ⊢;exact⟨h,rfl,[],by simp,rfl⟩
theorem awi(s:Str)(c:UInt8)(t:PS):(pQ1 s c t).2.first=t.first:=by
 unfold pQ1;split
 ·unfold fx;split
  ·split<;>rfl
  ·rfl
 ·rfl
theorem as5(s:Str):∀(n:Nat) (out:Str) (t:PS),(pQL s n out t).2.first=t.first
 |0,out,t=>rfl
 |n+1,out,t=>by
  unfold pQL;split
  ·split
   ·split
    ·rfl
    ·rw[as5 s n,awi]
   ·rfl
  ·rfl
theorem ary(s:Str)(t:PS):(ef s t).first=t.first:=by
 unfold ef jN;simp only[apc,as5]
theorem as0{s:Str}(hs:PI s){t:PS}(h:(ef s t).ok=true):t.ok=true/\s.drop t.pos=wQ (jd s t)++s.drop (ef s t).pos/\validD (jd s t)=true/\(ef s t).first=t.first:=by
 unfold ef at h ⊢;simp only[amZ]at h;obtain⟨h1,h2,h3⟩:=apD h.1;unfold jN at h1 h2 h3;obtain⟨h4,h5,x,h6,h7⟩:=axj hs _ _ _ h1;obtain⟨h8,h9,h10⟩:=apD h4;unfold jd;refine⟨h8,?_,h.2,?_⟩
 ·rw[h9,h7];unfold wQ jN;rw[h2,h6];simp
 ·unfold jN;rw[h3,h5,h10]
theorem arj{s:Str}(hs:PI s){t:PS}(h:(dW s t).ok=true):t.ok=true/\s.drop t.pos=spW t++(wQ (iJ s t)++s.drop (dW s t).pos)/\validD (iJ s t)=true:=by
 obtain⟨h1,h2,h3,_⟩:=as0 hs h;obtain⟨h4,h5⟩:=aqI h1;exact⟨h4,by rw[h5,h2];rfl,h3⟩
theorem atG(s:Str)(t:PS):(dW s t).first=false:=(ary s _).trans (ao3 s t)
def ay9(V:PS->Val×PS):Prop:=∀t:PS,t.first=false->(V t).2.first=false
def az4(s:Str)(V:PS->Val×PS):Prop:=∀t:PS,t.first=false->(V t).2.ok=true->t.ok=true/\s.drop t.pos=MP (V t).1++s.drop (V t).2.pos
theorem aqN{s:Str}{V:PS->Val×PS}(hV:ay9 V):∀(n:Nat) (acc:List Val) (t:PS),t.first=false->(iK s V n acc t).2.first=false
 |0,acc,t,hf=>hf
 |n+1,acc,t,hf=>by
  unfold iK;split
  ·refine aqN hV n _ _ (hV _ ?_);split
   ·exact hf
   ·rw[apc];exact hf
  ·exact hf
theorem aqJ{s:Str}{V:PS->Val×PS}(hF:ay9 V)(hV:az4 s V):∀(n:Nat) (acc:List Val) (t:PS),t.first=false->(iK s V n acc t).2.ok=true->t.ok=true/\∃l,(iK s V n acc t).1=acc++l/\s.drop t.pos=(if acc=[]then p6 (kS l)else kI (kS l))++s.drop (iK s V n acc t).2.pos
 |0,acc,t,hf,h=>⟨h,[],by simp[iK],by simp[iK,kS,p6,kI]⟩
 |n+1,acc,t,hf,h=>by
  unfold iK at h ⊢;by_cases hc:bB s t=true/\s[t.pos]?≠some 93
  ·rw[am1 hc]at h ⊢;by_cases ha:acc=[]
   ·subst ha;simp only[anH,anx]at h ⊢;obtain⟨h1,l,h3,h4⟩:=aqJ hF hV n _ _ (hF t hf) h;obtain⟨g1,g2⟩:=hV t hf h1;refine⟨g1,(V t).1::l,by rw[h3];simp,?_⟩;rw[g2,h4];simp[kS,p6]
   ·simp only[amU ha]at h ⊢;have hf2:(bg s 32 t).first=false:=by rw[apc];exact hf
    obtain⟨h1,l,h3,h4⟩:=aqJ hF hV n _ _ (hF _ hf2) h;obtain⟨g1,g2⟩:=hV _ hf2 h1;obtain⟨g3,g4,_⟩:=apD g1;refine⟨g3,(V (bg s 32 t)).1::l,by rw[h3];simp,?_⟩;rw[g4,g2,h4,amU (by simp)];simp[kS,kI]
  ·rw[amU hc]at h ⊢;exact⟨h,[],by simp,by simp[kS,p6,kI]⟩
theorem aqD(s:Str):∀k,ay9 (jb s k)
 |0=>λt hf=>hf
 |k+1=>λt hf=>by
  unfold jb;split
  ·split
   ·exact(ary s t).trans hf
   ·split
    ·unfold gR oE;rw[apc];exact aqN (aqD s k) _ _ _ (by rw[apc];exact hf)
    ·unfold gy vw;split
     ·exact hf
     ·split
      ·exact hf
      ·exact hf
  ·exact hf
theorem au_{s:Str}(hs:PI s):∀k,az4 s (jb s k)
 |0=>λt _ h=>by cases h
 |k+1=>λt hf h=>by
  unfold jb at h ⊢;by_cases hm:bB s t=true
  ·rw[am1 hm]at h ⊢;by_cases h34:s[t.pos]?=some 34
   ·rw[am1 h34]at h ⊢;obtain⟨h1,h2,_⟩:=as0 hs h;exact⟨h1,by rw[h2];simp[MP]⟩
   ·rw[amU h34]at h ⊢;by_cases h91:s[t.pos]?=some 91
    ·rw[am1 h91]at h ⊢;unfold gR at h ⊢;simp only at h ⊢;obtain⟨h1,h2,_⟩:=apD h;unfold lZ oE at*;obtain⟨h3,l,h4,h5⟩:=aqJ (aqD s k) (au_ hs k) _ _ _ (by rw[apc];exact hf) h1;obtain⟨h6,h7,_⟩:=apD h3;refine⟨h6,?_⟩;rw[h7,h5,h2,h4];simp[MP]
    ·rw[amU h91]at h ⊢;simp only at h ⊢;unfold gy at h ⊢;unfold i_;by_cases ht:bZ s true t=d_
     ·rw[am1 ht]at h ⊢;obtain⟨h1,h2,_⟩:=aqt h;rw[am1 ht];exact⟨h1,by rw[h2,ht];simp[MP]⟩
     ·rw[amU ht]at h ⊢;rw[amU ht];by_cases hfl:bZ s true t=LM
      ·rw[am1 hfl]at h ⊢;obtain⟨h1,h2,_⟩:=aqt h;rw[am1 hfl];exact⟨h1,by rw[h2,hfl];simp[MP]⟩
      ·rw[amU hfl]at h ⊢;rw[amU hfl];simp only[amZ]at h;obtain⟨h1,h2,_⟩:=aqt h.1;obtain⟨n,n1,n2,n3,n4⟩:=(mP _).1 h.2;refine⟨h1,?_⟩;rw[h2];simp only[MP,anH];rw[n4,<-n3]
  ·rw[amU hm]at h;cases h
theorem axT{s:Str}(hs:PI s){t:PS}(h:(je s t).ok=true):t.ok=true/\s.drop t.pos=spW t++(MP (oQ s (mi s t))++s.drop (je s t).pos)/\mT (oQ s (mi s t))=0:=by
 unfold je at h ⊢;simp only[amZ,an2]at h;obtain⟨h1,h2⟩:=au_ hs 17 _ (ao3 s t) h.1;obtain⟨h3,h4⟩:=aqI h1;exact⟨h3,by rw[h4,h2];rfl,h.2⟩
theorem avu(s:Str)(t:PS):(je s t).first=false:=aqD s 17 _ (ao3 s t)
theorem atb{s:Str}(hs:PI s):∀(n:Nat) (acc:List Val) (t:PS),t.first=false->(ml s n acc t).2.ok=true->t.ok=true/\∃l,(ml s n acc t).1=acc++l/\s.drop t.pos=kI (kS l)++s.drop (ml s n acc t).2.pos/\∀v∈l,mT v=0
 |0,acc,t,hf,h=>⟨h,[],by simp[ml],by simp[ml,kS,kI],by simp⟩
 |n+1,acc,t,hf,h=>by
  unfold ml at h ⊢;by_cases hm:bB s t=true
  ·rw[am1 hm]at h ⊢;obtain⟨h1,l,h2,h3,h4⟩:=atb hs n _ _ (avu s t) h;obtain⟨g1,g2,g3⟩:=axT hs h1;refine⟨g1,oQ s (mi s t)::l,by rw[h2];simp,?_,λv hv=>?_⟩
   ·rw[g2,h3];simp[kS,kI,spW,hf]
   ·rcases anT.1 hv with rfl|hv
    ·exact g3
    ·exact h4 v hv
  ·rw[amU hm]at h ⊢;exact⟨h,[],by simp,by simp[kS,kI],by simp⟩
open Go.Eng
open Go.Lib
def atP(p:Nat):PS:=⟨p,false,true⟩
def aq_(r:Str):Prop:=∀c,r.head?= some c->bl false c=false
def avP(r:Str):Prop:=∀c,r.head?= some c->bl true c=false
theorem ao5:aq_ []:=λc h=>by simp at h
theorem awY:avP []:=λc h=>by simp at h
theorem xi(r:Str):aq_ (32::r):=λc h=>by simp at h;subst h;rfl
theorem ayb(r:Str):avP (32::r):=λc h=>by simp at h;subst h;rfl
theorem auJ(r:Str):avP (93::r):=λc h=>by simp at h;subst h;rfl
theorem aqC(l:List Str){r:Str}(h:avP r):avP (kI l++r):=by
 cases l with
 |nil=>exact h
 |cons a l=>exact ayb _
theorem K2{s:Str}{p:Nat}{c:UInt8}{r:Str}(h:s.drop p=c::r):p<s.length/\s[p]?=some c/\s.drop (p+1)=r:=by
 have h1:p<s.length:=by
  have:=congrArg List.length h;rw[am3]at this;simp at this;omega
 have h2:s[p]?=some c:=by
  have:(s.drop p)[0]?=some c:=by rw[h];rfl
  rw[anl]at this;simpa using this
 refine⟨h1,h2,?_⟩;rw[avf h2]at h;exact(List.cons.inj h).2
theorem arq{s:Str}{p:Nat}{w r:Str}(h:s.drop p=w++r):s.drop (p+w.length)=r:=by
 rw[<-an4,h];simp
theorem NN{s:Str}{p:Nat}{f:Bool}(h:p<s.length):bB s ⟨p,f,true⟩=true:=by
 unfold bB;simp[h]
theorem aqb{s:Str}{b:UInt8}{p:Nat}{f:Bool}{r:Str}(h:s.drop p=b::r):bg s b ⟨p,f,true⟩=⟨p+1,f,true⟩:=by
 obtain⟨h1,h2,_⟩:=K2 h;unfold bg;rw[am1 ⟨NN h1,h2⟩]
theorem aru{s:Str}{p:Nat}{r:Str}(h:s.drop p=32::r):mi s (atP p)=atP (p+1):=by
 unfold mi atP;rw[amU (by simp)];exact aqb h
theorem asX(q:UInt8->Bool):∀(w r:Str),(∀c∈w,q c=true)->(∀c,r.head?= some c->q c=false)->(w++r).takeWhile q=w
 |[],[],_,_=>rfl
 |[],c::r,_,h=>by
  have:=h c rfl;simp[this]
 |a::w,r,h1,h2=>by
  have:=h1 a (by simp);rw[anB,aof this,asX q w r (λc hc=>h1 c (by simp[hc])) h2]
theorem asu{s:Str}{cl:Bool}{p:Nat}{f:Bool}{w r:Str}(h:s.drop p=w++r)(hw:∀c∈w,bl cl c=true)(hn:w≠[])(hr:∀c,r.head?= some c->bl cl c=false):
  bZ s cl ⟨p,f,true⟩=w/\vw s cl ⟨p,f,true⟩=⟨p+w.length,f,true⟩:=by
 have e:bZ s cl ⟨p,f,true⟩=w:=by
  unfold bZ;rw[h];exact asX _ _ _ hw hr
 refine⟨e,?_⟩;unfold vw;rw[e];cases w with
 |nil=>exact absurd rfl hn
 |cons a w=>rfl
def bw(w:Str):Prop:=w≠[]/\∀c∈w,bl false c=true
theorem asD{s:Str}{p:Nat}{w r:Str}(h:s.drop p=32::(w++r))(hw:bw w)(hr:aq_ r):
  bT s (atP p)=w/\∃q,bq s (atP p)=atP q/\s.drop q=r:=by
 obtain⟨_,_,h3⟩:=K2 h;obtain⟨g1,g2⟩:=asu (f:=false) h3 hw.2 hw.1 hr;have e:=aru h;unfold bT bq;rw[e];exact⟨g1,p+1+w.length,g2,arq h3⟩
theorem awv{s:Str}{w r:Str}(h:s=w++r)(hw:bw w)(hr:aq_ r):
  bT s ⟨0,true,true⟩=w/\∃q,bq s ⟨0,true,true⟩=atP q/\s.drop q=r:=by
 have h0:s.drop 0=w++r:=h;obtain⟨g1,g2⟩:=asu (f:=false) h0 hw.2 hw.1 hr;refine⟨g1,0+w.length,g2,arq h0⟩
theorem asM{cl:Bool}{c:UInt8}(h:gx c=true):bl cl c=true:=by
 unfold gx at h;simp only[amZ,ana]at h;have h1:c≠32:=by rintro rfl;exact absurd h.1 (by decide)
 have h2:c≠93:=by rintro rfl;exact absurd h.2 (by decide)
 unfold bl;simp[h1,h2]
theorem yC(cl:Bool)(n:Int):itoa n≠[]/\∀c∈itoa n,bl cl c=true:=by
 unfold itoa;split
 ·refine⟨by simp,λc hc=>?_⟩;rcases anT.1 hc with rfl|hc
  ·cases cl<;>rfl
  ·exact asM (uM _ c hc)
 ·exact⟨sk _,λc hc=>asM (uM _ c hc)⟩
theorem awF{n:Int}(h0 : -eM<=n)(h1:n<=eM):fD (itoa n)=true:=(mP _).2 ⟨n,h0,h1,rfl,wI h0 h1⟩
theorem VV{s:Str}{p:Nat}{n:Int}{r:Str}(h:s.drop p=32::(itoa n++r))(h0 : -eM<=n)(h1:n<=eM)(hr:aq_ r):
  cQ s (atP p)=n/\∃q,bc s (atP p)=atP q/\s.drop q=r:=by
 obtain⟨g1,q,g2,g3⟩:=asD h (yC false n) hr;unfold cQ bc;rw[g1,g2,awF h0 h1];exact⟨wI h0 h1,q,rfl,g3⟩
theorem pP{s:Str}{p:Nat}{l:List Str}{w r:Str}{i:Nat}(h:s.drop p=32::(w++r))(hw:bw w)(hi:idx l w=(i:Int))(hr:aq_ r):
  bf s l (atP p)=(i:Int)/\∃q,aL s l (atP p)=atP q/\s.drop q=r:=by
 obtain⟨g1,q,g2,g3⟩:=asD h hw hr;unfold bf aL;rw[g1,g2,hi];refine⟨rfl,q,?_,g3⟩;unfold atP;simp
theorem atq{s:Str}{l:List Str}{w r:Str}{i:Nat}(h:s=w++r)(hw:bw w)(hi:idx l w=(i:Int))(hr:aq_ r):
  bf s l ⟨0,true,true⟩=(i:Int)/\∃q,aL s l ⟨0,true,true⟩=atP q/\s.drop q=r:=by
 obtain⟨g1,q,g2,g3⟩:=awv h hw hr;unfold bf aL;rw[g1,g2,hi];refine⟨rfl,q,?_,g3⟩;unfold atP;simp
theorem aqF:∀x:Str,x.length<=(p7 x).length
 |[]=>by simp[p7]
 |c::x=>by
  have:=aqF x;have h:1<=(aqW c).length:=by unfold aqW;(repeat' split)<;>simp
  simp only[p7,amX,am6];omega
theorem asL{s:Str}{f:Bool}{r:Str}:∀(x:Str) (n:Nat) (out:Str) (p:Nat),s.drop p=p7 x++(34::r)->x.length<=n->∃q,pQL s n out ⟨p,f,true⟩=(out++x,⟨q,f,true⟩)/\s.drop q=34::r
 |[],0,out,p,h,_=>⟨p,by simp[pQL],h⟩
 |[],n+1,out,p,h,_=>by
  obtain⟨h1,h2,_⟩:=K2 (show s.drop p=34::r from h);refine⟨p,?_,h⟩;unfold pQL;rw[am1 (NN h1)];simp[h2]
 |c::x,0,_,_,_,hn=>by simp at hn
 |c::x,n+1,out,p,h,hn=>by
  have hn':x.length<=n:=by simpa using hn
  simp only[p7,aok]at h;by_cases h92:c=92
  ·subst h92;have h:s.drop p=92::(92::(p7 x++(34::r))):=h;obtain⟨h1,h2,h3⟩:=K2 h;obtain⟨h4,h5,h6⟩:=K2 h3;obtain⟨q,g1,g2⟩:=asL x n (out++[92]) (p+1+1) h6 hn';refine⟨q,?_,g2⟩;unfold pQL;rw[am1 (NN h1)];simp only[h2];rw[amU (by decide)];unfold pQ1;rw[am1 rfl];unfold lU fx;simp only[NN h4,anH,h5];have e:mq 92=true:=rfl;have e2:D0 92=92:=rfl;rw[e,e2,g1];simp
  by_cases h34:c=34
  ·subst h34;have h:s.drop p=92::(34::(p7 x++(34::r))):=h;obtain⟨h1,h2,h3⟩:=K2 h;obtain⟨h4,h5,h6⟩:=K2 h3;obtain⟨q,g1,g2⟩:=asL x n (out++[34]) (p+1+1) h6 hn';refine⟨q,?_,g2⟩;unfold pQL;rw[am1 (NN h1)];simp only[h2];rw[amU (by decide)];unfold pQ1;rw[am1 rfl];unfold lU fx;simp only[NN h4,anH,h5];have e:mq 34=true:=rfl;have e2:D0 34=34:=rfl;rw[e,e2,g1];simp
  by_cases h10:c=10
  ·subst h10;have h:s.drop p=92::(110::(p7 x++(34::r))):=h;obtain⟨h1,h2,h3⟩:=K2 h;obtain⟨h4,h5,h6⟩:=K2 h3;obtain⟨q,g1,g2⟩:=asL x n (out++[10]) (p+1+1) h6 hn';refine⟨q,?_,g2⟩;unfold pQL;rw[am1 (NN h1)];simp only[h2];rw[amU (by decide)];unfold pQ1;rw[am1 rfl];unfold lU fx;simp only[NN h4,anH,h5];have e:mq 110=true:=rfl;have e2:D0 110=10:=rfl;rw[e,e2,g1];simp
  have ew:aqW c=[c]:=by unfold aqW;rw[amU h92,amU h34,amU h10]
  rw[ew]at h;have h:s.drop p=c::(p7 x++(34::r)):=h;obtain⟨h1,h2,h3⟩:=K2 h;obtain⟨q,g1,g2⟩:=asL x n (out++[c]) (p+1) h3 hn';refine⟨q,?_,g2⟩;unfold pQL;rw[am1 (NN h1)];simp only[h2];rw[amU h34];unfold pQ1;rw[amU h92];simp only;rw[g1];simp
theorem auT{s:Str}{p:Nat}{f:Bool}{x r:Str}(h:s.drop p=wQ x++r)(hv:validD x=true):jd s ⟨p,f,true⟩=x/\∃q,ef s ⟨p,f,true⟩=⟨q,f,true⟩/\s.drop q=r:=by
 have h:s.drop p=34::(p7 x++(34::r)):=by rw[h];simp[wQ]
 have hl:x.length<=s.length:=by
  have h1:=congrArg List.length h;have h2:=aqF x;rw[am3]at h1;simp at h1;omega
 obtain⟨h1,h2,h3⟩:=K2 h;obtain⟨q,g1,g2⟩:=asL (f:=f) x s.length [] (p+1) h3 hl;have e1:jN s ⟨p,f,true⟩=(x,⟨q,f,true⟩):=by
  unfold jN;rw[aqb h,g1];rfl
 obtain⟨_,_,h6⟩:=K2 g2;unfold jd ef;rw[e1];refine⟨rfl,q+1,?_,h6⟩;simp only;rw[aqb g2,hv];rfl
theorem asC{s:Str}{p:Nat}{x r:Str}(h:s.drop p=32::(wQ x++r))(hv:validD x=true):iJ s (atP p)=x/\∃q,dW s (atP p)=atP q/\s.drop q=r:=by
 obtain⟨_,_,h3⟩:=K2 h;unfold iJ dW;rw[aru h];exact auT h3 hv
def WfV:Nat->Val->Prop
 |0,_=>False
 |k+1,.mk kd n s l=>(kd=1/\(-eM<=n/\n<=eM)/\s=[]/\l=[])\/(kd=2/\(n=0\/n=1)/\s=[]/\l=[])\/(kd=3/\n=0/\validD s=true/\l=[])\/(kd=4/\n=0/\s=[]/\∀v∈l,WfV k v)
theorem arQ(n:Int):∃c r,itoa n=c::r/\c≠34/\c≠91/\c≠93/\c≠116/\c≠102:=by
 have hd:∀c:UInt8,gx c=true->c≠34/\c≠91/\c≠93/\c≠116/\c≠102:=λc h=>by
  unfold gx at h;simp only[amZ,ana]at h;refine⟨?_,?_,?_,?_,?_⟩<;>rintro rfl<;>first|exact absurd h.1 (by decide)|exact absurd h.2 (by decide)
 unfold itoa;split
 ·exact⟨45,_,rfl,by decide⟩
 ·cases hc:decDigits n.toNat with
  |nil=>exact absurd hc (sk _)
  |cons c r=>exact⟨c,r,rfl,hd c (uM n.toNat c (by rw[hc];simp))⟩
theorem avO:∀ {k:Nat} {v:Val},WfV k v->∃c r,MP v=c::r/\c≠93
 |0,_,h=>h.elim
 |k+1,.mk kd n s l,h=>by
  rcases h with⟨rfl,_⟩|⟨rfl,hn,_⟩|⟨rfl,_⟩|⟨rfl,_⟩
  ·obtain⟨c,r,h1,_,_,h2,_⟩:=arQ n;exact⟨c,r,by simp[MP,h1],h2⟩
  ·rcases hn with rfl|rfl
   ·exact⟨102,[97,108,115,101],rfl,by decide⟩
   ·exact⟨116,[114,117,101],rfl,by decide⟩
  ·exact⟨34,p7 s++[34],by simp[MP,wQ],by decide⟩
  ·exact⟨91,_,by simp[MP];rfl,by decide⟩
theorem arM{k:Nat}:∀(l:List Val),(∀v∈l,WfV k v)->l.length<=(kI (kS l)).length
 |[],_=>by simp[kS,kI]
 |v::l,h=>by
  have:=arM l λu hu=>h u (by simp[hu])
  simp only[kS,kI,am6,amX];omega
theorem avN(l:List Str):(kI l).length<=(p6 l).length+1:=by
 cases l with
 |nil=>simp[kI]
 |cons a l=>simp[kI,p6]
def VGo(s:Str)(V:PS->Val×PS)(k:Nat):Prop:=∀(v:Val) (p:Nat) (r:Str),WfV k v->s.drop p=MP v++r->avP r->∃q,V (atP p)=(v,atP q)/\s.drop q=r
theorem arD{s:Str}{V:PS->Val×PS}{k:Nat}(hV:VGo s V k){r:Str}:∀(l:List Val) (n:Nat) (acc:List Val) (p:Nat),(∀v∈l,WfV k v)->l.length<=n->s.drop p=(if acc=[]then p6 (kS l)else kI (kS l))++(93::r)->∃q,iK s V n acc (atP p)=(acc++l,atP q)/\s.drop q=93::r
 |[],0,acc,p,_,_,h=>⟨p,by simp[iK],by simpa[kS,p6,kI]using h⟩
 |[],n+1,acc,p,_,_,h=>by
  have h:s.drop p=93::r:=by simpa[kS,p6,kI]using h
  obtain⟨h1,h2,_⟩:=K2 h;refine⟨p,?_,h⟩;unfold iK;rw[amU (by intro hc;exact hc.2 h2)];simp
 |v::l,0,_,_,_,hn,_=>by simp at hn
 |v::l,n+1,acc,p,hl,hn,h=>by
  have hn':l.length<=n:=by simpa using hn
  have hv:=hl v (by simp);have hl':∀u∈l,WfV k u:=λu hu=>hl u (by simp[hu])
  obtain⟨c,w,hw,agr⟩:=avO hv;unfold iK;by_cases ha:acc=[]
  ·subst ha;simp only[anH]at h ⊢;have h:s.drop p=MP v++(kI (kS l)++(93::r)):=by rw[h];simp[kS,p6]
   obtain⟨h1,h2,_⟩:=K2 (c:=c) (r:=w++(kI (kS l)++(93::r))) (by rw[h,hw];rfl);obtain⟨q,g1,g2⟩:=hV v p _ hv h (aqC _ (auJ r));rw[am1 ⟨NN h1,by rw[show(atP p).pos=p from rfl,h2];simpa using agr⟩,g1];obtain⟨q2,g3,g4⟩:=arD hV (r:=r) l n ([]++[v]) q hl' hn' (by rw[g2,amU (by simp)]);exact⟨q2,by rw[g3];simp,g4⟩
  ·simp only[amU ha]at h ⊢;have h:s.drop p=32::(MP v++(kI (kS l)++(93::r))):=by rw[h];simp[kS,kI]
   obtain⟨h1,h2,h3⟩:=K2 h;obtain⟨q,g1,g2⟩:=hV v (p+1) _ hv h3 (aqC _ (auJ r));have hch:bg s 32 (atP p)=atP (p+1):=aqb h;rw[am1 ⟨NN h1,by rw[show(atP p).pos=p from rfl,h2];simp⟩,hch,g1];obtain⟨q2,g3,g4⟩:=arD hV (r:=r) l n (acc++[v]) q hl' hn' (by rw[g2,amU (by simp)]);exact⟨q2,by rw[g3];simp,g4⟩
theorem av7(s:Str):∀k,VGo s (jb s k) k
 |0=>λv p r h=>h.elim
 |k+1=>λv p r hv h hr=>by
  obtain⟨kd,n,x,l⟩:=v;have hb:∀w:Str,s.drop p=w++r->w≠[]->(∀c∈w,bl true c=true)->bZ s true (atP p)=w/\∃q,vw s true (atP p)=atP q/\s.drop q=r:=λw h hn hw=>by
   obtain⟨g1,g2⟩:=asu (f:=false) h hw hn hr;exact⟨g1,p+w.length,g2,arq h⟩
  unfold jb;rcases hv with⟨rfl,hn,rfl,rfl⟩|⟨rfl,hn,rfl,rfl⟩|⟨rfl,rfl,hx,rfl⟩|⟨rfl,rfl,rfl,hl⟩
  ·have h:s.drop p=itoa n++r:=by rw[h];simp[MP]
   obtain⟨c,w,hw,c34,c91,c93,c116,aBo⟩:=arQ n;obtain⟨h1,h2,_⟩:=K2 (c:=c) (r:=w++r) (by rw[h,hw];rfl);have h2':s[(atP p).pos]?=some c:=h2;obtain⟨g1,q,g2,g3⟩:=hb _ h (yC true n).1 (yC true n).2;rw[am1 (show bB s (atP p)=true from NN h1),amU (by rw[h2'];simpa using c34),amU (by rw[h2'];simpa using c91)];unfold i_ gy;rw[g1,g2];have n1:itoa n≠d_:=by rw[hw];intro e;exact c116 (List.cons.inj e).1
   have n2:itoa n≠LM:=by rw[hw];intro e;exact aBo (List.cons.inj e).1
   rw[amU n1,amU n2,amU n1,amU n2,wI hn.1 hn.2,awF hn.1 hn.2];exact⟨q,rfl,g3⟩
  ·rcases hn with rfl|rfl
   ·have h:s.drop p=LM++r:=by rw[h];simp[MP]
    obtain⟨h1,h2,_⟩:=K2 (c:=102) (r:=[97,108,115,101]++r) h;have h2':s[(atP p).pos]?=some 102:=h2;obtain⟨g1,q,g2,g3⟩:=hb _ h (by decide) (by decide);rw[am1 (show bB s (atP p)=true from NN h1),amU (by rw[h2'];decide),amU (by rw[h2'];decide)];unfold i_ gy;rw[g1,g2,amU (by decide),am1 rfl,amU (by decide),am1 rfl];exact⟨q,rfl,g3⟩
   ·have h:s.drop p=d_++r:=by rw[h];simp[MP]
    obtain⟨h1,h2,_⟩:=K2 (c:=116) (r:=[114,117,101]++r) h;have h2':s[(atP p).pos]?=some 116:=h2;obtain⟨g1,q,g2,g3⟩:=hb _ h (by decide) (by decide);rw[am1 (show bB s (atP p)=true from NN h1),amU (by rw[h2'];decide),amU (by rw[h2'];decide)];unfold i_ gy;rw[g1,g2,am1 rfl,am1 rfl];exact⟨q,rfl,g3⟩
  ·have h:s.drop p=wQ x++r:=by rw[h];simp[MP]
   obtain⟨h1,h2,_⟩:=K2 (c:=34) (r:=p7 x++[34]++r) h;have h2':s[(atP p).pos]?=some 34:=h2;obtain⟨g1,q,g2,g3⟩:=auT (f:=false) h hx;have g1:jd s (atP p)=x:=g1;have g2:ef s (atP p)=atP q:=g2;rw[am1 (show bB s (atP p)=true from NN h1),am1 h2',g1,g2];exact⟨q,rfl,g3⟩
  ·have h:s.drop p=91::(p6 (kS l)++(93::r)):=by rw[h];simp[MP]
   obtain⟨h1,h2,h3⟩:=K2 h;have h2':s[(atP p).pos]?=some 91:=h2;have hfu:l.length<=s.length+2:=by
    have e1:=congrArg List.length h;have e2:=arM l hl;have e3:=avN (kS l);rw[am3]at e1;simp at e1;omega
   obtain⟨q,g1,g2⟩:=arD (av7 s k) (r:=r) l (s.length+2) [] (p+1) hl hfu h3;have hch:bg s 91 (atP p)=atP (p+1):=aqb h;rw[am1 (show bB s (atP p)=true from NN h1),amU (by rw[h2'];decide),am1 h2'];unfold lZ gR oE;rw[hch,g1];obtain⟨_,_,h6⟩:=K2 g2;have hc2:bg s 93 (atP q)=atP (q+1):=aqb g2;refine⟨q+1,?_,h6⟩;simp only[anx];rw[hc2]
theorem avm{s:Str}:∀(l:List Val) (n:Nat) (acc:List Val) (p:Nat),(∀v∈l,WfV 17 v/\mT v=0)->l.length<=n->s.drop p=kI (kS l)->∃q,ml s n acc (atP p)=(acc++l,atP q)/\s.drop q=[]
 |[],0,acc,p,_,_,h=>⟨p,by simp[ml],by simpa[kS,kI]using h⟩
 |[],n+1,acc,p,_,_,h=>by
  have h:s.drop p=[]:=by simpa[kS,kI]using h
  refine⟨p,?_,h⟩;unfold ml bB;have:¬p<s.length:=by have:=List.drop_eq_nil_iff.1 h;omega
  rw[amU (by simp[atP,this])];simp
 |v::l,0,_,_,_,hn,_=>by simp at hn
 |v::l,n+1,acc,p,hl,hn,h=>by
  have hn':l.length<=n:=by simpa using hn
  obtain⟨hv,hc⟩:=hl v (by simp);have hl':∀u∈l,WfV 17 u/\mT u=0:=λu hu=>hl u (by simp[hu])
  have h:s.drop p=32::(MP v++(kI (kS l)++[])):=by rw[h];simp[kS,kI]
  obtain⟨h1,h2,h3⟩:=K2 h;obtain⟨q,g1,g2⟩:=av7 s 17 v (p+1) _ hv h3 (aqC _ awY);unfold ml;rw[am1 (show bB s (atP p)=true from NN h1)];unfold je oQ lX;rw[aru h,g1];simp only;rw[hc];obtain⟨q2,g3,g4⟩:=avm l n (acc++[v]) q hl' hn' (by simpa using g2);refine⟨q2,?_,g4⟩;have:(⟨(atP q).pos,(atP q).first,(atP q).ok&&((0:Int)==0)⟩:PS)=atP q:=rfl;rw[this,g3];simp
end Go.St
end
noncomputable section
namespace Go.Proofs.YtndpneieplopaaaGreatDoor
open Go.Eng Go.St Tryz
def rpO:List Str:=[[92],[92,92],[34],[92,34],[10],[92,110]]
def R2:LA:=rpO.map λs=>.str s
def rpC(f:Nat->AV)(lv:AV):LA:=(List.range 256).map f++[lv]
theorem apd(f:Nat->AV)(lv:AV):(rpC f lv).length=257:=by simp[rpC]
theorem apx(f:Nat->AV)(lv:AV){c:Nat}(h:c<256):(rpC f lv)[c]?=some (f c):=by
 unfold rpC;rw[aod,am1 (by simp;exact h),anb,List.getElem?_range h];rfl
theorem apw(f:Nat->AV)(lv:AV):(rpC f lv)[256]?=some lv:=by
 unfold rpC;rw[aod,amU (by simp)];simp
theorem axQ(f:Nat->AV)(lv v:AV){c:Nat}(h:c<256):fi (rpC f lv) c [v]=some (rpC (λi=>if i=c then v else f i) lv):=by
 have hl:=apd f lv;rw[au5 (by omega)];congr 1
 apply aCx;intro i;have hsl:(stN (rpC f lv) c [v]).length=257:=by rw[Jq (by simp;omega)];exact hl
 by_cases hi:i<256
 ·rw[apx _ _ hi];unfold stN;by_cases h1:i<c
  ·rw[aok,aod,am1 (by simp;omega),anZ,am1 h1,apx _ _ hi,amU (by omega)]
  ·rw[aok,aod,amU (by simp;omega)];have e:(List.take c (rpC f lv)).length=c:=by simp;omega
   rw[e];by_cases h2:i=c
   ·subst h2;simp
   ·rw[amU h2,aod,amU (by simp;omega),anl];simp only[am6,anr];rw[show c+(0+1)+(i-c-(0+1))=i by omega,apx _ _ hi]
 ·by_cases h2:i=256
  ·subst h2;rw[apw];unfold stN;rw[aok,aod,amU (by simp;omega)];have e:(List.take c (rpC f lv)).length=c:=by simp;omega
   rw[e,aod,amU (by simp;omega),anl];simp only[am6,anr];rw[show c+(0+1)+(256-c-(0+1))=256 by omega,apw]
  ·rw[aoa (by omega),aoa (by rw[apd];omega)]
theorem axE(l:LA)(lv v:AV){n:Nat}(h:l.length=n):fi (l++[lv]) n [v]=some (l++[v]):=by
 rw[au5 (by simp;omega)];congr 1
 unfold stN;rw[List.take_left' h,anf (by simp;omega)];simp
theorem asQ(f:Nat->AV)(lv v:AV):fi (rpC f lv) 256 [v]=some (rpC f v):=axE _ _ _ (by rw[aor,List.length_range])
theorem awM{f:Nat->AV}{lv:AV}(h:∀c,(f c).one=true)(hl:lv.one=true):dj (rpC f lv)=true:=by
 unfold dj rpC;rw[List.all_append,amZ];refine⟨anK.2 λx hx=>?_,by simp[hl]⟩;obtain⟨c,_,rfl⟩:=an0.1 hx;exact h c
theorem auQ:List.replicate 257 AV.aa=rpC (λ_=>.aa) .aa:=by
 unfold rpC;rw[List.map_const',List.length_range,show(257:Nat)=256+1 from rfl,List.replicate_succ']
def by2(a b:Int):AV:=.psl [[.int .u8 a],[.int .u8 b]]
def rpF(m:Nat)(c:Nat):AV:=if c=92/\m=0 then by2 92 92 else if c=34/\m<=1 then by2 92 34 else if c=10/\m<=2 then by2 92 110 else .aa
def rpT:List Str:=[[10],[34],[92]]
def rpR:LA:=rpC (rpF 0) (.psl (rpT.map λs=>[.str s]))
theorem asT{h:AH}{id o c:Nat}(hc:c<256):fv h 256 1 (.ptr id o) (.int .u8 c)=some (.ptr id (o+c),h):=by
 have:(c:Int)<256:=by omega
 simp[fv,aix,oc,n9,this]
theorem asB{h:AH}{cs:LA}{c:Nat}(hc:c<256)(hl:c<=cs.length):fv h 256 1 (.lz cs) (.int .u8 c)=some (.lz (cs.drop c),h):=by
 have:(c:Int)<256:=by omega
 simp[fv,aix,oc,n9,this,hl]
theorem ayZ(cl:CL)(v3:AV)(h:AH)(Q:QT):aql cl v3 (.bool false) h Q =
 (wk (bh h v3) λv92 h=>
 wk (ae h .quo v92 (I 2)) λv93 h=>
 wk (nZ h 1 16 [.str []] (I 0) v93) λv94 h=>
 wk (aO h (List.replicate 257 .aa) [(256,1,v94)]) λv95 h=>
 wk (cU h (List.replicate 257 .aa)) λv11 h=>
 wk (kSt h 257 v11 v95) λ_ h=>
 wk (bh h v3) λv97 h=>
 wk (ae h .sub v97 (I 2)) λv98 h=>
 ar8 cl (v3) (v11) (v98) h Q):=by
 unfold aql;rw[ac9];kernel_rfl
inductive B1(h:AH)(k:Nat):Nat->List AV->AH->Prop
 |mk {m:Nat}:m<=3->B1 h k m [.rsl k 0 6 1,.bool (decide (m=3)),I (6-2*(m:Int))] h
inductive B2(h:AH)(k:Nat):Nat->List AV->AH->Prop
 |mk {m:Nat} {h':AH} (t:Nat) (cs:LA):m<=3->Fr h h'->h.nx+2<=h'.nx->h'.ab (h.nx+1)=some (rpC (rpF m) (.rsl t 0 (3-m) 1))->h'.ab t=some cs->cs.take (3-m)=(rpT.take (3-m)).map (λs=>.str s)->3-m<=cs.length/\(m<3->cs.length=3-m)->t≠h.nx+1->h.nx<=t->t<h'.nx->
   B2 h k m [.rsl k 0 6 1,.ptr (h.nx+1) 0,I (2*(m:Int)-2)] h'
theorem asi{i:Nat}{s:Str}(h:rpO[i]?=some s):R2[i]?=some (.str s):=by
 unfold R2;rw[anb,h];rfl
theorem asf(m c:Nat)(v:AV)(hm:(m=3/\c=10/\v=by2 92 110)\/(m=2/\c=34/\v=by2 92 34)\/(m=1/\c=92/\v=by2 92 92)):(λi=>if i=c then v else rpF m i)=rpF (m-1):=by
 funext i
 unfold rpF;rcases hm with⟨rfl,rfl,rfl⟩|⟨rfl,rfl,rfl⟩|⟨rfl,rfl,rfl⟩
 ·by_cases h:i=10
  ·subst h;rfl
  ·simp[h]
 ·by_cases h:i=34
  ·subst h;rfl
  ·simp[h]
 ·by_cases h:i=92
  ·subst h;rfl
  ·simp[h]
theorem aty{h:AH}{k:Nat}{m:Nat}{vs:LA}{h':AH}{K:AX->List AV->NT}(hk:h.ab k=some R2)(hkn:k<h.nx)(b:B2 h k (m+1) vs h')
  (hq:∀vs' h2,B2 h k m vs' h2->K .nrm vs' [ai vs' 1] h2):aqn (tb (P:=prog) []) (ai vs 0) (ai vs 1) (ai vs 2) h' K:=by
 obtain⟨t,cs,hm,fr,hnx,hR,hT,ht,⟨hlt,_⟩,hne,h1,h2⟩:=b;have hk':h'.ab k=some R2:=(ay (fr.get k hkn)).trans hk;obtain⟨c,w,i0,i1,hg,hs,hfm,hT3⟩:∃(c:UInt8) (w:Str) (i0 i1:Nat),(rpO[i0]?=some [c]/\rpO[i1]?=some w/\i0<6/\i1<6/\(2*((m+1:Nat):Int)-2=i0)/\i1=i0+1)/\(rpF (m+1) c.toNat =.aa)/\
   (λi=>if i=c.toNat then .psl (w.map λd=>[.int .u8 d.toNat])else rpF (m+1) i)=rpF m/\(rpT.take (3-(m+1))++[[c]]=rpT.take (3-m)):=by
  have:m=0\/m=1\/m=2:=by omega
  rcases this with rfl|rfl|rfl
  ·exact⟨92,[92,92],0,1,⟨rfl,rfl,by omega,by omega,by omega,rfl⟩,rfl,asf 1 92 _ (.inr (.inr ⟨rfl,rfl,rfl⟩)),rfl⟩
  ·exact⟨34,[92,34],2,3,⟨rfl,rfl,by omega,by omega,by omega,rfl⟩,rfl,asf 2 34 _ (.inr (.inl ⟨rfl,rfl,rfl⟩)),rfl⟩
  ·exact⟨10,[92,110],4,5,⟨rfl,rfl,by omega,by omega,by omega,rfl⟩,rfl,asf 3 10 _ (.inl ⟨rfl,rfl,rfl⟩),rfl⟩
 obtain⟨g0,g1,l0,l1,e0,e1⟩:=hg;generalize hn:3-(m+1)=n at*;have hn1:3-m=n+1:=by omega
 rw[hn1]at hT3;have hge:(0:Int)<=i0:=by omega
 have ix:∀(h:AH) (i:Nat),i<6->aF h 1 (.rsl k 0 6 1) (I i)=some (.ptr k i,h):=λh i hi=>by
  have:=dY (h:=h) (z:=1) (id:=k) (off:=0) (len:=6) (i:=(i:Int)) (by omega) (by omega);simpa using this
 have x0:=ix h' i0 l0;have x1:aF h' 1 (.rsl k 0 6 1) (I ((i0:Int)+1))=some (.ptr k i1,h'):=by
  have:=ix h' i1 l1;rwa [e1]at this ⊢
 have r0:=asi g0;have r1:=asi g1;have axw:c.toNat<256:=c.toNat_lt;have s0:dH h' (.str [c]) (I 0)=some (.int .u8 c.toNat,h'):=bC (s:=[c]) (p:=0) rfl;have ia:∀H:AH,fv H 256 1 (.ptr (h.nx+1) 0) (.int .u8 c.toNat)=some (.ptr (h.nx+1) c.toNat,H):=λH=>by
  have:=asT (h:=H) (id:=h.nx+1) (o:=0) axw;simpa using this
 have rg:=apx (rpF (m+1)) (.rsl t 0 n 1) axw;rw[hs]at rg;have hq0:NF h' .sl false .aa .aa=some (.bool true,h'):=rfl;rw[e0];simp(disch:=first|go_size|fail)[aqn,hge,x0,hk',r0,s0];rw[x1];simp[hk',r1];simp[avc,ia,hR,rg,hq0];have rl:=apw (rpF (m+1)) (.rsl t 0 n 1);have hb1:bW [AV.int .u8 0] [(0,1,.int .u8 c.toNat)]=some [.int .u8 c.toNat]:=rfl;have hb2:bW [AV.str []] [(0,1,.str [c])]=some [.str [c]]:=rfl;have hb3:kX (h'.add (.cells [.int .u8 c.toNat])) .b2s [.rsl h'.nx 0 1 1]=some (.str [c],h'.add (.cells [.int .u8 c.toNat])):=Co (l:=[c]) (bd _ _ _ rfl);generalize hH1:h'.add (.cells [.int .u8 c.toNat])=H1 at*;have nH1:H1.nx=h'.nx+1:=by rw[<-hH1];simp
 generalize hH2:H1.add (.cells [.str [c]])=H2 at*;have nH2:H2.nx=h'.nx+2:=by rw[<-hH2];simp[nH1]
 have gH:∀i,i<h'.nx->H2.H.get i=h'.H.get i:=λi hi=>by
  rw[<-hH2,az,amU (by omega),<-hH1,az,amU (by omega)]
 have cT:H2.ab t=some cs:=(ay (gH t h2)).trans hT;have cN:H2.ab (h'.nx+1)=some [.str [c]]:=by rw[<-hH2,<-nH1];exact bd _ _ _ rfl
 have cR:H2.ab (h.nx+1)=some (rpC (rpF (m+1)) (.rsl t 0 n 1)):=(ay (gH _ (by omega))).trans hR;have q1:cut cs 0 n=some (cs.take n):=by
  have:=aM (α:=cs.take n) (b:=cs.drop n) (n:=n) (by simp;omega);rwa [an9]at this
 have q2:cut [AV.str [c]] 0 1=some [.str [c]]:=rfl;have q3:dj [AV.str [c]]=true:=rfl;generalize hH3:(H2.kill t).add (.cells (cs.take n++[.str [c]]))=H3 at*;have nH3:H3.nx=h'.nx+3:=by rw[<-hH3];simp[nH2]
 have cR3:H3.ab (h.nx+1)=some (rpC (rpF (m+1)) (.rsl t 0 n 1)):=by
  rw[<-hH3,aC _ _ _ (by simp[nH2];omega)];exact(ay (by rw[ri,amU (by omega)])).trans cR
 have aBe:=asQ (rpF (m+1)) (.rsl t 0 n 1) (.rsl (h'.nx+2) 0 (n+1) 1);refine⟨λvs h3=>vs=[.rsl k 0 6 1,.ptr (h.nx+1) 0,I i0,.int .u8 c.toNat,.str w]/\h3=H3.set (h.nx+1) (.cells (rpC (rpF (m+1)) (.rsl (h'.nx+2) 0 (n+1) 1))),?_,?_⟩
 ·simp[asW,hR,rl,hb1,hH1];rw[hb3];simp(disch:=first|go_size|fail)[hb2,hH2,nH1,cT,cN,q1,q2,q3,nH2,hH3,cR3,aBe]
 ·rintro vs h3 ⟨rfl,rfl⟩;have hwl:w.length<=1000000:=by
   have hm':w∈rpO:=am9 g1;exact ane ((by decide:∀x∈rpO,x.length<=2) w hm') (by omega)
  have hsb:∀H:AH,kX H .s2b [.str w]=some (.psl (w.map λc=>[.int .u8 c.toNat]),H):=λH=>by simp[kX,hwl]
  have aAD:=axQ (rpF (m+1)) (.rsl (h'.nx+2) 0 (n+1) 1) (.psl (w.map λc=>[.int .u8 c.toNat])) axw;rw[hfm]at aAD;simp(disch:=first|go_size|fail)[asK,hsb,ia,aAD];have e2:(i0:Int)-2=2*(m:Int)-2:=by omega
  rw[e2];refine hq _ _ (.mk (h'.nx+2) (cs.take n++[.str [c]]) (by omega) ?_ ?_ ?_ ?_ ?_ ?_ ?_ ?_ ?_)
  ·refine((Fr.set ?_ (by omega) _).set (by omega) _);refine⟨by omega,λi hi=>?_⟩;rw[<-hH3,az,amU (by simp[nH2];omega),ri,amU (by omega),gH i (by omega)];exact fr.get i hi
  ·simp[nH3];omega
  ·rw[hn1];exact eD _ _ _ _ rfl
  ·rw[ak _ _ _ _ (by omega),ak _ _ _ _ (by omega),<-hH3];exact bd _ _ _ (by simp[nH2])
  ·rw[hn1,<-hT3,anc (by simp;omega),ht];simp
  ·rw[hn1];simp;omega
  ·omega
  ·omega
  ·simp[nH3]
theorem awd(a b:Int)(H:AH):Frz H false (by2 a b) (by2 a b):=by
 unfold by2;refine yw λy hy j c hc=>?_
 simp only[anT,aoc,or_false]at hy;rcases hy with rfl|rfl<;>(match j with
  |0=>simp at hc;subst hc;exact .int _ _
  |j+1=>simp at hc)
theorem atd(m c:Nat)(H:AH):Frz H false (rpF m c) (rpF m c):=by
 unfold rpF
 (repeat' split)<;>first|exact awd _ _ _|exact .dX
theorem axA(h:AH)(id k:Nat)(a b c d:AV)(hc:h.ab id=some [a,b,c,d,.rsl k 0 6 1])(hk:h.ab k=some R2)(hid:id<h.nx)(hkn:k<h.nx):aK prog 157 [.ptr id 0] h (.iface 231 (.lz rpR)) h:=by
 refine aZ (R:=λv h'=>Frz (fresh h' h.nx) false v (.iface 231 (.lz rpR))/\h.nx<=h'.nx/\∀i,i<h.nx->h'.H.get i=h.H.get i) (aAO (aW []) ?_) λv' h' q=>q
 have ix:∀(h:AH) (i:Nat),i<6->aF h 1 (.rsl k 0 6 1) (I i)=some (.ptr k i,h):=λh i hi=>by
  have:=dY (h:=h) (z:=1) (id:=k) (off:=0) (len:=6) (i:=(i:Int)) (by omega) (by omega);simpa using this
 simp[azY,hc];refine⟨λvs h'=>vs=[.rsl k 0 6 1,.bool false]/\h'=h,?_,?_⟩
 ·simp[au9]
 ·rintro vs h' ⟨rfl,rfl⟩;simp[as7];refine⟨B1 h' k,3,.mk (by omega),?_⟩;rintro m vs h2 ⟨hm⟩;cases m with
  |zero=>
   simp[aso];simp[as2];rw[ayZ];have haf:bW (List.replicate 257 AV.aa) [(256,1,.rsl h'.nx 0 0 1)]=some (rpC (λ_=>.aa) (.rsl h'.nx 0 0 1)):=by
    rw[auQ];simp[bW,iU,AV.cells,asQ]
   have hmk:nZ h' 1 16 [.str []] (I 0) (I 3)=some (.rsl h'.nx 0 0 1,h'.add (.cells [.str [],.str [],.str []])):=rfl;have hrl:=auQ;generalize List.replicate 257 AV.aa=Z at*;have aBn:ae h' .quo (I 6) (I 2)=some (I 3,h'):=rfl;simp[aBn,hmk,haf];generalize hH1:h'.add (.cells [.str [],.str [],.str []])=H1 at*;have nH1:H1.nx=h'.nx+1:=by rw[<-hH1];simp
   have l1:=apd (λ_=>AV.aa) (.rsl h'.nx 0 0 1);have o1:dj (rpC (λ_=>AV.aa) (.rsl h'.nx 0 0 1))=true:=awM (λ_=>rfl) rfl;have s1:fi Z 0 (rpC (λ_=>AV.aa) (.rsl h'.nx 0 0 1))=some (rpC (λ_=>AV.aa) (.rsl h'.nx 0 0 1)):=dG (by rw[hrl,apd,apd]);simp[l1,o1,s1];have hB2:B2 h' k 3 [.rsl k 0 6 1,.ptr (h'.nx+1) 0,I 4] ((H1.add (.cells Z)).set (h'.nx+1) (.cells (rpC (λ_=>.aa) (.rsl h'.nx 0 0 1)))):=by
    have e:(rpF 3)=λ_=>AV.aa:=by funext i;simp[rpF]
    refine .mk (m:=3) h'.nx [.str [],.str [],.str []] (by omega) ?_ ?_ ?_ ?_ rfl ⟨by omega,by omega⟩ (by omega) (by omega) ?_
    ·refine Fr.set ?_ (by omega) _;rw[<-hH1];exact((Fr.refl h').add _).add _
    ·simp[nH1]
    ·rw[e];exact eD _ _ _ _ rfl
    ·rw[ak _ _ _ _ (by omega),aC _ _ _ (by omega),<-hH1];exact bd _ _ _ rfl
    ·simp[nH1];omega
   simp[ar8];refine⟨B2 h' k,3,hB2,?_⟩;rintro m vs h3 b;cases m with
   |zero=>
    obtain⟨t,cs,hm3,fr,hnx,hR,hT,ht,⟨hlt,hle⟩,hne,h1,HH⟩:=b;have hle:=hle (by omega);simp[aqn];simp[asJ];simp[arh];have hmi:kX h3 (.arH 231) [.ptr (h'.nx+1) 0]=some (.iface 231 (.ptr (h'.nx+1) 0),h3):=rfl;rw[hmi];simp[];refine⟨.iface _ _ _ ?_,fr.nx,fr.get⟩;have hT2:h3.ab t=some (rpT.map λs=>.str s):=by
     rw[anc (by omega)]at ht;rw[hT,ht];rfl
    have hf:(fresh h3 h'.nx).ab (h'.nx+1)=some (rpC (rpF 0) (.rsl t 0 3 1)):=by rw[iA (by omega)];exact hR
    refine .ptr _ _ _ _ hf (by rw[apd];simp[rpR,apd]) λi c d hc hd=>?_
    rw[aoe]at hc;by_cases hi:i<256
    ·rw[apx _ _ hi]at hc;unfold rpR at hd;rw[apx _ _ hi]at hd;cases hc;cases hd;exact atd _ _ _
    ·by_cases hi2:i=256
     ·subst hi2;rw[apw]at hc;unfold rpR at hd;rw[apw]at hd;cases hc;cases hd;exact jZ (l:=rpT) hT2 h1
     ·rw[aoa (by rw[apd];omega)]at hc;cases hc
   |succ m=>
    refine aty hk hkn b λvs' h4 b'=>?_
    exact⟨m,by omega,b'⟩
  |succ m=>
   obtain⟨s0,s1,i0,i1,hg0,hg1,l0,l1,e0,e1,n0,n1⟩:∃(s0 s1:Str) (i0 i1:Nat),rpO[i0]?=some s0/\rpO[i1]?=some s1/\i0<6/\i1<6/\(6-2*((m+1:Nat):Int)=i0)/\i1=i0+1/\s0.length=1/\s1.length=2:=by
    have:m=0\/m=1\/m=2:=by omega
    rcases this with rfl|rfl|rfl
    ·exact⟨[10],[92,110],4,5,rfl,rfl,by omega,by omega,by omega,rfl,rfl,rfl⟩
    ·exact⟨[34],[92,34],2,3,rfl,rfl,by omega,by omega,by omega,rfl,rfl,rfl⟩
    ·exact⟨[92],[92,92],0,1,rfl,rfl,by omega,by omega,by omega,rfl,rfl,rfl⟩
   rw[e0];have hlt:(i0:Int)<6:=by omega
   have x0:=ix h' i0 l0;have x1:aF h' 1 (.rsl k 0 6 1) (I ((i0:Int)+1))=some (.ptr k i1,h'):=by
    have:=ix h' i1 l1;rwa [e1]at this ⊢
   have r0:=asi hg0;have r1:=asi hg1;simp(disch:=first|go_size|fail)[aso,hlt];refine⟨λx vs h2=>x =.nrm/\vs=[.undef,.rsl k 0 6 1,.bool false,I i0]/\h2=h',?_,?_⟩
   ·simp(disch:=first|go_size|fail)[auz,x0,hk,r0,n0];rw[x1];simp(disch:=first|go_size|fail)[hk,r1,n1];simp(disch:=first|go_size|fail)[auW]
   ·rintro x vs h2 ⟨rfl,rfl,rfl⟩;simp(disch:=first|go_size|fail)[au6];refine⟨m,by omega,?_⟩;have b:=B1.mk (h:=h2) (k:=k) (m:=m) (by omega);rw[show decide (m=3)=false by simp;omega,show(6:Int)-2*(m:Int)=(i0:Int)+2 by omega]at b;exact b
theorem XN{h:AH}{k:Nat}{cs:LA}(hc:h.ab k=some cs)(hl:cs.length=4):bj h 4 (.ptr k 0)=some (.agg cs,h):=by
 have h1:cut cs 0 4=some cs:=by
  have:=aM (α:=cs) (b:=[]) (n:=4) hl;rwa [am5]at this
 simp[hc,h1]
theorem ZZ{z:LA}{cs:LA}(hz:z.length=4)(hl:cs.length=4)(ho:dj cs=true):bW z [(0,4,.agg cs)]=some cs:=by
 obtain⟨a,b,c,d,rfl⟩:∃a b c d,cs=[a,b,c,d]:=by
  match cs,hl with
  |[a,b,c,d],_=>exact⟨a,b,c,d,rfl⟩
 obtain⟨a',b',c',d',rfl⟩:∃a b c d,z=[a,b,c,d]:=by
  match z,hz with
  |[a,b,c,d],_=>exact⟨a,b,c,d,rfl⟩
 simp[dj]at ho;simp[bW,ho,dj,fi,iU]
theorem aed{h:AH}{k:Nat}{cs ds:LA}(hc:h.ab k=some ds)(hd:ds.length=4)(hl:cs.length=4)(ho:dj cs=true):kSt h 4 (.ptr k 0) (.agg cs)=some (.undef,h.set k (.cells cs)):=by
 obtain⟨a,b,c,d,rfl⟩:∃a b c d,cs=[a,b,c,d]:=by
  match cs,hl with
  |[a,b,c,d],_=>exact⟨a,b,c,d,rfl⟩
 obtain⟨a',b',c',d',rfl⟩:∃a b c d,ds=[a,b,c,d]:=by
  match ds,hd with
  |[a,b,c,d],_=>exact⟨a,b,c,d,rfl⟩
 simp[dj]at ho;simp[hc,ho,dj,fi]
theorem S_(h:AH)(n:Int)(_:True):aK prog 168 [I n] h (.bool (decide (-1099511627776<=n)&&decide (n<=1099511627776))) h:=by
 refine aZ (R:=λv h'=>v =.bool (decide (-1099511627776<=n)&&decide (n<=1099511627776))/\h'=h) (ahI (aW []) ?_) λv' h' ⟨h1,h2⟩=>⟨by rw[h1];exact .bool _,by rw[h2];exact amY _,λi _=>by rw[h2]⟩
 by_cases q : -1099511627776<=n
 ·simp[Zq,q]
 ·simp[Zq,q]
def QN:QE prog:=QE.fn 168 (λ_=>True) (fun(n:Int)=>[I n]) (fun(n:Int)(h:AH)=>True) (fun(n:Int)=>.bool (decide (-1099511627776<=n)&&decide (n<=1099511627776))) (λh n hj hx=>S_ h n hx)
theorem aau{tl h}(n:Int){Q:QT}(hx:True)(hq:Q (.bool (decide (-1099511627776<=n)&&decide (n<=1099511627776))) h):tb (QN::tl) 168 [I n] h Q:=aV n trivial hx hq
@[simp ↓] theorem aih:TbT QN 168:=aH QN
def pz:Val->Bool
 |.mk k n s l=>kl k n s l
theorem TH(h:AH)(v:Val)(_:True):aK prog 167 [.agg (vC v)] h (.bool (pz v)) h:=by
 obtain⟨k,n,s,l⟩:=v;refine aZ (R:=λv h'=>v =.bool (pz (.mk k n s l))/\h.nx<=h'.nx/\∀i,i<h.nx->h'.H.get i=h.H.get i) (air (aW []) ?_) λv' h' ⟨h1,h2⟩=>⟨by rw[h1];exact .bool _,h2⟩
 simp only[vC,pz];generalize hL:vCs l=L at*;have hLl:L.length=l.length:=by rw[<-hL,dr]
 have hLz:((L.length:Int)==0)=decide (l=[]):=by rw[hLl];cases l with
  |nil=>rfl
  |cons a b=>simp;omega
 simp[aeH];have ha:(h.add (.cells [I k,I n,.str s,.psl L])).ab h.nx=some [I k,I n,.str s,.psl L]:=bd _ _ _ rfl;have hn:h.nx<=(h.add (.cells [I k,I n,.str s,.psl L])).nx:=by simp
 have hg:∀i,i<h.nx->(h.add (.cells [I k,I n,.str s,.psl L])).H.get i=h.H.get i:=λi hi=>by rw[az,amU (by omega)]
 generalize h.add (.cells [I k,I n,.str s,.psl L])=h1 at*;refine⟨λvs h'=>vs=[.ptr h.nx 0,I k,.bool (decide (k=1\/k=2))]/\h'=h1,?_,?_⟩
 ·by_cases q:k=1
  ·simp[CB,q]
  ·simp[CB,q];by_cases q2:k=2<;>simp[q,q2]
 ·rintro vs h' ⟨rfl,rfl⟩;unfold kl;by_cases c1:k=1\/k=2
  ·rw[am1 c1,anA c1];simp[rK];refine⟨λvs h2=>vs=[.bool (decide (s=[])&&decide (l.length=0))]/\h2=h',?_,?_⟩
   ·by_cases q:s=[]
    ·simp[Cs,ha,q];simp[A5];exact hLz
    ·simp[Cs,ha,q];simp[A5]
   ·rintro vs h2 ⟨rfl,rfl⟩;simp[LZ];exact⟨hn,hg⟩
  ·rw[amU c1,anw c1];by_cases c2:k=3
   ·rw[am1 c2];simp[rK,c2];refine⟨λvs h2=>vs=[.bool (decide (n=0)&&decide (l.length=0))]/\h2=h',?_,?_⟩
    ·by_cases q:n=0
     ·simp[AO,ha,q];simp[BC];exact hLz
     ·simp[AO,ha,q];simp[BC]
    ·rintro vs h2 ⟨rfl,rfl⟩;simp[Ky];exact⟨hn,hg⟩
   ·rw[amU c2];by_cases c3:k=4
    ·rw[am1 c3];simp[rK,c2,c3];refine⟨λvs h2=>vs=[.bool (decide (n=0)&&decide (s=[]))]/\h2=h',?_,?_⟩
     ·have hse:List.isEmpty s=decide (s=[]):=by cases s<;>rfl
      by_cases q:n=0
      ·simp[Bk,ha,q];exact hse
      ·simp[Bk,ha,q]
     ·rintro vs h2 ⟨rfl,rfl⟩;simp[KO];exact⟨hn,hg⟩
    ·rw[amU c3];simp[rK,c2,c3];exact⟨hn,hg⟩
def awQ:QE prog:=QE.fn 167 (λ_=>True) (fun(v:Val)=>[.agg (vC v)]) (fun(v:Val)(h:AH)=>True) (fun(v:Val)=>.bool (pz v)) (λh v hj hx=>TH h v hx)
theorem ZC{tl h}(v:Val){Q:QT}(hx:True)(hq:Q (.bool (pz v)) h):tb (awQ::tl) 167 [.agg (vC v)] h Q:=aV v trivial hx hq
@[simp ↓] theorem aim:TbT awQ 167:=aH awQ
theorem aeC(h:AH)(t:Ty)(_:True):aK prog 171 [.agg (tC t)] h (.agg (tC (.l t))) h:=by
 refine aZ (R:=λv h'=>Frz (fresh h' h.nx) false v (.agg (tC (.l t)))/\h.nx<=h'.nx/\∀i,i<h.nx->h'.H.get i=h.H.get i) (ah8 (aW []) ?_) λv' h' h1=>h1
 rw[cp t];simp[aeb];refine⟨agL (IH rfl ?_ (by omega)),by omega,λi hi=>?_⟩
 ·rw[ak _ _ _ _ (by omega),cp];exact bd _ _ _ rfl
 ·rw[au,amU (by omega),az,amU (by simp;omega),az,amU (by simp;omega),az,amU (by omega)]
def G3:QE prog:=QE.fn 171 (λ_=>True) (fun(t:Ty)=>[.agg (tC t)]) (fun(t:Ty)(h:AH)=>True) (fun(t:Ty)=>.agg (tC (.l t))) (λh t hj hx=>aeC h t hx)
theorem Gj{tl h}(t:Ty){Q:QT}(hx:True)(hq:Q (.agg (tC (.l t))) h):tb (G3::tl) 171 [.agg (tC t)] h Q:=aV t trivial hx hq
@[simp ↓] theorem ahp:TbT G3 171:=aH G3
def Vf(t:Ty):Prop:=∀h:AH,aK prog 150 [.agg (tC t)] h (.agg (tC t)) h
def eCp(t:Ty)(hk:Vf t):QE prog:=
 ⟨150,λargs h Q=>args=[.agg (tC t)]/\Q (.agg (tC t)) h,λargs h Q ⟨h1,h2⟩=>by
  subst h1;exact⟨_,_,hk h,h2⟩⟩
theorem afD{t:Ty}{hk:Vf t}{tl h}{Q:QT}(hq:Q (.agg (tC t)) h):tb (eCp t hk::tl) 150 [.agg (tC t)] h Q:=by
 rw[dJ _ tl 150 _ _ _ rfl];exact⟨rfl,hq⟩
@[simp ↓] theorem akE{t:Ty}{hk:Vf t}(l:List (QE prog))(f:Nat)(args:LA)(h:AH)(Q:QT)(hf:150≠f):tb (eCp t hk::l) f args h Q=tb l f args h Q:=aH _ l f args h Q hf
theorem PU:∀t,Vf t
 |.s k=>by
  intro h;refine aZ (R:=λv h'=>Frz (fresh h' h.nx) false v (.agg (tC (.s k)))/\h.nx<=h'.nx/\∀i,i<h.nx->h'.H.get i=h.H.get i) (adF (aW []) ?_) λv' h' h1=>h1
  have q1:¬h.nx=h.nx+1:=by omega
  simp[ZV,tC,q1];simp[Md];refine⟨?_,by omega,λi hi=>?_⟩
  ·exact .aa
  ·rw[au,amU (by omega),az,amU (by simp;omega),az,amU (by omega)]
 |.l t=>by
  intro h;refine aZ (R:=λv h'=>Frz (fresh h' h.nx) false v (.agg (tC (.l t)))/\h.nx<=h'.nx/\∀i,i<h.nx->h'.H.get i=h.H.get i) (adF (aW [eCp t (PU t),G3]) ?_) λv' h' h1=>h1
  have e0:tC (.l t)=[I 4,.psl [tC t]]:=rfl;have hix:∀(h:AH) (t:Ty),aF h 2 (.psl [tC t]) (I 0)=some (.lz (tC t),h):=λh t=>da (i:=0) rfl (qn t)
  have hld:∀(h:AH) (t:Ty),bj h 2 (.lz (tC t))=some (.agg (tC t),h):=λh t=>by rw[cp];rfl
  have q1:¬h.nx=h.nx+1:=by omega
  rw[e0];simp[ZV,q1];simp[Lz];rw[hix];simp[hld];refine afD ?_;refine Gj t trivial ?_;rw[<-e0,cp (.l t)];simp[];refine⟨?_,by omega,λi hi=>?_⟩
  ·exact((bK _ _ _ _).1 (kC (.l t) _)).2 1 _ _ rfl rfl
  ·rw[au,amU (by omega),az,amU (by simp;omega),az,amU (by omega)]
theorem ahL(h:AH)(t:Ty)(_:True):aK prog 150 [.agg (tC t)] h (.agg (tC t)) h:=PU t h
def aeF:QE prog:=QE.fn 150 (λ_=>True) (fun(t:Ty)=>[.agg (tC t)]) (fun(t:Ty)(h:AH)=>True) (fun(t:Ty)=>.agg (tC t)) (λh t hj hx=>ahL h t hx)
theorem abe{tl h}(t:Ty){Q:QT}(hx:True)(hq:Q (.agg (tC t)) h):tb (aeF::tl) 150 [.agg (tC t)] h Q:=aV t trivial hx hq
def qX(a:Ty):Prop:=∀(h:AH) (b:Ty),aK prog 190 [.agg (tC a),.agg (tC b)] h (K1 a b) h
def eJP(a:Ty)(hk:qX a):QE prog:=
 ⟨190,λargs h Q=>∃b,args=[.agg (tC a),.agg (tC b)]/\Q (K1 a b) h,λargs h Q ⟨b,h1,h2⟩=>by
  subst h1;exact⟨_,_,hk h b,h2⟩⟩
theorem afu{a:Ty}{hk:qX a}{tl h}{b:Ty}{Q:QT}(hq:Q (K1 a b) h):tb (eJP a hk::tl) 190 [.agg (tC a),.agg (tC b)] h Q:=by
 rw[dJ _ tl 190 _ _ _ rfl];exact⟨b,rfl,hq⟩
@[simp ↓] theorem ake{t:Ty}{hk:qX t}(l:List (QE prog))(f:Nat)(args:LA)(h:AH)(Q:QT)(hf:190≠f):tb (eJP t hk::l) f args h Q=tb l f args h Q:=aH _ l f args h Q hf
theorem xm{a:Ty}{es:List (QE prog)}(mj:∀t,a =.l t->∃hk,es=[eJP t hk,G3]):qX a:=by
 intro h b;refine aZ (R:=λv h'=>Frz (fresh h' h.nx) false v (K1 a b)/\h.nx<=h'.nx/\∀i,i<h.nx->h'.H.get i=h.H.get i) (ahP (aW es) ?_) λv' h' h1=>h1
 have hJ:=J3.start h [I (tyK a),.psl (tyO a)] [I (tyK b),.psl (tyO b)] [I 0,.aa];rw[cp a,cp b];have ne1:¬h.nx=h.nx+1+1:=by omega
 have hn:=hJ.nx;have hg:=hJ.get;have e2:h.nx+1+1=h.nx+2:=rfl;by_cases hk:tyK a=tyK b
 ·simp[Y_,ne1,hk];rw[hk]at hJ hn hg;generalize((h.add (.cells [I (tyK b),.psl (tyO a)])).add (.cells [I (tyK b),.psl (tyO b)])).add (.cells [I 0,.aa])=h1 at*;have ha:=hJ.a;have hb:=hJ.b;have hr:=hJ.r;have hgs:∀(o:dx) (i:Nat),i<h.nx->(h1.set (h.nx+1+1) o).H.get i=h.H.get i:=λo i hi=>by rw[au,amU (by omega)];exact hg i hi
  cases a with
  |s x=>
   have hx:x=tyK b:=hk;have eR:K1 (.s x) b =.tup [.agg (tC b),.bool true]:=by
    unfold K1;cases b with
    |s y=>have:x=y:=hx;simp[di,this]
    |l y=>have:x=4:=hx;simp[di,this]
   rw[eR];have o1:tyO (.s x)=[]:=rfl;rw[o1]at ha;simp[qV,ha,hb,hr];refine⟨?_,by omega,hgs _⟩;rw[<-cp];exact kC _ _
  |l x=>
   have hx:4=tyK b:=hk;rw[<-hx]at ha hb;have o0:tyO (.l x)=[tC x]:=rfl;rw[o0]at ha;cases b with
   |s y=>
    have eR:K1 (.l x) (.s y) =.tup [.agg (tC (.l x)),.bool true]:=by
     unfold K1;have:y=4:=hx.symm;simp[di,this]
    rw[eR];have o1:tyO (.s y)=[]:=rfl;rw[o1]at hb;simp[qV,ha,hb,hr];simp[zS,ha,hb,hr];refine⟨?_,by omega,hgs _⟩;exact kC (.l x) _
   |l y=>
    have o1:tyO (.l y)=[tC y]:=rfl;rw[o1]at hb;obtain⟨hk2,rfl⟩:=mj x rfl;have hix:∀(h:AH) (t:Ty),aF h 2 (.psl [tC t]) (I 0)=some (.lz (tC t),h):=λh t=>da (i:=0) rfl (qn t)
    have hld:∀(h:AH) (t:Ty),bj h 2 (.lz (tC t))=some (.agg (tC t),h):=λh t=>by rw[cp];rfl
    simp[qV,ha,hb,hr];simp[zS,ha];rw[hix];simp[hb,hld];rw[hix];simp[hld];simp[Mg];refine afu ?_;have ej:di (.l x) (.l y)=(di x y).map .l:=rfl;have q1:¬h.nx+1+1=h1.nx+12:=by omega
    have q2:¬h1.nx+12=h.nx+1+1:=by omega
    have q4:¬h.nx=h1.nx+10:=by omega
    have q5:¬h.nx=h1.nx+13:=by omega
    have q6:¬h.nx=h1.nx+11:=by omega
    have q7:¬h.nx=h1.nx+12:=by omega
    cases hj:di x y with
    |none=>
     rw[hj]at ej;have e1:K1 x y =.tup [.agg [I 0,.psl []],.bool false]:=by unfold K1;rw[hj];rfl
     have e2:K1 (.l x) (.l y) =.tup [.agg (tC (.s 0)),.bool false]:=by unfold K1;rw[ej];rfl
     rw[e1,e2];simp[];refine⟨by omega,by omega,?_⟩;simp[B9,hr,q1,q2,q4,q5,q6,q7];refine⟨?_,by omega,λi hi=>?_⟩
     ·have h0:=lg (fresh ((((AH.mk h1.H (h1.nx+15)).set (h1.nx+12) (.cells [I 0,.aa])).set (h1.nx+12) (.cells [I 0,.psl []])).set (h.nx+1+1) (.cells [I 0,.aa])) h.nx);rw[bK];cases h0 with
      |agg _ _ hl hc=>exact⟨hl,hc⟩
     ·rw[au,amU (by omega),au,amU (by omega),au,amU (by omega)];exact hg i hi
    |some t=>
     rw[hj]at ej;have e1:K1 x y =.tup [.agg [I (tyK t),.psl (tyO t)],.bool true]:=by unfold K1;rw[hj,<-cp];rfl
     have e2:K1 (.l x) (.l y) =.tup [.agg (tC (.l t)),.bool true]:=by unfold K1;rw[ej];rfl
     rw[e1,e2];simp[];refine⟨by omega,by omega,?_⟩;simp[Lj];rw[<-cp t];refine Gj t trivial ?_;rw[cp (.l t)];simp[hr,q1,q2,q4,q5,q6,q7];refine⟨?_,by omega,λi hi=>?_⟩
     ·exact((bK _ _ _ _).1 (kC (.l t) _)).2 1 _ _ rfl rfl
     ·rw[au,amU (by omega),au,amU (by omega),au,amU (by omega)];exact hg i hi
 ·have hkb:di a b=none:=by
   cases a with
   |s x=>cases b with
    |s y=>simp[di];exact hk
    |l y=>simp[di];exact hk
   |l x=>cases b with
    |s y=>simp[di];exact λh=>hk h.symm
    |l y=>exact absurd rfl hk
  have eR:K1 a b =.tup [.agg (tC (.s 0)),.bool false]:=by unfold K1;rw[hkb];rfl
  rw[eR];simp[Y_,ne1,hk];generalize((h.add (.cells [I (tyK a),.psl (tyO a)])).add (.cells [I (tyK b),.psl (tyO b)])).add (.cells [I 0,.aa])=h1 at*;have ha:=hJ.a;have hb:=hJ.b;have hr:=hJ.r;simp[qV,B9,hr,ha,hk];refine⟨?_,by omega,λi hi=>?_⟩
  ·have h0:=lg (fresh (h1.set (h.nx+1+1) (.cells [I 0,.aa])) h.nx);rw[bK];cases h0 with
   |agg _ _ hl hc=>exact⟨hl,hc⟩
  ·rw[au,amU (by omega)];exact hg i hi
theorem yE:∀a,qX a
 |.s k=>xm (es:=[]) λt h=>by cases h
 |.l t=>xm (es:=[eJP t (yE t),G3]) λt' h=>by cases h;exact⟨_,rfl⟩
theorem W7(h:AH)(a b:Ty)(_:True):aK prog 190 [.agg (tC a),.agg (tC b)] h (K1 a b) h:=yE a h b
def afo:QE prog:=QE.fn 190 (λ_=>True) (fun(y:Ty×Ty)=>match y with|⟨a,b⟩=>[.agg (tC a),.agg (tC b)]) (fun(y:Ty×Ty)(h:AH)=>match y with|⟨a,b⟩=>True) (fun(y:Ty×Ty)=>match y with|⟨a,b⟩=>K1 a b) (λh y hj hx=>match y,hx with|⟨a,b⟩,hx=>W7 h a b hx)
theorem aav{tl h}(a:Ty)(b:Ty){Q:QT}(hx:True)(hq:Q (K1 a b) h):tb (afo::tl) 190 [.agg (tC a),.agg (tC b)] h Q:=aV (a,b) trivial hx hq
def j_(ts:List Ty):LA:=(ts.map tC).flatten
theorem yW:∀ts:List Ty,(j_ ts).length=ts.length*2
 |[]=>rfl
 |t::ts=>by
  have:=yW ts;unfold j_ at this ⊢;simp only[anO,an6,amX,am6,qn,this];omega
theorem sj:∀(ts:List Ty) (i:Nat) (t:Ty),ts[i]?=some t->cut (j_ ts) (i*2) 2=some (tC t)
 |[],i,t,h=>by simp at h
 |u::ts,0,t,h=>by
  simp at h;subst h;unfold j_;simp only[anO,an6,Nat.zero_mul];exact aM (qn u)
 |u::ts,i+1,t,h=>by
  have h1:=sj ts i t (by simpa using h);have h2:=TP (cs:=j_ (u::ts)) (a:=2) (n:=2) (i*2) (by rw[yW];simp;omega);have h3:(j_ (u::ts)).drop 2=j_ ts:=by
   unfold j_;simp only[anO,an6];rw[List.drop_left' (qn u)]
  rw[h3,h1]at h2;rw[show(i+1)*2=2+i*2 by omega];exact h2.symm
def TSl(h:AH)(x:AV)(ts:List Ty):Prop:=(x =.aa/\ts=[])\/∃k,x =.rsl k 0 ts.length 2/\ts≠[]/\k<h.nx/\h.ab k=some (j_ ts)
def I2(ts:List Ty):AV:=.tup [.agg (tC ((jW ts).getD (.s 0))),.bool (jW ts).isSome]
theorem Wt(h:AH)(k n:Nat)(hn:1<=n):kSl h 2 (.rsl k 0 n 2) (some (I 1)) none none=some (.rsl k 2 (n-1) 2,h):=by
 have q2:(1:Int)<=n:=by omega
 simp[kSl,lF,asl,fj,abd,oc,q2]
structure TM(h hb h':AH)(k:Nat)(ts:List Ty)(u:Ty):Prop where
 r:h'.ab h.nx=some [I 0,.aa]
 t:h'.ab (h.nx+1)=some (tC u)
 nx:h.nx+2<=h'.nx
 get:∀i,i<h.nx->h'.H.get i=h.H.get i
theorem TM.new{h hb h' h2:AH}{k:Nat}{ts:List Ty}{u:Ty}(m:TM h hb h' k ts u)(hn:h'.nx<=h2.nx)(hg:∀i,i<h'.nx->h2.H.get i=h'.H.get i):TM h hb h2 k ts u:=
 have n1:=m.nx
 ⟨by rw[ay (hg _ (by omega))];exact m.r,by rw[ay (hg _ (by omega))];exact m.t,by omega,λi hi=>by rw[hg i (by omega)];exact m.get i hi⟩
theorem TM.set{h hb h':AH}{k:Nat}{ts:List Ty}{u:Ty}(m:TM h hb h' k ts u)(v:Ty):TM h hb (h'.set (h.nx+1) (.cells (tC v))) k ts v:=
 ⟨by rw[ak _ _ _ _ (by omega)];exact m.r,eD _ _ _ _ rfl,m.nx,λi hi=>by rw[au,amU (by omega)];exact m.get i hi⟩
inductive CIx(h:AH)(k:Nat)(ts:List Ty)(R:Option Ty):Nat->List AV->AH->Prop
 |mk {h':AH} (i:Nat) (u:Ty) (hm:TM h h h' k ts u) (hi:i<=ts.length) (hR:kO (ts.drop i) u=R):CIx h k ts R (ts.length-i) [.ptr h.nx 0,.ptr (h.nx+1) 0,.rsl k 2 ts.length 2,I ts.length,I i] h'
theorem aeM(h:AH)(x:AV)(ts:List Ty)(hx:TSl h x ts/\ts.length<=1000):aK prog 170 [x] h (I2 ts) h:=by
 refine aZ (R:=λv h'=>Frz (fresh h' h.nx) false v (I2 ts)/\h.nx<=h'.nx/\∀i,i<h.nx->h'.H.get i=h.H.get i) (ahB (aW [G3,afo]) ?_) λv' h' h1=>h1
 obtain⟨hx,hlen⟩:=hx;rcases hx with⟨rfl,rfl⟩|⟨k,rfl,hne,hk,hcs⟩
 ·simp[aba];refine⟨?_,λi hi=>by rw[au,amU (by omega),az,amU (by omega)]⟩;exact gP (by
   refine .agg _ _ rfl λi c d hc hd=>?_
   match i with
   |0=>simp[jW,tC]at hc hd;subst hc;subst hd;exact .int _ _
   |1=>simp[jW,tC]at hc hd;subst hc;subst hd;exact .aa
   |i+2=>simp at hc) (.bool _)
 ·cases ts with
  |nil=>exact absurd rfl hne
  |cons t0 ts=>
  have hl0:¬((ts.length:Int)+1=0):=by omega
  have hl1:ts.length<=1000:=by simp at hlen;omega
  have aje:∀h:AH,aF h 2 (.rsl k 0 (ts.length+1) 2) (I 0)=some (.ptr k 0,h):=λh=>dY (by omega) (by omega)
  have YY:=sj (t0::ts) 0 t0 rfl;rw[Nat.zero_mul]at YY;have hsl:∀h:AH,kSl h 2 (.rsl k 0 (ts.length+1) 2) (some (I 1)) none none=some (.rsl k 2 ts.length 2,h):=λh=>Wt h k (ts.length+1) (by omega)
  have hq:¬k=h.nx:=by omega
  simp[aba,hl0];rw[aje];simp[hcs,YY,hq];rw[cp t0];have hq2:¬k=h.nx+1:=by omega
  simp[hsl];have hm0:TM h h (((h.add (.cells [I 0,.aa])).add (.cells [I 0,.aa])).set (h.nx+1) (.cells [I (tyK t0),.psl (tyO t0)])) k ts t0:=by
   refine⟨?_,by rw[cp];exact eD _ _ _ _ rfl,by simp,λi hi=>?_⟩
   ·rw[ak _ _ _ _ (by omega),aC _ _ _ (by simp)];exact bd _ _ _ rfl
   ·rw[au,amU (by omega),az,amU (by simp;omega),az,amU (by omega)]
  generalize((h.add (.cells [I 0,.aa])).add (.cells [I 0,.aa])).set (h.nx+1) (.cells [I (tyK t0),.psl (tyO t0)])=h1 at*;simp[Kh];have hfR:I2 (t0::ts) =.tup [.agg (tC (((kO ts t0).map .l).getD (.s 0))),.bool (kO ts t0).isSome]:=by
   unfold I2 jW;simp
  rw[hfR];generalize hR:kO ts t0=R at*;refine⟨CIx h k ts R,ts.length,?_,?_⟩
  ·exact .mk 0 t0 hm0 (by omega) (by simpa using hR)
  ·rintro m vs h' hI;cases hI with
   |mk i u hm hi hRi=>
   have hn:=hm.nx;have ht:=hm.t;have hr:=hm.r;rw[cp u]at ht;by_cases hlt:i<ts.length
   ·have cw:(i:Int)<ts.length:=by omega
    obtain⟨t,htl⟩:∃t,ts[i]?=some t:=⟨ts[i],am0 hlt⟩;have EV:ts.drop i=t::ts.drop (i+1):=by
     obtain⟨hl1,hl2⟩:=amV.1 htl;rw[ang hl1,hl2]
    have fk:=sj (t0::ts) (i+1) t (by simpa using htl);rw[show(i+1)*2=2+i*2 by omega]at fk;have UC:h'.ab k=some (j_ (t0::ts)):=by rw[ay (hm.get k hk)];exact hcs
    have hix:∀h:AH,aF h 2 (.rsl k 2 ts.length 2) (I i)=some (.ptr k (2+i*2),h):=λh=>by
     have:=dY (h:=h) (z:=2) (id:=k) (off:=2) (len:=ts.length) (i:=(i:Int)) (by omega) (by omega);rwa [aou]at this
    simp[zZ,cw];rw[hix];simp[UC,fk];rw[cp t];have q1:¬h.nx+1=h'.nx:=by omega
    simp[ht,q1];rw[<-cp t,<-cp u];refine aav u t trivial ?_;have eR:K1 u t =.tup [.agg (tC ((di u t).getD (.s 0))),.bool (di u t).isSome]:=rfl;rw[eR];have hg2:∀i,i<h'.nx->((h'.add (.cells [I 0,.aa])).set h'.nx (.cells (tC t))).H.get i=h'.H.get i:=λi hi=>by
     rw[au,amU (by omega),az,amU (by omega)]
    have hm2:=hm.new (h2:=(h'.add (.cells [I 0,.aa])).set h'.nx (.cells (tC t))) (by simp) hg2;generalize(h'.add (.cells [I 0,.aa])).set h'.nx (.cells (tC t))=h2 at*;have hm3:=hm2.set ((di u t).getD (.s 0));have ht2:=hm2.t;have hr2:=hm2.r;rw[cp u]at ht2;rw[EV]at hRi;have eA:kO (t::ts.drop (i+1)) u=match di u t with|some v=>kO (ts.drop (i+1)) v|none=>none:=rfl
    rw[eA]at hRi;cases hj:di u t with
    |none=>
     rw[hj]at hRi hm3;have hR0:R=none:=hRi.symm;subst hR0;have e0:tC ((none:Option Ty).getD (.s 0))=[I 0,.psl []]:=rfl;rw[e0]at hm3 ⊢;simp[ht2];have q2:¬h.nx=h.nx+1:=by omega
     simp[Cd,ht2,hr2,q2];simp[Cb];have hn2:=hm2.nx;refine⟨agL (lg _),by omega,λi hi=>?_⟩;rw[au,amU (by omega),au,amU (by omega)];exact hm2.get i hi
    |some v=>
     rw[hj]at hRi hm3;have aiV:kO (ts.drop (i+1)) v=R:=hRi;have e0:tC ((some v).getD (.s 0))=tC v:=rfl;rw[e0]at hm3 ⊢;rw[cp v];simp[ht2];simp(disch:=first|go_size|fail)[Cd,ht2];rw[cp v]at hm3;exact⟨ts.length-(i+1),by omega,.mk (i+1) v hm3 (by omega) aiV⟩
   ·have cw:¬(i:Int)<ts.length:=by omega
    have hi2:i=ts.length:=by omega
    rw[hi2,aoM]at hRi;have hR1:R=some u:=hRi.symm;subst hR1;simp(disch:=first|go_size|fail)[zZ,cw];simp[Cb];simp[BO,ht];rw[<-cp u];refine Gj u trivial ?_;rw[cp (.l u)];simp[hr];refine⟨?_,by omega,λi hi=>by rw[au,amU (by omega)];exact hm.get i hi⟩;exact((bK _ _ _ _).1 (kC (.l u) _)).2 1 _ _ rfl rfl
def Pa:QE prog:=QE.fn 170 (λ_=>True) (fun(y:AV×List Ty)=>match y with|⟨x,ts⟩=>[x]) (fun(y:AV×List Ty)(h:AH)=>match y with|⟨x,ts⟩=>TSl h x ts/\ts.length<=1000) (fun(y:AV×List Ty)=>match y with|⟨x,ts⟩=>I2 ts) (λh y hj hx=>match y,hx with|⟨x,ts⟩,hx=>aeM h x ts hx)
theorem abj{tl h}(x:AV)(ts:List Ty){Q:QT}(hx:TSl h x ts/\ts.length<=1000)(hq:Q (I2 ts) h):tb (Pa::tl) 170 [x] h Q:=aV (x,ts) trivial hx hq
@[simp ↓] theorem aie:TbT Pa 170:=aH Pa
open Go.RowKit
theorem sU{own:Nat->Prop}{β:Bl}{h:AH}{w:World}(hs:bV own β h.H h.nx w){g:Nat}{cs:LA}(hg:h.H.get g=some (.iq g cs)){i:Nat}{k:IntKind}{z:Int}(hi:cs[i]?=some (.int k z)):w.cell? ⟨g,i,none⟩=some (.int k z):=by
 obtain⟨cur,e,fz,h1,h2,h3⟩:=hs.Ux hg;have hlt:i<cur.size:=by rw[<-h2];exact(amV.1 hi).1
 have:=h3 i _ cur[i] hi (by simp[hlt]);generalize hx:cur[i]=x at this;cases this;rw[Lib.cell_of_heap h1];simp[hlt,hx]
theorem Ei{own:Nat->Prop}{β:Bl}{h:AH}{w:World}(hs:bV own β h.H h.nx w)(hg:GJ h):Lib.Utf8Tabs 1 2 w:=by
 refine⟨λc hc=>?_,λi hi=>?_⟩
 ·exact sU hs hg.at1 (by rw[anb,zt c hc];rfl)
 ·obtain⟨h1,h2⟩:=JD i hi;exact⟨sU hs hg.at2 (by rw[anb,h1];rfl),sU hs hg.at2 (by rw[anb,h2];rfl)⟩
theorem aap(h:AH)(s:Str)(hg:GJ h)(hw:s.length<=1000000):aK prog 169 [.str s] h (.bool (Lib.validD s)) h:=by
 refine aK.lib Zf λown β wd cS hs hR=>?_
 obtain⟨u,rfl,hu⟩:=uv hR;cases hu;have hsz:(⟨s.toArray⟩:ByteArray).size=s.length:=by simp[ByteArray.size]
 refine(pS ⟨s.toArray⟩ wd (by rw[hsz];omega) (Ei hs hg)).mono ?_;rintro e w' ⟨rfl,hb⟩;exact⟨_,rfl,.bool _,hb⟩
def OJ:QE prog:=QE.fn 169 GJ (fun(s:Str)=>[.str s]) (fun(s:Str)(h:AH)=>s.length<=1000000) (fun(s:Str)=>.bool (Lib.validD s)) (λh s hj hx=>aap h s hj hx)
theorem aaW{tl h}(s:Str){Q:QT}(hj:GJ h)(hx:s.length<=1000000)(hq:Q (.bool (Lib.validD s)) h):tb (OJ::tl) 169 [.str s] h Q:=aV s hj hx hq
@[simp ↓] theorem aiw:TbT OJ 169:=aH OJ
def pck(d:Int)(v:Val)(m:Int):Int×Ty×Int:=Go.St.chk d v m
def yf(d:Int)(l:List Val)(m:Int)(ts:List Ty):Int×List Ty×Int:=Go.St.nR d l m ts
def ckP(d:Int)(v:Val)(m:Int):AV:=.tup [.agg (tC (pck d v m).2.1),I (pck d v m).1]
def Dx(d:Int):Prop:=∀(h:AH) (v:Val) (m:Int) (id:Nat),GJ h->8<=id->id<h.nx->h.ab id=some [I m]->(0<=m/\m<=1000)->aK prog 149 [.agg (vC v),I d,.ptr id 0] h (ckP d v m) (h.set id (.cells [I (pck d v m).2.2]))
def eKP(d:Int)(hk:Dx d):QE prog:=
 ⟨149,λargs h Q=>∃v m id,args=[.agg (vC v),I d,.ptr id 0]/\(GJ h/\8<=id/\id<h.nx/\h.ab id=some [I m])/\(0<=m/\m<=1000)/\Q (ckP d v m) (h.set id (.cells [I (pck d v m).2.2])),λargs h Q ⟨v,m,id,h1,⟨a,b,c,e⟩,h2,h3⟩=>by
  subst h1;exact⟨_,_,hk h v m id a b c e h2,h3⟩⟩
theorem XV{d:Int}{hk:Dx d}{tl h}{v:Val}{m:Int}{id:Nat}{Q:QT}(hj:GJ h/\8<=id/\id<h.nx/\h.ab id=some [I m])(hm:0<=m/\m<=1000)(hq:Q (ckP d v m) (h.set id (.cells [I (pck d v m).2.2]))):tb (eKP d hk::tl) 149 [.agg (vC v),I d,.ptr id 0] h Q:=by
 rw[dJ _ tl 149 _ _ _ rfl];exact⟨v,m,id,rfl,hj,hm,hq⟩
@[simp ↓] theorem aj9{d:Int}{hk:Dx d}(l:List (QE prog))(f:Nat)(args:LA)(h:AH)(Q:QT)(hf:149≠f):tb (eKP d hk::l) f args h Q=tb l f args h Q:=aH _ l f args h Q hf
structure K3(h h':AH)(id:Nat)(a:LA)(m:Int):Prop where
 a:h'.ab h.nx=some a
 r:h'.ab (h.nx+1)=some [I 0,.aa]
 ob:Ob h h' id [I m]
 nx:h.nx+2<=h'.nx
 gj:GJ h'
theorem K3.new{h h' h2:AH}{id:Nat}{a:LA}{m:Int}(k:K3 h h' id a m)(hid:id<h.nx)(h8:8<=h.nx)(hn:h'.nx<=h2.nx)(hg:∀i,i<h'.nx->h2.H.get i=h'.H.get i):K3 h h2 id a m:=
 have n1:=k.nx
 ⟨by rw[ay (hg _ (by omega))];exact k.a,by rw[ay (hg _ (by omega))];exact k.r,k.ob.new hid hn hg,by omega,
  k.gj.me (λi hi=>hg i (by omega)) (by omega)⟩
theorem K3.low{h h' h2:AH}{id:Nat}{a:LA}{m:Int}(k:K3 h h' id a m)(hid:id<h.nx)(h8:8<=h.nx){b:Nat}(hb:h.nx+2<=b)(hn:h'.nx<=h2.nx)(hg:∀i,i<b->h2.H.get i=h'.H.get i):K3 h h2 id a m:=
 have n1:=k.nx
 ⟨by rw[ay (hg _ (by omega))];exact k.a,by rw[ay (hg _ (by omega))];exact k.r,
  ⟨by rw[ay (hg _ (by omega))];exact k.ob.c,ane k.ob.nx hn,λi h1 h2=>by rw[hg i (by omega)];exact k.ob.get i h1 h2⟩,by omega,
  k.gj.me (λi hi=>hg i (by omega)) (by omega)⟩
theorem K3.cnt{h h':AH}{id:Nat}{a:LA}{m:Int}(k:K3 h h' id a m)(hid:id<h.nx)(h8:8<=id)(n:Int):K3 h (h'.set id (.cells [I n])) id a n:=
 ⟨by rw[ak _ _ _ _ (by omega)];exact k.a,by rw[ak _ _ _ _ (by omega)];exact k.r,k.ob.set _,k.nx,k.gj.set h8⟩
def PQ(h:AH)(id:Nat)(r:Int×Ty×Int):QT:=λv h'=>Frz (fresh h' h.nx) false v (.tup [.agg (tC r.2.1),I r.1])/\Ob h h' id [I r.2.2]
theorem _root_.Go.Eng.Ob.Uv{h h1:AH}{id:Nat}{cs:LA}(o:Ob h h1 id cs)(hid:id<h.nx){j:Nat}(hj:h.nx<=j)(ob:dx):Ob h (h1.set j ob) id cs:=
 ⟨by rw[ak _ _ _ _ (by omega)];exact o.c,o.nx,λi h1 h2=>by rw[au,amU (by omega)];exact o.get i h1 h2⟩
theorem K3.fail{h h':AH}{id:Nat}{a:LA}{m:Int}(k:K3 h h' id a m)(hid:id<h.nx)(e:Int):PQ h id (e,.s 0,m) (.tup [.agg [I 0,.aa],I e]) (h'.set (h.nx+1) (.cells [I 0,.aa])):=
 ⟨gP (lg _) (.int _ _),k.ob.Uv hid (by omega) _⟩
theorem Vw(d:Int)(v:Val)(m:Int)(h:(pck d v m).1=0):m<=(pck d v m).2.2/\(pck d v m).2.2<=1000:=by
 rcases u7 v d m with⟨h1,h2,h3⟩|⟨h1,_⟩
 ·have:=wL (d+1) v m h2;unfold pck;rw[h3];exact this
 ·exact absurd h h1
def pF(R:Int×List Ty×Int):Int×Ty×Int:=if R.1≠0 then(R.1,.s 0,R.2.2)else match jW R.2.1 with
 |none=>(5,.s 0,R.2.2)
 |some t=>(0,t,R.2.2)
theorem Z6(d k n:Int)(s:Str)(l:List Val)(m:Int):pck d (.mk k n s l) m=if k=4/\16<=d then(8,.s 0,m)
  else if kl k n s l=false then(9,.s 0,m+1)
  else if lY k n=true then(1,.s 0,m+1)
  else if 2000<s.length\/100<l.length\/1000<m+1 then(2,.s 0,m+1)
  else if Lib.validD s=false then(3,.s 0,m+1)
  else if k≠4 then(0,.s k,m+1)else pF (yf (d+1) l (m+1) []):=by
 unfold pck yf pF;rw[Go.St.chk];rfl
inductive KIx(h hb:AH)(id:Nat)(a:List AV)(d:Int)(l:List Val)(L:List (List AV))(R:Int×List Ty×Int):Nat->List AV->AH->Prop
 |mk {h':AH} (i:Nat) (m:Int) (lv:AV) (ts:List Ty) (hk:K3 h h' id a m) (hnb:hb.nx<=h'.nx) (ol:OL 2 hb h' lv ts.length (j_ ts)) (hi:i<=l.length) (hm:0<=m/\m<=1000) (hR:yf (d+1) (l.drop i) m ts=R) (ht:ts.length<=i):
  KIx h hb id a d l L R (l.length-i) [I d,.ptr id 0,.ptr (h.nx+1) 0,lv,.psl L,I L.length,I i] h'
theorem M7{d n:Int}{s:Str}{l:List Val}{L:List (LA)}{m:Int}{h h4:AH}{id:Nat}{es:List (QE prog)}(hid:id<h.nx)(h8:8<=id)(hL:vCs l=L)(hd:0<=d/\d<=15)(hm:0<=m/\m<=1000)
  (mj:∃hk,es=[eKP (d+1) hk]) (hK:K3 h h4 id [I 4,I n,.str s,.psl L] m) (hll:l.length<=100):
  Bz (tb (QN::awQ::OJ::Pa::es)) (I d) (.ptr id 0) (.ptr (h.nx+1) 0) .aa (.ptr h.nx 3) h4 (PQ h id (pF (yf (d+1) l m []))):=by
 have hLl:L.length=l.length:=by rw[<-hL,dr]
 obtain⟨hk2,rfl⟩:=mj;have hn4:=hK.nx;have ha4:=hK.a;simp[Bz,ha4];generalize hR:yf (d+1) l m []=R at*;refine⟨KIx h h4 id [I 4,I n,.str s,.psl L] d l L R,l.length,?_,?_⟩
 ·exact .mk 0 m .aa [] hK (amY _) (OL.start _ _ _) (by omega) hm (by simpa using hR) (by simp)
 ·rintro N vs h' hI;cases hI with
  |mk i m lv ts hk hnb ol hi hm hRi ht=>
  have hn:=hk.nx;by_cases hlt:i<l.length
  ·have cw:(i:Int)<L.length:=by omega
   obtain⟨v,hv⟩:∃v,l[i]?=some v:=⟨l[i],am0 hlt⟩;have hLv:L[i]?=some (vC v):=by rw[<-hL,ql,anb,hv];rfl
   have hix:∀h:AH,aF h 4 (.psl L) (I i)=some (.lz (vC v),h):=λh=>da (i:=i) hLv (cH v)
   have tU:cut (vC v) 0 4=some (vC v):=by
    have:=aM (α:=vC v) (b:=[]) (n:=4) (cH v);rwa [am5]at this
   have iC:=iH v;have hlv:=cH v;have EV:l.drop i=v::l.drop (i+1):=by
    obtain⟨hl1,hl2⟩:=amV.1 hv;rw[ang hl1,hl2]
   rw[EV]at hRi;have eS:yf (d+1) (v::l.drop (i+1)) m ts=if(pck (d+1) v m).1≠0 then((pck (d+1) v m).1,ts,(pck (d+1) v m).2.2)else yf (d+1) (l.drop (i+1)) (pck (d+1) v m).2.2 (ts++[(pck (d+1) v m).2.1]):=by
    unfold yf pck;rw[Go.St.nR]
   rw[eS]at hRi;have hcn:=Vw (d+1) v m;have hst:kSt (h'.add (.cells [I 0,I 0,.str [],.aa])) 4 (.ptr h'.nx 0) (.agg (vC v))=some (.undef,(h'.add (.cells z4)).set h'.nx (.cells (vC v))):=aed (ds:=z4) (bd _ _ _ rfl) rfl hlv iC;simp(disch:=first|go_size|fail)[Cu,cw];rw[hix];simp(disch:=first|go_size|fail)[tU,iC,hlv];have hg5:∀i,i<h'.nx->((h'.add (.cells [I 0,I 0,.str [],.aa])).set h'.nx (.cells (vC v))).H.get i=h'.H.get i:=λi hi=>by rw[au,amU (by omega),az,amU (by omega)]
   have hk5:=hk.new (h2:=(h'.add (.cells [I 0,I 0,.str [],.aa])).set h'.nx (.cells (vC v))) hid (by omega) (by simp) hg5;have ol5:OL 2 h4 ((h'.add (.cells [I 0,I 0,.str [],.aa])).set h'.nx (.cells (vC v))) lv ts.length (j_ ts):=ol.du (by simp) λi _ hi=>hg5 i hi
   have ajM:((h'.add (.cells [I 0,I 0,.str [],.aa])).set h'.nx (.cells (vC v))).nx=h'.nx+1:=by simp
   generalize(h'.add (.cells [I 0,I 0,.str [],.aa])).set h'.nx (.cells (vC v))=h5 at*;refine XV ⟨hk5.gj,h8,by omega,hk5.ob.c⟩ hm ?_;have hck:ckP (d+1) v m =.tup [.agg (tC (pck (d+1) v m).2.1),I (pck (d+1) v m).1]:=rfl;rw[hck];generalize pck (d+1) v m=r at*;obtain⟨e,t,c⟩:=r;simp only at hRi hcn ⊢;have hk6:=hk5.cnt hid h8 c;have ol6:OL 2 h4 (h5.set id (.cells [I c])) lv ts.length (j_ ts):=ol5.set (by omega) _;have alP:(h5.set id (.cells [I c])).nx=h'.nx+1:=by simpa using ajM
   generalize h5.set id (.cells [I c])=h6 at*;rw[cp t];have q1:¬h.nx+1=h6.nx:=by omega
   have hr6:=hk6.r;have hg7:∀i,i<h6.nx->((h6.add (.cells [I 0,.aa])).set h6.nx (.cells [I (tyK t),.psl (tyO t)])).H.get i=h6.H.get i:=λi hi=>by rw[au,amU (by omega),az,amU (by omega)]
   have hk7:=hk6.new (h2:=(h6.add (.cells [I 0,.aa])).set h6.nx (.cells [I (tyK t),.psl (tyO t)])) hid (by omega) (by simp) hg7;have ol7:OL 2 h4 ((h6.add (.cells [I 0,.aa])).set h6.nx (.cells [I (tyK t),.psl (tyO t)])) lv ts.length (j_ ts):=ol6.du (by simp) λi _ hi=>hg7 i hi
   have ai9:((h6.add (.cells [I 0,.aa])).set h6.nx (.cells [I (tyK t),.psl (tyO t)])).nx=h6.nx+1:=by simp
   by_cases he:e=0
   ·simp(disch:=first|go_size|fail)[Ba,he];rw[amU (by simp[he])]at hRi;have hc2:=hcn he;obtain⟨lv',h8',hk8,ol8,hn8,hg8⟩:=mI (bytes:=32) (tc:=[I (tyK t),.psl (tyO t)]) ol7 (by omega) rfl rfl (by omega) (by omega);rw[ai9]at hk8;rw[hk8];simp(disch:=first|go_size|fail)[J1];refine⟨l.length-(i+1),by omega,?_⟩;have e1:j_ (ts++[t])=j_ ts++[I (tyK t),.psl (tyO t)]:=by unfold j_;rw[<-cp t];simp
    refine .mk (i+1) c lv' (ts++[t]) (hk7.low hid (by omega) hn4 (by omega) hg8) (by omega) ?_ (by omega) (by omega) hRi (by rw[amX,am2];omega);rw[e1,amX,am2];exact ol8
   ·simp(disch:=first|go_size|fail)[Ba,he,q1,hr6];rw[am1 he]at hRi;subst hRi;have hF:pF (e,ts,c)=(e,.s 0,c):=by unfold pF;rw[am1 he]
    rw[hF];simp[zP];exact hk7.fail hid e
  ·have cw:¬(i:Int)<L.length:=by omega
   have hi2:i=l.length:=by omega
   rw[hi2,aoM]at hRi;have eN:yf (d+1) [] m ts=(0,ts,m):=by unfold yf;rw[Go.St.nR]
   rw[eN]at hRi;subst hRi;simp[Cu,cw];simp[zP];simp[zN];have hT:TSl h' lv ts:=by
    rcases ol with⟨rfl,h2,h3⟩|⟨k,rfl,hn0,hk0,hk1,hcs,hlen⟩
    ·exact .inl ⟨rfl,am8 h2⟩
    ·exact .inr ⟨k,rfl,λe=>by rw[e]at hn0;simp at hn0,hk1,hcs⟩
   refine abj lv ts ⟨hT,by omega⟩ ?_;have hr:=hk.r;have q1:¬h.nx+1=h'.nx:=by omega
   unfold I2 pF;simp only[ne_eq,not_true_eq_false,ans];cases hc:jW ts with
   |none=>
    have e0:tC ((none:Option Ty).getD (.s 0))=[I 0,.psl []]:=rfl;rw[e0];simp[Af,hr,q1];have hk2:=hk.new (h2:=(h'.add (.cells [I 0,.aa])).set h'.nx (.cells [I 0,.psl []])) hid (by omega) (by simp) λi hi=>by rw[au,amU (by omega),az,amU (by omega)]
    exact hk2.fail hid 5
   |some t=>
    have e0:tC ((some t).getD (.s 0))=tC t:=rfl;rw[e0,cp t];simp[Af,hr,q1];have hk2:=hk.new (h2:=(h'.add (.cells [I 0,.aa])).set h'.nx (.cells [I (tyK t),.psl (tyO t)])) hid (by omega) (by simp) λi hi=>by rw[au,amU (by omega),az,amU (by omega)]
    exact⟨gP (by rw[<-cp];exact LH _ _) (.int _ _),hk2.ob.Uv hid (by omega) _⟩
def bw(k n:Int):Bool:=decide (k=1) && !(decide (-1099511627776<=n)&&decide (n<=1099511627776))
theorem Ry(k n:Int):lY k n=(bw k n||(decide (k=2)&&decide (n≠0)&&decide (n≠1))):=rfl
theorem yu{d:Int}{es:List (QE prog)}(hd:0<=d/\d<=16)(mj:d<=15->∃hk,es=[eKP (d+1) hk]):Dx d:=by
 rintro h ⟨k,n,s,l⟩ m id hg h8 hid hc hm;refine bm (R:=PQ h id (pck d (.mk k n s l) m)) hid (λH=>⟨.int _ _,trivial⟩) (ahQ (aW (QN::awQ::OJ::Pa::es)) ?_) λv' h' h1=>h1
 rw[Z6];simp only[vC];generalize hL:vCs l=L at*;have hLl:L.length=l.length:=by rw[<-hL,dr]
 have hK:K3 h ((h.add (.cells [I k,I n,.str s,.psl L])).add (.cells [I 0,.aa])) id [I k,I n,.str s,.psl L] m:=by
  refine⟨?_,bd _ _ _ rfl,?_,by simp,(hg.add _).add _⟩
  ·rw[aC _ _ _ (by simp)];exact bd _ _ _ rfl
  ·refine⟨?_,by simp;omega,λi h1 h2=>by rw[az,amU (by simp;omega),az,amU (by omega)]⟩;rw[aC _ _ _ (by simp;omega),aC _ _ _ (by omega)];exact hc
 simp[aeT];generalize((h.add (.cells [I k,I n,.str s,.psl L])).add (.cells [I 0,.aa]))=h1 at*;have ha:=hK.a;have hr:=hK.r;have hcc:=hK.ob.c;refine⟨λvs h'=>vs=[I d,.ptr id 0,.ptr h.nx 0,.ptr (h.nx+1) 0,.bool (decide (k=4)&&decide (16<=d))]/\h'=h1,?_,?_⟩
 ·by_cases q:k=4
  ·simp[Ct,ha,q]
  ·simp[Ct,ha,q]
 ·rintro vs h' ⟨rfl,rfl⟩;by_cases c1:k=4/\16<=d
  ·rw[am1 c1];simp[u6,c1,hr];exact hK.fail hid 8
  ·rw[amU c1];have e1:(decide (k=4)&&decide (16<=d))=false:=by simp only[an_,ano];omega
   rw[e1];have hK2:=hK.cnt hid h8 (m+1);have ha2:=hK2.a;have hq:¬h.nx=id:=by omega
   simp(disch:=first|go_size|fail)[u6,hcc,ha,hq];generalize h'.set id (.cells [I (m+1)])=h2 at*;have hv:AV.agg [I k,I n,.str s,.psl L] =.agg (vC (.mk k n s l)):=by rw[vC,hL]
   rw[hv];refine ZC (.mk k n s l) trivial ?_;have ha:=hK2.a;have hr:=hK2.r;have hcc:=hK2.ob.c;have eF:pz (.mk k n s l)=kl k n s l:=rfl;rw[eF];cases c2:kl k n s l
   ·simp(disch:=first|go_size|fail)[Ca,hr];exact hK2.fail hid 9
   ·simp only[aon,ans];simp(disch:=first|go_size|fail)[Ca];refine⟨λvs h3=>vs=[I d,.ptr id 0,.ptr h.nx 0,.ptr (h.nx+1) 0,.bool (bw k n)]/\h3=h2,?_,?_⟩
    ·unfold bw;by_cases q:k=1
     ·simp(disch:=first|go_size|fail)[Ab,ha,q];refine aau n trivial ?_;simp[];simp[Aw]
     ·simp[Ab,ha,q];simp[Aw]
    ·rintro vs h3 ⟨rfl,rfl⟩;simp[D7];refine⟨λvs h4=>vs=[I d,.ptr id 0,.ptr h.nx 0,.ptr (h.nx+1) 0,.bool (lY k n)]/\h4=h3,?_,?_⟩
     ·rw[Ry];cases q:bw k n
      ·simp[Aa,ha];by_cases q2:k=2
       ·by_cases q3:n=0
        ·simp[q2,q3];simp[uQ]
        ·simp[q2,q3];simp[uQ,ha];by_cases q4:n=1<;>simp[q4]
       ·simp[q2];simp[uQ]
      ·simp[Aa]
     ·rintro vs h4 ⟨rfl,rfl⟩;cases c3:lY k n
      ·simp only[am7,ans];simp[B7];refine⟨λvs h5=>vs=[I d,.ptr id 0,.ptr h.nx 0,.ptr (h.nx+1) 0,.bool (decide (2000<s.length\/100<l.length\/1000<m+1))]/\h5=h4,?_,?_⟩
       ·by_cases a1:2000<s.length
        ·have a1':(2000:Int)<s.length:=by omega
         simp[uw,ha,a1',a1];simp[uy]
        ·have a1':¬(2000:Int)<s.length:=by omega
         by_cases a2:100<l.length
         ·have a2':(100:Int)<L.length:=by omega
          simp[uw,ha,a1',a1,a2',a2];simp[uy]
         ·have a2':¬(100:Int)<L.length:=by omega
          simp[uw,ha,a1',a1,a2',a2];simp[uy,hcc]
       ·rintro vs h5 ⟨rfl,rfl⟩;by_cases c4:2000<s.length\/100<l.length\/1000<m+1
        ·rw[am1 c4,anA c4];simp[AK,hr];exact hK2.fail hid 2
        ·rw[amU c4,anw c4];simp[AK,ha];refine aaW s hK2.gj (by omega) ?_;cases c5:Lib.validD s
         ·simp[hr];exact hK2.fail hid 3
         ·simp only[aon,ans];by_cases c6:k=4
          ·subst c6;simp[ha];exact M7 hid h8 hL (by omega) (by omega) (mj (by omega)) hK2 (by omega)
          ·simp[ha,c6];simp[LP,ha,hr];refine⟨gP ?_ (.int _ _),hK2.ob.Uv hid (by omega) _⟩;refine .agg _ _ rfl λi c d hc hd=>?_
           match i with
           |0=>simp[tC]at hc hd;subst hc;subst hd;exact .int _ _
           |1=>simp[tC]at hc hd;subst hc;subst hd;exact .aa
           |i+2=>simp at hc
      ·simp only[anH];simp[B7,hr];exact hK2.fail hid 1
theorem Db:∀(k:Nat) (d:Int),d+k=16->0<=d->Dx d
 |0,d,h1,h0=>yu (es:=[]) ⟨h0,by omega⟩ λh=>by omega
 |k+1,d,h1,h0=>yu (es:=[eKP (d+1) (Db k (d+1) (by omega) (by omega))]) ⟨h0,by omega⟩ λh=>⟨_,rfl⟩
theorem abo(h:AH)(v:Val)(hg:GJ h)(_:True):aK prog 128 [.agg (vC v)] h (.tup [.agg (tC (if mT v=0 then(pck 0 v 0).2.1 else .s 0)),I (mT v)]) h:=by
 refine aZ (R:=λv' h'=>Frz (fresh h' h.nx) false v' (.tup [.agg (tC (if mT v=0 then(pck 0 v 0).2.1 else .s 0)),I (mT v)])/\h.nx<=h'.nx/\∀i,i<h.nx->h'.H.get i=h.H.get i) (ahO (aW [eKP 0 (Db 16 0 (by omega) (by omega)),aeF]) ?_) λv' h' h1=>h1
 have hl:(vC v).length=4:=cH v;have ho:=iH v;have h8:=hg.2;have fk:cut (vC v) 0 4=some (vC v):=by
  have:=aM (α:=vC v) (b:=[]) (n:=4) hl;rwa [am5]at this
 have q0:¬h.nx=h.nx+1+1:=by omega
 simp[aes,ho,hl,fk,q0];have eE:mT v=(pck 0 v 0).1:=rfl;rw[eE];have hg1:GJ ((((h.add (.cells (vC v))).add (.cells [I 0,.aa])).add (.cells [I 0])).set (h.nx+1+1) (.cells [I 0])):=(((hg.add _).add _).add _).set (by omega);have hc1:((((h.add (.cells (vC v))).add (.cells [I 0,.aa])).add (.cells [I 0])).set (h.nx+1+1) (.cells [I 0])).ab (h.nx+1+1)=some [I 0]:=eD _ _ _ _ rfl;have hr1:((((h.add (.cells (vC v))).add (.cells [I 0,.aa])).add (.cells [I 0])).set (h.nx+1+1) (.cells [I 0])).ab (h.nx+1)=some [I 0,.aa]:=by
  rw[ak _ _ _ _ (by omega),aC _ _ _ (by simp)];exact bd _ _ _ rfl
 have hn1:((((h.add (.cells (vC v))).add (.cells [I 0,.aa])).add (.cells [I 0])).set (h.nx+1+1) (.cells [I 0])).nx=h.nx+3:=by simp
 have Xu:∀i,i<h.nx->((((h.add (.cells (vC v))).add (.cells [I 0,.aa])).add (.cells [I 0])).set (h.nx+1+1) (.cells [I 0])).H.get i=h.H.get i:=λi hi=>by
  rw[au,amU (by omega),az,amU (by simp;omega),az,amU (by simp;omega),az,amU (by omega)]
 generalize(((h.add (.cells (vC v))).add (.cells [I 0,.aa])).add (.cells [I 0])).set (h.nx+1+1) (.cells [I 0])=h1 at*;refine XV ⟨hg1,by omega,by omega,hc1⟩ (by omega) ?_;have hck:ckP 0 v 0 =.tup [.agg (tC (pck 0 v 0).2.1),I (pck 0 v 0).1]:=rfl;rw[hck];generalize pck 0 v 0=r at*;obtain⟨e,t,c⟩:=r;simp only;have hr2:(h1.set (h.nx+1+1) (.cells [I c])).ab (h.nx+1)=some [I 0,.aa]:=by rw[ak _ _ _ _ (by omega)];exact hr1
 have hn2:(h1.set (h.nx+1+1) (.cells [I c])).nx=h.nx+3:=by simpa using hn1
 have UL:∀i,i<h.nx->(h1.set (h.nx+1+1) (.cells [I c])).H.get i=h.H.get i:=λi hi=>by rw[au,amU (by omega)];exact Xu i hi
 generalize h1.set (h.nx+1+1) (.cells [I c])=h2 at*;have q1:¬h.nx+1=h2.nx:=by omega
 rw[cp t];by_cases he:e=0
 ·simp[Aq,he,q1];rw[<-cp t];refine abe t trivial ?_;rw[cp t];simp[KV,hr2,q1];refine⟨?_,by omega,λi hi=>by rw[au,amU (by omega),au,amU (by omega),az,amU (by omega)];exact UL i hi⟩;first|exact((bK _ _ _ _).1 (kC t _)).2 1 _ _ (by rw[cp];rfl) (by rw[cp];rfl)|(rw[<-cp];exact kC _ _)
 ·simp[Aq,he,hr2,q1];refine⟨agL (lg _),by omega,λi hi=>by rw[au,amU (by omega),au,amU (by omega),az,amU (by omega)];exact UL i hi⟩
def adS:QE prog:=QE.fn 128 GJ (fun(v:Val)=>[.agg (vC v)]) (fun(v:Val)(h:AH)=>True) (fun(v:Val)=>.tup [.agg (tC (if mT v=0 then(pck 0 v 0).2.1 else .s 0)),I (mT v)]) (λh v hj hx=>abo h v hj hx)
theorem Zm{tl h}(v:Val){Q:QT}(hj:GJ h)(hx:True)(hq:Q (.tup [.agg (tC (if mT v=0 then(pck 0 v 0).2.1 else .s 0)),I (mT v)]) h):tb (adS::tl) 128 [.agg (vC v)] h Q:=aV v hj hx hq
theorem WC(h:AH)(v:Val)(hg:GJ h)(_:True):aK prog 97 [.agg (vC v)] h (I (mT v)) h:=by
 refine aZ (R:=λv' h'=>v'=I (mT v)/\h.nx<=h'.nx/\∀i,i<h.nx->h'.H.get i=h.H.get i) (C97 (aW [adS]) ?_) λv' h' ⟨h1,h2,h3⟩=>⟨by rw[h1];exact .int _ _,h2,h3⟩
 have hl:(vC v).length=4:=cH v;have ho:=iH v;have fk:cut (vC v) 0 4=some (vC v):=by
  have:=aM (α:=vC v) (b:=[]) (n:=4) hl;rwa [am5]at this
 simp[g97,ho,hl,fk];refine Zm v (hg.add _) trivial ?_;rw[cp];have hgt:∀i,i<h.nx->(h.add (.cells (vC v))).H.get i=h.H.get i:=λi hi=>by rw[az,amU (by omega)]
 have hn:h.nx<=(h.add (.cells (vC v))).nx:=by simp
 generalize h.add (.cells (vC v))=h1 at*;simp[R5];refine⟨by omega,λi hi=>?_⟩;rw[au,amU (by omega),az,amU (by omega)];exact hgt i hi
def e97:QE prog:=QE.fn 97 GJ (fun(v:Val)=>[.agg (vC v)]) (fun(v:Val)(h:AH)=>True) (fun(v:Val)=>I (mT v)) (λh v hj hx=>WC h v hj hx)
theorem afU{tl h}(v:Val){Q:QT}(hj:GJ h)(hx:True)(hq:Q (I (mT v)) h):tb (e97::tl) 97 [.agg (vC v)] h Q:=aV v hj hx hq
@[simp ↓] theorem aBD:TbT e97 97:=aH e97
