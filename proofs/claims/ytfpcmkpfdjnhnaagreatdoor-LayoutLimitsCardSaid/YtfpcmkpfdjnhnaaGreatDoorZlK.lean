/- The calls that were found hold wherever the variable reads so. -/
import Derived.Test.YtfpcmkpfdjnhnaaGreatDoorZlR0
import Derived.Test.YtfpcmkpfdjnhnaaGreatDoorZlR1
import Derived.Test.YtfpcmkpfdjnhnaaGreatDoorZlR2
import Derived.Test.YtfpcmkpfdjnhnaaGreatDoorZlR3
import Derived.Test.YtfpcmkpfdjnhnaaGreatDoorZlR4
import Derived.Test.YtfpcmkpfdjnhnaaGreatDoorZlR5
import Derived.Test.YtfpcmkpfdjnhnaaGreatDoorZlR6
import Derived.Test.YtfpcmkpfdjnhnaaGreatDoorZlR7
set_option linter.unusedSimpArgs false
set_option linter.unusedVariables false
set_option linter.unnecessarySimpa false
noncomputable section
namespace Go.Proofs.YtfpcmkpfdjnhnaaGreatDoor
open Go.Eng
theorem k0 : GVOk Tryz.prog 0 props e0 := gxOk_ok (X_ok noF_ok) hpl r0
theorem k1 : GVOk Tryz.prog 0 props e1 := gxOk_ok (X_ok noF_ok) hpl r1
theorem k2 : GVOk Tryz.prog 0 props e2 := gxOk_ok (X_ok (gX_ok (t := (.one 65 [e1])) (fun e he => by
  simp only [List.mem_cons, List.not_mem_nil, or_false] at he
  rcases he with rfl
  · exact ⟨rfl, k1⟩))) hpl r2
theorem k3 : GVOk Tryz.prog 0 props e3 := gxOk_ok (X_ok noF_ok) hpl r3
theorem k4 : GVOk Tryz.prog 0 props e4 := gxOk_ok (X_ok noF_ok) hpl r4
theorem k5 : GVOk Tryz.prog 0 props e5 := gxOk_ok (X_ok noF_ok) hpl r5
theorem k6 : GVOk Tryz.prog 0 props e6 := gxOk_ok (X_ok noF_ok) hpl r6
theorem k7 : GVOk Tryz.prog 0 props e7 := gxOk_ok (X_ok noF_ok) hpl r7
theorem k8 : GVOk Tryz.prog 0 props e8 := gxOk_ok (X_ok noF_ok) hpl r8
theorem k9 : GVOk Tryz.prog 0 props e9 := gxOk_ok (X_ok noF_ok) hpl r9
theorem k10 : GVOk Tryz.prog 0 props e10 := gxOk_ok (X_ok noF_ok) hpl r10
theorem k11 : GVOk Tryz.prog 0 props e11 := gxOk_ok (X_ok noF_ok) hpl r11
theorem k12 : GVOk Tryz.prog 0 props e12 := gxOk_ok (X_ok noF_ok) hpl r12
theorem k13 : GVOk Tryz.prog 0 props e13 := gxOk_ok (X_ok noF_ok) hpl r13
theorem k14 : GVOk Tryz.prog 0 props e14 := gxOk_ok (X_ok noF_ok) hpl r14
theorem k15 : GVOk Tryz.prog 0 props e15 := gxOk_ok (X_ok noF_ok) hpl r15
theorem k16 : GVOk Tryz.prog 0 props e16 := gxOk_ok (X_ok noF_ok) hpl r16
theorem k17 : GVOk Tryz.prog 0 props e17 := gxOk_ok (X_ok noF_ok) hpl r17
theorem k18 : GVOk Tryz.prog 0 props e18 := gxOk_ok (X_ok noF_ok) hpl r18
theorem k19 : GVOk Tryz.prog 0 props e19 := gxOk_ok (X_ok noF_ok) hpl r19
theorem k20 : GVOk Tryz.prog 0 props e20 := gxOk_ok (X_ok noF_ok) hpl r20
theorem k21 : GVOk Tryz.prog 0 props e21 := gxOk_ok (X_ok noF_ok) hpl r21
theorem k22 : GVOk Tryz.prog 0 props e22 := gxOk_ok (X_ok noF_ok) hpl r22
theorem k23 : GVOk Tryz.prog 0 props e23 := gxOk_ok (X_ok noF_ok) hpl r23
theorem k24 : GVOk Tryz.prog 0 props e24 := gxOk_ok (X_ok noF_ok) hpl r24
theorem k25 : GVOk Tryz.prog 0 props e25 := gxOk_ok (X_ok noF_ok) hpl r25
theorem k26 : GVOk Tryz.prog 0 props e26 := gxOk_ok (X_ok noF_ok) hpl r26
theorem k27 : GVOk Tryz.prog 0 props e27 := gxOk_ok (X_ok noF_ok) hpl r27
theorem k28 : GVOk Tryz.prog 0 props e28 := gxOk_ok (X_ok noF_ok) hpl r28
theorem k29 : GVOk Tryz.prog 0 props e29 := gxOk_ok (X_ok noF_ok) hpl r29
theorem k30 : GVOk Tryz.prog 0 props e30 := gxOk_ok (X_ok noF_ok) hpl r30
theorem k31 : GVOk Tryz.prog 0 props e31 := gxOk_ok (X_ok noF_ok) hpl r31
theorem k32 : GVOk Tryz.prog 0 props e32 := gxOk_ok (X_ok noF_ok) hpl r32
theorem k33 : GVOk Tryz.prog 0 props e33 := gxOk_ok (X_ok noF_ok) hpl r33
theorem k34 : GVOk Tryz.prog 0 props e34 := gxOk_ok (X_ok noF_ok) hpl r34
theorem k35 : GVOk Tryz.prog 0 props e35 := gxOk_ok (X_ok noF_ok) hpl r35
theorem k36 : GVOk Tryz.prog 0 props e36 := gxOk_ok (X_ok (gX_ok (t := (.node 65 (.node 31 (.one 18 [e0]) (.one 31 [e4, e5, e6, e7, e8, e9, e10, e11, e12, e13, e14, e15, e16, e17, e18, e19, e20, e21, e22, e23, e24, e25, e26, e27, e28, e29, e30, e31, e32, e33, e34, e35])) (.node 116 (.one 65 [e1]) (.node 117 (.one 116 [e2]) (.one 117 [e3]))))) ⟨⟨(fun e he => by
  simp only [List.mem_cons, List.not_mem_nil, or_false] at he
  rcases he with rfl
  · exact ⟨rfl, k0⟩), (fun e he => by
  simp only [List.mem_cons, List.not_mem_nil, or_false] at he
  rcases he with rfl | rfl | rfl | rfl | rfl | rfl | rfl | rfl | rfl | rfl | rfl | rfl | rfl | rfl | rfl | rfl | rfl | rfl | rfl | rfl | rfl | rfl | rfl | rfl | rfl | rfl | rfl | rfl | rfl | rfl | rfl | rfl
  · exact ⟨rfl, k4⟩
  · exact ⟨rfl, k5⟩
  · exact ⟨rfl, k6⟩
  · exact ⟨rfl, k7⟩
  · exact ⟨rfl, k8⟩
  · exact ⟨rfl, k9⟩
  · exact ⟨rfl, k10⟩
  · exact ⟨rfl, k11⟩
  · exact ⟨rfl, k12⟩
  · exact ⟨rfl, k13⟩
  · exact ⟨rfl, k14⟩
  · exact ⟨rfl, k15⟩
  · exact ⟨rfl, k16⟩
  · exact ⟨rfl, k17⟩
  · exact ⟨rfl, k18⟩
  · exact ⟨rfl, k19⟩
  · exact ⟨rfl, k20⟩
  · exact ⟨rfl, k21⟩
  · exact ⟨rfl, k22⟩
  · exact ⟨rfl, k23⟩
  · exact ⟨rfl, k24⟩
  · exact ⟨rfl, k25⟩
  · exact ⟨rfl, k26⟩
  · exact ⟨rfl, k27⟩
  · exact ⟨rfl, k28⟩
  · exact ⟨rfl, k29⟩
  · exact ⟨rfl, k30⟩
  · exact ⟨rfl, k31⟩
  · exact ⟨rfl, k32⟩
  · exact ⟨rfl, k33⟩
  · exact ⟨rfl, k34⟩
  · exact ⟨rfl, k35⟩)⟩, ⟨(fun e he => by
  simp only [List.mem_cons, List.not_mem_nil, or_false] at he
  rcases he with rfl
  · exact ⟨rfl, k1⟩), ⟨(fun e he => by
  simp only [List.mem_cons, List.not_mem_nil, or_false] at he
  rcases he with rfl
  · exact ⟨rfl, k2⟩), (fun e he => by
  simp only [List.mem_cons, List.not_mem_nil, or_false] at he
  rcases he with rfl
  · exact ⟨rfl, k3⟩)⟩⟩⟩)) hpl r36
theorem k37 : GVOk Tryz.prog 0 props e37 := gxOk_ok (X_ok noF_ok) hpl r37
theorem k38 : PVOk Tryz.prog 0 props e38 := pxOk_ok (X_ok noF_ok) hpl r38
theorem k39 : GVOk Tryz.prog 0 props e39 := gxOk_ok (X_ok noF_ok) hpl r39
theorem k40 : GVOk Tryz.prog 0 props e40 := gxOk_ok (X_ok (hor_ok ixH_ok (hor_ok (pX_ok (t := (.one 39 [e38])) (fun e he => by
  simp only [List.mem_cons, List.not_mem_nil, or_false] at he
  rcases he with rfl
  · exact ⟨rfl, k38⟩)) (gX_ok (t := (.node 106 (.one 37 [e37]) (.one 106 [e39]))) ⟨(fun e he => by
  simp only [List.mem_cons, List.not_mem_nil, or_false] at he
  rcases he with rfl
  · exact ⟨rfl, k37⟩), (fun e he => by
  simp only [List.mem_cons, List.not_mem_nil, or_false] at he
  rcases he with rfl
  · exact ⟨rfl, k39⟩)⟩)))) hpl r40
theorem k41 : GVOk Tryz.prog 0 props e41 := gxOk_ok (X_ok noF_ok) hpl r41
theorem k42 : GVOk Tryz.prog 0 props e42 := gxOk_ok (X_ok noF_ok) hpl r42
theorem k43 : GVOk Tryz.prog 0 props e43 := gxOk_ok (X_ok noF_ok) hpl r43
theorem k44 : GVOk Tryz.prog 0 props e44 := gxOk_ok (X_ok (gX_ok (t := (.one 31 [e41, e42, e43])) (fun e he => by
  simp only [List.mem_cons, List.not_mem_nil, or_false] at he
  rcases he with rfl | rfl | rfl
  · exact ⟨rfl, k41⟩
  · exact ⟨rfl, k42⟩
  · exact ⟨rfl, k43⟩))) hpl r44
theorem k45 : GVOk Tryz.prog 0 props e45 := gxOk_ok (X_ok noF_ok) hpl r45
theorem k46 : GVOk Tryz.prog 0 props e46 := gxOk_ok (X_ok noF_ok) hpl r46
theorem k47 : GVOk Tryz.prog 0 props e47 := gxOk_ok (X_ok noF_ok) hpl r47
theorem k48 : GVOk Tryz.prog 0 props e48 := gxOk_ok (X_ok noF_ok) hpl r48
theorem k49 : GVOk Tryz.prog 0 props e49 := gxOk_ok (X_ok (hor_ok ixH_ok (gX_ok (t := (.node 250 (.one 249 [e45, e47]) (.one 250 [e46, e48]))) ⟨(fun e he => by
  simp only [List.mem_cons, List.not_mem_nil, or_false] at he
  rcases he with rfl | rfl
  · exact ⟨rfl, k45⟩
  · exact ⟨rfl, k47⟩), (fun e he => by
  simp only [List.mem_cons, List.not_mem_nil, or_false] at he
  rcases he with rfl | rfl
  · exact ⟨rfl, k46⟩
  · exact ⟨rfl, k48⟩)⟩))) hpl r49
theorem k50 : GVOk Tryz.prog 0 props e50 := gxOk_ok (X_ok noF_ok) hpl r50
theorem k51 : GVOk Tryz.prog 0 props e51 := gxOk_ok (X_ok noF_ok) hpl r51
theorem k52 : GVOk Tryz.prog 0 props e52 := gxOk_ok (X_ok (gX_ok (t := (.one 65 [e51])) (fun e he => by
  simp only [List.mem_cons, List.not_mem_nil, or_false] at he
  rcases he with rfl
  · exact ⟨rfl, k51⟩))) hpl r52
theorem k53 : GVOk Tryz.prog 0 props e53 := gxOk_ok (X_ok noF_ok) hpl r53
theorem k54 : GVOk Tryz.prog 0 props e54 := gxOk_ok (X_ok noF_ok) hpl r54
theorem k55 : GVOk Tryz.prog 0 props e55 := gxOk_ok (X_ok noF_ok) hpl r55
theorem k56 : GVOk Tryz.prog 0 props e56 := gxOk_ok (X_ok noF_ok) hpl r56
theorem k57 : GVOk Tryz.prog 0 props e57 := gxOk_ok (X_ok noF_ok) hpl r57
theorem k58 : GVOk Tryz.prog 0 props e58 := gxOk_ok (X_ok noF_ok) hpl r58
theorem k59 : GVOk Tryz.prog 0 props e59 := gxOk_ok (X_ok noF_ok) hpl r59
theorem k60 : GVOk Tryz.prog 0 props e60 := gxOk_ok (X_ok noF_ok) hpl r60
theorem k61 : GVOk Tryz.prog 0 props e61 := gxOk_ok (X_ok noF_ok) hpl r61
theorem k62 : GVOk Tryz.prog 0 props e62 := gxOk_ok (X_ok noF_ok) hpl r62
theorem k63 : GVOk Tryz.prog 0 props e63 := gxOk_ok (X_ok noF_ok) hpl r63
theorem k64 : GVOk Tryz.prog 0 props e64 := gxOk_ok (X_ok noF_ok) hpl r64
theorem k65 : GVOk Tryz.prog 0 props e65 := gxOk_ok (X_ok noF_ok) hpl r65
theorem k66 : GVOk Tryz.prog 0 props e66 := gxOk_ok (X_ok noF_ok) hpl r66
theorem k67 : GVOk Tryz.prog 0 props e67 := gxOk_ok (X_ok noF_ok) hpl r67
theorem k68 : GVOk Tryz.prog 0 props e68 := gxOk_ok (X_ok noF_ok) hpl r68
theorem k69 : GVOk Tryz.prog 0 props e69 := gxOk_ok (X_ok noF_ok) hpl r69
theorem k70 : GVOk Tryz.prog 0 props e70 := gxOk_ok (X_ok noF_ok) hpl r70
theorem k71 : GVOk Tryz.prog 0 props e71 := gxOk_ok (X_ok noF_ok) hpl r71
theorem k72 : GVOk Tryz.prog 0 props e72 := gxOk_ok (X_ok noF_ok) hpl r72
theorem k73 : GVOk Tryz.prog 0 props e73 := gxOk_ok (X_ok noF_ok) hpl r73
theorem k74 : GVOk Tryz.prog 0 props e74 := gxOk_ok (X_ok noF_ok) hpl r74
theorem k75 : GVOk Tryz.prog 0 props e75 := gxOk_ok (X_ok noF_ok) hpl r75
theorem k76 : GVOk Tryz.prog 0 props e76 := gxOk_ok (X_ok noF_ok) hpl r76
theorem k77 : GVOk Tryz.prog 0 props e77 := gxOk_ok (X_ok noF_ok) hpl r77
theorem k78 : GVOk Tryz.prog 0 props e78 := gxOk_ok (X_ok noF_ok) hpl r78
theorem k79 : GVOk Tryz.prog 0 props e79 := gxOk_ok (X_ok noF_ok) hpl r79
theorem k80 : GVOk Tryz.prog 0 props e80 := gxOk_ok (X_ok noF_ok) hpl r80
theorem k81 : GVOk Tryz.prog 0 props e81 := gxOk_ok (X_ok noF_ok) hpl r81
theorem k82 : GVOk Tryz.prog 0 props e82 := gxOk_ok (X_ok noF_ok) hpl r82
theorem k83 : GVOk Tryz.prog 0 props e83 := gxOk_ok (X_ok noF_ok) hpl r83
theorem k84 : GVOk Tryz.prog 0 props e84 := gxOk_ok (X_ok noF_ok) hpl r84
theorem k85 : GVOk Tryz.prog 0 props e85 := gxOk_ok (X_ok noF_ok) hpl r85
theorem k86 : GVOk Tryz.prog 0 props e86 := gxOk_ok (X_ok noF_ok) hpl r86
theorem k87 : GVOk Tryz.prog 0 props e87 := gxOk_ok (X_ok (gX_ok (t := (.node 65 (.node 31 (.one 18 [e50]) (.one 31 [e54, e55, e56, e57, e58, e59, e60, e61, e62, e63, e64, e65, e66, e67, e68, e69, e70, e71, e72, e73, e74, e75, e76, e77, e78, e79, e80, e81, e82, e83, e84, e85, e86])) (.node 116 (.one 65 [e51]) (.node 117 (.one 116 [e52]) (.one 117 [e53]))))) ⟨⟨(fun e he => by
  simp only [List.mem_cons, List.not_mem_nil, or_false] at he
  rcases he with rfl
  · exact ⟨rfl, k50⟩), (fun e he => by
  simp only [List.mem_cons, List.not_mem_nil, or_false] at he
  rcases he with rfl | rfl | rfl | rfl | rfl | rfl | rfl | rfl | rfl | rfl | rfl | rfl | rfl | rfl | rfl | rfl | rfl | rfl | rfl | rfl | rfl | rfl | rfl | rfl | rfl | rfl | rfl | rfl | rfl | rfl | rfl | rfl | rfl
  · exact ⟨rfl, k54⟩
  · exact ⟨rfl, k55⟩
  · exact ⟨rfl, k56⟩
  · exact ⟨rfl, k57⟩
  · exact ⟨rfl, k58⟩
  · exact ⟨rfl, k59⟩
  · exact ⟨rfl, k60⟩
  · exact ⟨rfl, k61⟩
  · exact ⟨rfl, k62⟩
  · exact ⟨rfl, k63⟩
  · exact ⟨rfl, k64⟩
  · exact ⟨rfl, k65⟩
  · exact ⟨rfl, k66⟩
  · exact ⟨rfl, k67⟩
  · exact ⟨rfl, k68⟩
  · exact ⟨rfl, k69⟩
  · exact ⟨rfl, k70⟩
  · exact ⟨rfl, k71⟩
  · exact ⟨rfl, k72⟩
  · exact ⟨rfl, k73⟩
  · exact ⟨rfl, k74⟩
  · exact ⟨rfl, k75⟩
  · exact ⟨rfl, k76⟩
  · exact ⟨rfl, k77⟩
  · exact ⟨rfl, k78⟩
  · exact ⟨rfl, k79⟩
  · exact ⟨rfl, k80⟩
  · exact ⟨rfl, k81⟩
  · exact ⟨rfl, k82⟩
  · exact ⟨rfl, k83⟩
  · exact ⟨rfl, k84⟩
  · exact ⟨rfl, k85⟩
  · exact ⟨rfl, k86⟩)⟩, ⟨(fun e he => by
  simp only [List.mem_cons, List.not_mem_nil, or_false] at he
  rcases he with rfl
  · exact ⟨rfl, k51⟩), ⟨(fun e he => by
  simp only [List.mem_cons, List.not_mem_nil, or_false] at he
  rcases he with rfl
  · exact ⟨rfl, k52⟩), (fun e he => by
  simp only [List.mem_cons, List.not_mem_nil, or_false] at he
  rcases he with rfl
  · exact ⟨rfl, k53⟩)⟩⟩⟩)) hpl r87
theorem k88 : GVOk Tryz.prog 0 props e88 := gxOk_ok (X_ok noF_ok) hpl r88
theorem k89 : PVOk Tryz.prog 0 props e89 := pxOk_ok (X_ok noF_ok) hpl r89
theorem k90 : GVOk Tryz.prog 0 props e90 := gxOk_ok (X_ok noF_ok) hpl r90
theorem k91 : GVOk Tryz.prog 0 props e91 := gxOk_ok (X_ok (hor_ok ixH_ok (hor_ok (pX_ok (t := (.one 39 [e89])) (fun e he => by
  simp only [List.mem_cons, List.not_mem_nil, or_false] at he
  rcases he with rfl
  · exact ⟨rfl, k89⟩)) (gX_ok (t := (.node 106 (.one 37 [e88]) (.one 106 [e90]))) ⟨(fun e he => by
  simp only [List.mem_cons, List.not_mem_nil, or_false] at he
  rcases he with rfl
  · exact ⟨rfl, k88⟩), (fun e he => by
  simp only [List.mem_cons, List.not_mem_nil, or_false] at he
  rcases he with rfl
  · exact ⟨rfl, k90⟩)⟩)))) hpl r91
theorem k92 : GVOk Tryz.prog 0 props e92 := gxOk_ok (X_ok noF_ok) hpl r92
theorem k93 : GVOk Tryz.prog 0 props e93 := gxOk_ok (X_ok noF_ok) hpl r93
theorem k94 : GVOk Tryz.prog 0 props e94 := gxOk_ok (X_ok (gX_ok (t := (.one 65 [e93])) (fun e he => by
  simp only [List.mem_cons, List.not_mem_nil, or_false] at he
  rcases he with rfl
  · exact ⟨rfl, k93⟩))) hpl r94
theorem k95 : GVOk Tryz.prog 0 props e95 := gxOk_ok (X_ok noF_ok) hpl r95
theorem k96 : GVOk Tryz.prog 0 props e96 := gxOk_ok (X_ok noF_ok) hpl r96
theorem k97 : GVOk Tryz.prog 0 props e97 := gxOk_ok (X_ok noF_ok) hpl r97
theorem k98 : GVOk Tryz.prog 0 props e98 := gxOk_ok (X_ok noF_ok) hpl r98
theorem k99 : GVOk Tryz.prog 0 props e99 := gxOk_ok (X_ok noF_ok) hpl r99
theorem k100 : GVOk Tryz.prog 0 props e100 := gxOk_ok (X_ok noF_ok) hpl r100
theorem k101 : GVOk Tryz.prog 0 props e101 := gxOk_ok (X_ok noF_ok) hpl r101
theorem k102 : GVOk Tryz.prog 0 props e102 := gxOk_ok (X_ok noF_ok) hpl r102
theorem k103 : GVOk Tryz.prog 0 props e103 := gxOk_ok (X_ok noF_ok) hpl r103
theorem k104 : GVOk Tryz.prog 0 props e104 := gxOk_ok (X_ok noF_ok) hpl r104
theorem k105 : GVOk Tryz.prog 0 props e105 := gxOk_ok (X_ok noF_ok) hpl r105
theorem k106 : GVOk Tryz.prog 0 props e106 := gxOk_ok (X_ok noF_ok) hpl r106
theorem k107 : GVOk Tryz.prog 0 props e107 := gxOk_ok (X_ok noF_ok) hpl r107
theorem k108 : GVOk Tryz.prog 0 props e108 := gxOk_ok (X_ok noF_ok) hpl r108
theorem k109 : GVOk Tryz.prog 0 props e109 := gxOk_ok (X_ok noF_ok) hpl r109
theorem k110 : GVOk Tryz.prog 0 props e110 := gxOk_ok (X_ok noF_ok) hpl r110
theorem k111 : GVOk Tryz.prog 0 props e111 := gxOk_ok (X_ok noF_ok) hpl r111
theorem k112 : GVOk Tryz.prog 0 props e112 := gxOk_ok (X_ok noF_ok) hpl r112
theorem k113 : GVOk Tryz.prog 0 props e113 := gxOk_ok (X_ok noF_ok) hpl r113
theorem k114 : GVOk Tryz.prog 0 props e114 := gxOk_ok (X_ok noF_ok) hpl r114
theorem k115 : GVOk Tryz.prog 0 props e115 := gxOk_ok (X_ok noF_ok) hpl r115
theorem k116 : GVOk Tryz.prog 0 props e116 := gxOk_ok (X_ok noF_ok) hpl r116
theorem k117 : GVOk Tryz.prog 0 props e117 := gxOk_ok (X_ok noF_ok) hpl r117
theorem k118 : GVOk Tryz.prog 0 props e118 := gxOk_ok (X_ok noF_ok) hpl r118
theorem k119 : GVOk Tryz.prog 0 props e119 := gxOk_ok (X_ok noF_ok) hpl r119
theorem k120 : GVOk Tryz.prog 0 props e120 := gxOk_ok (X_ok noF_ok) hpl r120
theorem k121 : GVOk Tryz.prog 0 props e121 := gxOk_ok (X_ok noF_ok) hpl r121
theorem k122 : GVOk Tryz.prog 0 props e122 := gxOk_ok (X_ok noF_ok) hpl r122
theorem k123 : GVOk Tryz.prog 0 props e123 := gxOk_ok (X_ok noF_ok) hpl r123
theorem k124 : GVOk Tryz.prog 0 props e124 := gxOk_ok (X_ok noF_ok) hpl r124
theorem k125 : GVOk Tryz.prog 0 props e125 := gxOk_ok (X_ok noF_ok) hpl r125
theorem k126 : GVOk Tryz.prog 0 props e126 := gxOk_ok (X_ok noF_ok) hpl r126
theorem k127 : GVOk Tryz.prog 0 props e127 := gxOk_ok (X_ok noF_ok) hpl r127
theorem k128 : GVOk Tryz.prog 0 props e128 := gxOk_ok (X_ok noF_ok) hpl r128
theorem k129 : GVOk Tryz.prog 0 props e129 := gxOk_ok (X_ok noF_ok) hpl r129
theorem k130 : GVOk Tryz.prog 0 props e130 := gxOk_ok (X_ok (gX_ok (t := (.node 65 (.node 31 (.one 18 [e92]) (.one 31 [e96, e97, e98, e99, e100, e101, e102, e103, e104, e105, e106, e107, e108, e109, e110, e111, e112, e113, e114, e115, e116, e117, e118, e119, e120, e121, e122, e123, e124, e125, e126, e127, e128, e129])) (.node 116 (.one 65 [e93]) (.node 117 (.one 116 [e94]) (.one 117 [e95]))))) ⟨⟨(fun e he => by
  simp only [List.mem_cons, List.not_mem_nil, or_false] at he
  rcases he with rfl
  · exact ⟨rfl, k92⟩), (fun e he => by
  simp only [List.mem_cons, List.not_mem_nil, or_false] at he
  rcases he with rfl | rfl | rfl | rfl | rfl | rfl | rfl | rfl | rfl | rfl | rfl | rfl | rfl | rfl | rfl | rfl | rfl | rfl | rfl | rfl | rfl | rfl | rfl | rfl | rfl | rfl | rfl | rfl | rfl | rfl | rfl | rfl | rfl | rfl
  · exact ⟨rfl, k96⟩
  · exact ⟨rfl, k97⟩
  · exact ⟨rfl, k98⟩
  · exact ⟨rfl, k99⟩
  · exact ⟨rfl, k100⟩
  · exact ⟨rfl, k101⟩
  · exact ⟨rfl, k102⟩
  · exact ⟨rfl, k103⟩
  · exact ⟨rfl, k104⟩
  · exact ⟨rfl, k105⟩
  · exact ⟨rfl, k106⟩
  · exact ⟨rfl, k107⟩
  · exact ⟨rfl, k108⟩
  · exact ⟨rfl, k109⟩
  · exact ⟨rfl, k110⟩
  · exact ⟨rfl, k111⟩
  · exact ⟨rfl, k112⟩
  · exact ⟨rfl, k113⟩
  · exact ⟨rfl, k114⟩
  · exact ⟨rfl, k115⟩
  · exact ⟨rfl, k116⟩
  · exact ⟨rfl, k117⟩
  · exact ⟨rfl, k118⟩
  · exact ⟨rfl, k119⟩
  · exact ⟨rfl, k120⟩
  · exact ⟨rfl, k121⟩
  · exact ⟨rfl, k122⟩
  · exact ⟨rfl, k123⟩
  · exact ⟨rfl, k124⟩
  · exact ⟨rfl, k125⟩
  · exact ⟨rfl, k126⟩
  · exact ⟨rfl, k127⟩
  · exact ⟨rfl, k128⟩
  · exact ⟨rfl, k129⟩)⟩, ⟨(fun e he => by
  simp only [List.mem_cons, List.not_mem_nil, or_false] at he
  rcases he with rfl
  · exact ⟨rfl, k93⟩), ⟨(fun e he => by
  simp only [List.mem_cons, List.not_mem_nil, or_false] at he
  rcases he with rfl
  · exact ⟨rfl, k94⟩), (fun e he => by
  simp only [List.mem_cons, List.not_mem_nil, or_false] at he
  rcases he with rfl
  · exact ⟨rfl, k95⟩)⟩⟩⟩)) hpl r130
theorem k131 : GVOk Tryz.prog 0 props e131 := gxOk_ok (X_ok noF_ok) hpl r131
theorem k132 : PVOk Tryz.prog 0 props e132 := pxOk_ok (X_ok noF_ok) hpl r132
theorem k133 : GVOk Tryz.prog 0 props e133 := gxOk_ok (X_ok (hor_ok ixH_ok (hor_ok (pX_ok (t := (.one 39 [e132])) (fun e he => by
  simp only [List.mem_cons, List.not_mem_nil, or_false] at he
  rcases he with rfl
  · exact ⟨rfl, k132⟩)) (gX_ok (t := (.one 37 [e131])) (fun e he => by
  simp only [List.mem_cons, List.not_mem_nil, or_false] at he
  rcases he with rfl
  · exact ⟨rfl, k131⟩))))) hpl r133
theorem k134 : GVOk Tryz.prog 0 props e134 := gxOk_ok (X_ok noF_ok) hpl r134
theorem k135 : GVOk Tryz.prog 0 props e135 := gxOk_ok (X_ok noF_ok) hpl r135
theorem k136 : GVOk Tryz.prog 0 props e136 := gxOk_ok (X_ok (gX_ok (t := (.one 65 [e135])) (fun e he => by
  simp only [List.mem_cons, List.not_mem_nil, or_false] at he
  rcases he with rfl
  · exact ⟨rfl, k135⟩))) hpl r136
theorem k137 : GVOk Tryz.prog 0 props e137 := gxOk_ok (X_ok noF_ok) hpl r137
theorem k138 : GVOk Tryz.prog 0 props e138 := gxOk_ok (X_ok noF_ok) hpl r138
theorem k139 : GVOk Tryz.prog 0 props e139 := gxOk_ok (X_ok noF_ok) hpl r139
theorem k140 : GVOk Tryz.prog 0 props e140 := gxOk_ok (X_ok noF_ok) hpl r140
theorem k141 : GVOk Tryz.prog 0 props e141 := gxOk_ok (X_ok noF_ok) hpl r141
theorem k142 : GVOk Tryz.prog 0 props e142 := gxOk_ok (X_ok noF_ok) hpl r142
theorem k143 : GVOk Tryz.prog 0 props e143 := gxOk_ok (X_ok noF_ok) hpl r143
theorem k144 : GVOk Tryz.prog 0 props e144 := gxOk_ok (X_ok noF_ok) hpl r144
theorem k145 : GVOk Tryz.prog 0 props e145 := gxOk_ok (X_ok noF_ok) hpl r145
theorem k146 : GVOk Tryz.prog 0 props e146 := gxOk_ok (X_ok noF_ok) hpl r146
theorem k147 : GVOk Tryz.prog 0 props e147 := gxOk_ok (X_ok noF_ok) hpl r147
theorem k148 : GVOk Tryz.prog 0 props e148 := gxOk_ok (X_ok noF_ok) hpl r148
theorem k149 : GVOk Tryz.prog 0 props e149 := gxOk_ok (X_ok noF_ok) hpl r149
theorem k150 : GVOk Tryz.prog 0 props e150 := gxOk_ok (X_ok noF_ok) hpl r150
theorem k151 : GVOk Tryz.prog 0 props e151 := gxOk_ok (X_ok noF_ok) hpl r151
theorem k152 : GVOk Tryz.prog 0 props e152 := gxOk_ok (X_ok noF_ok) hpl r152
theorem k153 : GVOk Tryz.prog 0 props e153 := gxOk_ok (X_ok noF_ok) hpl r153
theorem k154 : GVOk Tryz.prog 0 props e154 := gxOk_ok (X_ok noF_ok) hpl r154
theorem k155 : GVOk Tryz.prog 0 props e155 := gxOk_ok (X_ok noF_ok) hpl r155
theorem k156 : GVOk Tryz.prog 0 props e156 := gxOk_ok (X_ok noF_ok) hpl r156
theorem k157 : GVOk Tryz.prog 0 props e157 := gxOk_ok (X_ok noF_ok) hpl r157
theorem k158 : GVOk Tryz.prog 0 props e158 := gxOk_ok (X_ok noF_ok) hpl r158
theorem k159 : GVOk Tryz.prog 0 props e159 := gxOk_ok (X_ok noF_ok) hpl r159
theorem k160 : GVOk Tryz.prog 0 props e160 := gxOk_ok (X_ok noF_ok) hpl r160
theorem k161 : GVOk Tryz.prog 0 props e161 := gxOk_ok (X_ok noF_ok) hpl r161
theorem k162 : GVOk Tryz.prog 0 props e162 := gxOk_ok (X_ok noF_ok) hpl r162
theorem k163 : GVOk Tryz.prog 0 props e163 := gxOk_ok (X_ok noF_ok) hpl r163
theorem k164 : GVOk Tryz.prog 0 props e164 := gxOk_ok (X_ok noF_ok) hpl r164
theorem k165 : GVOk Tryz.prog 0 props e165 := gxOk_ok (X_ok noF_ok) hpl r165
theorem k166 : GVOk Tryz.prog 0 props e166 := gxOk_ok (X_ok noF_ok) hpl r166
theorem k167 : GVOk Tryz.prog 0 props e167 := gxOk_ok (X_ok noF_ok) hpl r167
theorem k168 : GVOk Tryz.prog 0 props e168 := gxOk_ok (X_ok noF_ok) hpl r168
theorem k169 : GVOk Tryz.prog 0 props e169 := gxOk_ok (X_ok noF_ok) hpl r169
theorem k170 : GVOk Tryz.prog 0 props e170 := gxOk_ok (X_ok noF_ok) hpl r170
theorem k171 : GVOk Tryz.prog 0 props e171 := gxOk_ok (X_ok noF_ok) hpl r171
theorem k172 : GVOk Tryz.prog 0 props e172 := gxOk_ok (X_ok noF_ok) hpl r172
theorem k173 : GVOk Tryz.prog 0 props e173 := gxOk_ok (X_ok (gX_ok (t := (.node 65 (.node 31 (.one 18 [e134]) (.one 31 [e138, e139, e140, e141, e142, e143, e144, e145, e146, e147, e148, e149, e150, e151, e152, e153, e154, e155, e156, e157, e158, e159, e160, e161, e162, e163, e164, e165, e166, e167, e168, e169, e170, e171, e172])) (.node 116 (.one 65 [e135]) (.node 117 (.one 116 [e136]) (.one 117 [e137]))))) ⟨⟨(fun e he => by
  simp only [List.mem_cons, List.not_mem_nil, or_false] at he
  rcases he with rfl
  · exact ⟨rfl, k134⟩), (fun e he => by
  simp only [List.mem_cons, List.not_mem_nil, or_false] at he
  rcases he with rfl | rfl | rfl | rfl | rfl | rfl | rfl | rfl | rfl | rfl | rfl | rfl | rfl | rfl | rfl | rfl | rfl | rfl | rfl | rfl | rfl | rfl | rfl | rfl | rfl | rfl | rfl | rfl | rfl | rfl | rfl | rfl | rfl | rfl | rfl
  · exact ⟨rfl, k138⟩
  · exact ⟨rfl, k139⟩
  · exact ⟨rfl, k140⟩
  · exact ⟨rfl, k141⟩
  · exact ⟨rfl, k142⟩
  · exact ⟨rfl, k143⟩
  · exact ⟨rfl, k144⟩
  · exact ⟨rfl, k145⟩
  · exact ⟨rfl, k146⟩
  · exact ⟨rfl, k147⟩
  · exact ⟨rfl, k148⟩
  · exact ⟨rfl, k149⟩
  · exact ⟨rfl, k150⟩
  · exact ⟨rfl, k151⟩
  · exact ⟨rfl, k152⟩
  · exact ⟨rfl, k153⟩
  · exact ⟨rfl, k154⟩
  · exact ⟨rfl, k155⟩
  · exact ⟨rfl, k156⟩
  · exact ⟨rfl, k157⟩
  · exact ⟨rfl, k158⟩
  · exact ⟨rfl, k159⟩
  · exact ⟨rfl, k160⟩
  · exact ⟨rfl, k161⟩
  · exact ⟨rfl, k162⟩
  · exact ⟨rfl, k163⟩
  · exact ⟨rfl, k164⟩
  · exact ⟨rfl, k165⟩
  · exact ⟨rfl, k166⟩
  · exact ⟨rfl, k167⟩
  · exact ⟨rfl, k168⟩
  · exact ⟨rfl, k169⟩
  · exact ⟨rfl, k170⟩
  · exact ⟨rfl, k171⟩
  · exact ⟨rfl, k172⟩)⟩, ⟨(fun e he => by
  simp only [List.mem_cons, List.not_mem_nil, or_false] at he
  rcases he with rfl
  · exact ⟨rfl, k135⟩), ⟨(fun e he => by
  simp only [List.mem_cons, List.not_mem_nil, or_false] at he
  rcases he with rfl
  · exact ⟨rfl, k136⟩), (fun e he => by
  simp only [List.mem_cons, List.not_mem_nil, or_false] at he
  rcases he with rfl
  · exact ⟨rfl, k137⟩)⟩⟩⟩)) hpl r173
theorem k174 : GVOk Tryz.prog 0 props e174 := gxOk_ok (X_ok noF_ok) hpl r174
theorem k175 : PVOk Tryz.prog 0 props e175 := pxOk_ok (X_ok noF_ok) hpl r175
theorem k176 : GVOk Tryz.prog 0 props e176 := gxOk_ok (X_ok (hor_ok ixH_ok (hor_ok (pX_ok (t := (.one 39 [e175])) (fun e he => by
  simp only [List.mem_cons, List.not_mem_nil, or_false] at he
  rcases he with rfl
  · exact ⟨rfl, k175⟩)) (gX_ok (t := (.one 37 [e174])) (fun e he => by
  simp only [List.mem_cons, List.not_mem_nil, or_false] at he
  rcases he with rfl
  · exact ⟨rfl, k174⟩))))) hpl r176
theorem K0 : FOk Tryz.prog (gX 0 props (.node 16 (.one 5 [e40, e49]) (.node 18 (.one 16 [e36, e44]) (.one 18 [e0])))) := (gX_ok (t := (.node 16 (.one 5 [e40, e49]) (.node 18 (.one 16 [e36, e44]) (.one 18 [e0])))) ⟨(fun e he => by
  simp only [List.mem_cons, List.not_mem_nil, or_false] at he
  rcases he with rfl | rfl
  · exact ⟨rfl, k40⟩
  · exact ⟨rfl, k49⟩), ⟨(fun e he => by
  simp only [List.mem_cons, List.not_mem_nil, or_false] at he
  rcases he with rfl | rfl
  · exact ⟨rfl, k36⟩
  · exact ⟨rfl, k44⟩), (fun e he => by
  simp only [List.mem_cons, List.not_mem_nil, or_false] at he
  rcases he with rfl
  · exact ⟨rfl, k0⟩)⟩⟩)
theorem K1 : FOk Tryz.prog (gX 0 props (.node 16 (.one 5 [e91, e49]) (.node 18 (.one 16 [e87, e44]) (.one 18 [e50])))) := (gX_ok (t := (.node 16 (.one 5 [e91, e49]) (.node 18 (.one 16 [e87, e44]) (.one 18 [e50])))) ⟨(fun e he => by
  simp only [List.mem_cons, List.not_mem_nil, or_false] at he
  rcases he with rfl | rfl
  · exact ⟨rfl, k91⟩
  · exact ⟨rfl, k49⟩), ⟨(fun e he => by
  simp only [List.mem_cons, List.not_mem_nil, or_false] at he
  rcases he with rfl | rfl
  · exact ⟨rfl, k87⟩
  · exact ⟨rfl, k44⟩), (fun e he => by
  simp only [List.mem_cons, List.not_mem_nil, or_false] at he
  rcases he with rfl
  · exact ⟨rfl, k50⟩)⟩⟩)
theorem K2 : FOk Tryz.prog (gX 0 props (.node 16 (.one 5 [e133, e49]) (.node 18 (.one 16 [e130, e44]) (.one 18 [e92])))) := (gX_ok (t := (.node 16 (.one 5 [e133, e49]) (.node 18 (.one 16 [e130, e44]) (.one 18 [e92])))) ⟨(fun e he => by
  simp only [List.mem_cons, List.not_mem_nil, or_false] at he
  rcases he with rfl | rfl
  · exact ⟨rfl, k133⟩
  · exact ⟨rfl, k49⟩), ⟨(fun e he => by
  simp only [List.mem_cons, List.not_mem_nil, or_false] at he
  rcases he with rfl | rfl
  · exact ⟨rfl, k130⟩
  · exact ⟨rfl, k44⟩), (fun e he => by
  simp only [List.mem_cons, List.not_mem_nil, or_false] at he
  rcases he with rfl
  · exact ⟨rfl, k92⟩)⟩⟩)
theorem K3 : FOk Tryz.prog (gX 0 props (.node 16 (.one 5 [e176, e49]) (.node 18 (.one 16 [e173, e44]) (.one 18 [e134])))) := (gX_ok (t := (.node 16 (.one 5 [e176, e49]) (.node 18 (.one 16 [e173, e44]) (.one 18 [e134])))) ⟨(fun e he => by
  simp only [List.mem_cons, List.not_mem_nil, or_false] at he
  rcases he with rfl | rfl
  · exact ⟨rfl, k176⟩
  · exact ⟨rfl, k49⟩), ⟨(fun e he => by
  simp only [List.mem_cons, List.not_mem_nil, or_false] at he
  rcases he with rfl | rfl
  · exact ⟨rfl, k173⟩
  · exact ⟨rfl, k44⟩), (fun e he => by
  simp only [List.mem_cons, List.not_mem_nil, or_false] at he
  rcases he with rfl
  · exact ⟨rfl, k134⟩)⟩⟩)
end Go.Proofs.YtfpcmkpfdjnhnaaGreatDoor
end
