/- Each function of the table is what the program has. (Printed by mkc1.py.) -/
import Derived.Test.YtaeahjgeoieifaaA26
import Derived.Test.YtaeahjgeoieifaaPTry
import Derived.Test.YtaeahjgeoieifaaProg
set_option maxRecDepth 100000
namespace Go.Ab.Try
open Go Go.Ab
theorem ck3 : chkFn Go.Proofs.Try.prog Go.Proofs.Try.f3 a3 = true := by decide +kernel
theorem fn3 : FnOk Go.Proofs.Try.prog (cdk Go.Proofs.Try.prog) (.c .z) a3 := fnOk_of (k := .c .z) Go.Proofs.Try.func3 ck3
theorem ck4 : chkFn Go.Proofs.Try.prog Go.Proofs.Try.f4 a4 = true := by decide +kernel
theorem fn4 : FnOk Go.Proofs.Try.prog (cdk Go.Proofs.Try.prog) (.d .z) a4 := fnOk_of (k := .d .z) Go.Proofs.Try.func4 ck4
theorem ck5 : chkFn Go.Proofs.Try.prog Go.Proofs.Try.f5 a5 = true := by decide +kernel
theorem fn5 : FnOk Go.Proofs.Try.prog (cdk Go.Proofs.Try.prog) (.a (.a .z)) a5 := fnOk_of (k := .a (.a .z)) Go.Proofs.Try.func5 ck5
theorem ck6 : chkFn Go.Proofs.Try.prog Go.Proofs.Try.f6 a6 = true := by decide +kernel
theorem fn6 : FnOk Go.Proofs.Try.prog (cdk Go.Proofs.Try.prog) (.b (.a .z)) a6 := fnOk_of (k := .b (.a .z)) Go.Proofs.Try.func6 ck6
theorem ck7 : chkFn Go.Proofs.Try.prog Go.Proofs.Try.f7 a7 = true := by decide +kernel
theorem fn7 : FnOk Go.Proofs.Try.prog (cdk Go.Proofs.Try.prog) (.c (.a .z)) a7 := fnOk_of (k := .c (.a .z)) Go.Proofs.Try.func7 ck7
theorem ck8 : chkFn Go.Proofs.Try.prog Go.Proofs.Try.f8 a8 = true := by decide +kernel
theorem fn8 : FnOk Go.Proofs.Try.prog (cdk Go.Proofs.Try.prog) (.d (.a .z)) a8 := fnOk_of (k := .d (.a .z)) Go.Proofs.Try.func8 ck8
theorem ck9 : chkFn Go.Proofs.Try.prog Go.Proofs.Try.f9 a9 = true := by decide +kernel
theorem fn9 : FnOk Go.Proofs.Try.prog (cdk Go.Proofs.Try.prog) (.a (.b .z)) a9 := fnOk_of (k := .a (.b .z)) Go.Proofs.Try.func9 ck9
theorem ck10 : chkFn Go.Proofs.Try.prog Go.Proofs.Try.f10 a10 = true := by decide +kernel
theorem fn10 : FnOk Go.Proofs.Try.prog (cdk Go.Proofs.Try.prog) (.b (.b .z)) a10 := fnOk_of (k := .b (.b .z)) Go.Proofs.Try.func10 ck10
theorem ck11 : chkFn Go.Proofs.Try.prog Go.Proofs.Try.f11 a11 = true := by decide +kernel
theorem fn11 : FnOk Go.Proofs.Try.prog (cdk Go.Proofs.Try.prog) (.c (.b .z)) a11 := fnOk_of (k := .c (.b .z)) Go.Proofs.Try.func11 ck11
theorem ck12 : chkFn Go.Proofs.Try.prog Go.Proofs.Try.f12 a12 = true := by decide +kernel
theorem fn12 : FnOk Go.Proofs.Try.prog (cdk Go.Proofs.Try.prog) (.d (.b .z)) a12 := fnOk_of (k := .d (.b .z)) Go.Proofs.Try.func12 ck12
theorem ck13 : chkFn Go.Proofs.Try.prog Go.Proofs.Try.f13 a13 = true := by decide +kernel
theorem fn13 : FnOk Go.Proofs.Try.prog (cdk Go.Proofs.Try.prog) (.a (.c .z)) a13 := fnOk_of (k := .a (.c .z)) Go.Proofs.Try.func13 ck13
theorem ck14 : chkFn Go.Proofs.Try.prog Go.Proofs.Try.f14 a14 = true := by decide +kernel
theorem fn14 : FnOk Go.Proofs.Try.prog (cdk Go.Proofs.Try.prog) (.b (.c .z)) a14 := fnOk_of (k := .b (.c .z)) Go.Proofs.Try.func14 ck14
theorem ck15 : chkFn Go.Proofs.Try.prog Go.Proofs.Try.f15 a15 = true := by decide +kernel
theorem fn15 : FnOk Go.Proofs.Try.prog (cdk Go.Proofs.Try.prog) (.c (.c .z)) a15 := fnOk_of (k := .c (.c .z)) Go.Proofs.Try.func15 ck15
theorem ck16 : chkFn Go.Proofs.Try.prog Go.Proofs.Try.f16 a16 = true := by decide +kernel
theorem fn16 : FnOk Go.Proofs.Try.prog (cdk Go.Proofs.Try.prog) (.d (.c .z)) a16 := fnOk_of (k := .d (.c .z)) Go.Proofs.Try.func16 ck16
theorem ck17 : chkFn Go.Proofs.Try.prog Go.Proofs.Try.f17 a17 = true := by decide +kernel
theorem fn17 : FnOk Go.Proofs.Try.prog (cdk Go.Proofs.Try.prog) (.a (.d .z)) a17 := fnOk_of (k := .a (.d .z)) Go.Proofs.Try.func17 ck17
theorem ck18 : chkFn Go.Proofs.Try.prog Go.Proofs.Try.f18 a18 = true := by decide +kernel
theorem fn18 : FnOk Go.Proofs.Try.prog (cdk Go.Proofs.Try.prog) (.b (.d .z)) a18 := fnOk_of (k := .b (.d .z)) Go.Proofs.Try.func18 ck18
theorem ck19 : chkFn Go.Proofs.Try.prog Go.Proofs.Try.f19 a19 = true := by decide +kernel
theorem fn19 : FnOk Go.Proofs.Try.prog (cdk Go.Proofs.Try.prog) (.c (.d .z)) a19 := fnOk_of (k := .c (.d .z)) Go.Proofs.Try.func19 ck19
theorem ck20 : chkFn Go.Proofs.Try.prog Go.Proofs.Try.f20 a20 = true := by decide +kernel
theorem fn20 : FnOk Go.Proofs.Try.prog (cdk Go.Proofs.Try.prog) (.d (.d .z)) a20 := fnOk_of (k := .d (.d .z)) Go.Proofs.Try.func20 ck20
theorem ck21 : chkFn Go.Proofs.Try.prog Go.Proofs.Try.f21 a21 = true := by decide +kernel
theorem fn21 : FnOk Go.Proofs.Try.prog (cdk Go.Proofs.Try.prog) (.a (.a (.a .z))) a21 := fnOk_of (k := .a (.a (.a .z))) Go.Proofs.Try.func21 ck21
theorem ck22 : chkFn Go.Proofs.Try.prog Go.Proofs.Try.f22 a22 = true := by decide +kernel
theorem fn22 : FnOk Go.Proofs.Try.prog (cdk Go.Proofs.Try.prog) (.b (.a (.a .z))) a22 := fnOk_of (k := .b (.a (.a .z))) Go.Proofs.Try.func22 ck22
theorem ck23 : chkFn Go.Proofs.Try.prog Go.Proofs.Try.f23 a23 = true := by decide +kernel
theorem fn23 : FnOk Go.Proofs.Try.prog (cdk Go.Proofs.Try.prog) (.c (.a (.a .z))) a23 := fnOk_of (k := .c (.a (.a .z))) Go.Proofs.Try.func23 ck23
theorem ck24 : chkFn Go.Proofs.Try.prog Go.Proofs.Try.f24 a24 = true := by decide +kernel
theorem fn24 : FnOk Go.Proofs.Try.prog (cdk Go.Proofs.Try.prog) (.d (.a (.a .z))) a24 := fnOk_of (k := .d (.a (.a .z))) Go.Proofs.Try.func24 ck24
theorem ck25 : chkFn Go.Proofs.Try.prog Go.Proofs.Try.f25 a25 = true := by decide +kernel
theorem fn25 : FnOk Go.Proofs.Try.prog (cdk Go.Proofs.Try.prog) (.a (.b (.a .z))) a25 := fnOk_of (k := .a (.b (.a .z))) Go.Proofs.Try.func25 ck25
theorem ck26 : chkFn Go.Proofs.Try.prog Go.Proofs.Try.f26 a26 = true := by decide +kernel
theorem fn26 : FnOk Go.Proofs.Try.prog (cdk Go.Proofs.Try.prog) (.b (.b (.a .z))) a26 := fnOk_of (k := .b (.b (.a .z))) Go.Proofs.Try.func26 ck26
theorem ck27 : chkFn Go.Proofs.Try.prog Go.Proofs.Try.f27 a27 = true := by decide +kernel
theorem fn27 : FnOk Go.Proofs.Try.prog (cdk Go.Proofs.Try.prog) (.c (.b (.a .z))) a27 := fnOk_of (k := .c (.b (.a .z))) Go.Proofs.Try.func27 ck27
theorem ck28 : chkFn Go.Proofs.Try.prog Go.Proofs.Try.f28 a28 = true := by decide +kernel
theorem fn28 : FnOk Go.Proofs.Try.prog (cdk Go.Proofs.Try.prog) (.d (.b (.a .z))) a28 := fnOk_of (k := .d (.b (.a .z))) Go.Proofs.Try.func28 ck28
theorem ck29 : chkFn Go.Proofs.Try.prog Go.Proofs.Try.f29 a29 = true := by decide +kernel
theorem fn29 : FnOk Go.Proofs.Try.prog (cdk Go.Proofs.Try.prog) (.a (.c (.a .z))) a29 := fnOk_of (k := .a (.c (.a .z))) Go.Proofs.Try.func29 ck29
theorem ck30 : chkFn Go.Proofs.Try.prog Go.Proofs.Try.f30 a30 = true := by decide +kernel
theorem fn30 : FnOk Go.Proofs.Try.prog (cdk Go.Proofs.Try.prog) (.b (.c (.a .z))) a30 := fnOk_of (k := .b (.c (.a .z))) Go.Proofs.Try.func30 ck30
theorem ck31 : chkFn Go.Proofs.Try.prog Go.Proofs.Try.f31 a31 = true := by decide +kernel
theorem fn31 : FnOk Go.Proofs.Try.prog (cdk Go.Proofs.Try.prog) (.c (.c (.a .z))) a31 := fnOk_of (k := .c (.c (.a .z))) Go.Proofs.Try.func31 ck31
theorem ck32 : chkFn Go.Proofs.Try.prog Go.Proofs.Try.f32 a32 = true := by decide +kernel
theorem fn32 : FnOk Go.Proofs.Try.prog (cdk Go.Proofs.Try.prog) (.d (.c (.a .z))) a32 := fnOk_of (k := .d (.c (.a .z))) Go.Proofs.Try.func32 ck32
theorem ck33 : chkFn Go.Proofs.Try.prog Go.Proofs.Try.f33 a33 = true := by decide +kernel
theorem fn33 : FnOk Go.Proofs.Try.prog (cdk Go.Proofs.Try.prog) (.a (.d (.a .z))) a33 := fnOk_of (k := .a (.d (.a .z))) Go.Proofs.Try.func33 ck33
theorem ck34 : chkFn Go.Proofs.Try.prog Go.Proofs.Try.f34 a34 = true := by decide +kernel
theorem fn34 : FnOk Go.Proofs.Try.prog (cdk Go.Proofs.Try.prog) (.b (.d (.a .z))) a34 := fnOk_of (k := .b (.d (.a .z))) Go.Proofs.Try.func34 ck34
theorem ck35 : chkFn Go.Proofs.Try.prog Go.Proofs.Try.f35 a35 = true := by decide +kernel
theorem fn35 : FnOk Go.Proofs.Try.prog (cdk Go.Proofs.Try.prog) (.c (.d (.a .z))) a35 := fnOk_of (k := .c (.d (.a .z))) Go.Proofs.Try.func35 ck35
theorem ck36 : chkFn Go.Proofs.Try.prog Go.Proofs.Try.f36 a36 = true := by decide +kernel
theorem fn36 : FnOk Go.Proofs.Try.prog (cdk Go.Proofs.Try.prog) (.d (.d (.a .z))) a36 := fnOk_of (k := .d (.d (.a .z))) Go.Proofs.Try.func36 ck36
theorem ck37 : chkFn Go.Proofs.Try.prog Go.Proofs.Try.f37 a37 = true := by decide +kernel
theorem fn37 : FnOk Go.Proofs.Try.prog (cdk Go.Proofs.Try.prog) (.a (.a (.b .z))) a37 := fnOk_of (k := .a (.a (.b .z))) Go.Proofs.Try.func37 ck37
theorem ck38 : chkFn Go.Proofs.Try.prog Go.Proofs.Try.f38 a38 = true := by decide +kernel
theorem fn38 : FnOk Go.Proofs.Try.prog (cdk Go.Proofs.Try.prog) (.b (.a (.b .z))) a38 := fnOk_of (k := .b (.a (.b .z))) Go.Proofs.Try.func38 ck38
theorem ck39 : chkFn Go.Proofs.Try.prog Go.Proofs.Try.f39 a39 = true := by decide +kernel
theorem fn39 : FnOk Go.Proofs.Try.prog (cdk Go.Proofs.Try.prog) (.c (.a (.b .z))) a39 := fnOk_of (k := .c (.a (.b .z))) Go.Proofs.Try.func39 ck39
theorem ck40 : chkFn Go.Proofs.Try.prog Go.Proofs.Try.f40 a40 = true := by decide +kernel
theorem fn40 : FnOk Go.Proofs.Try.prog (cdk Go.Proofs.Try.prog) (.d (.a (.b .z))) a40 := fnOk_of (k := .d (.a (.b .z))) Go.Proofs.Try.func40 ck40
theorem ck41 : chkFn Go.Proofs.Try.prog Go.Proofs.Try.f41 a41 = true := by decide +kernel
theorem fn41 : FnOk Go.Proofs.Try.prog (cdk Go.Proofs.Try.prog) (.a (.b (.b .z))) a41 := fnOk_of (k := .a (.b (.b .z))) Go.Proofs.Try.func41 ck41
theorem ck42 : chkFn Go.Proofs.Try.prog Go.Proofs.Try.f42 a42 = true := by decide +kernel
theorem fn42 : FnOk Go.Proofs.Try.prog (cdk Go.Proofs.Try.prog) (.b (.b (.b .z))) a42 := fnOk_of (k := .b (.b (.b .z))) Go.Proofs.Try.func42 ck42
theorem ck43 : chkFn Go.Proofs.Try.prog Go.Proofs.Try.f43 a43 = true := by decide +kernel
theorem fn43 : FnOk Go.Proofs.Try.prog (cdk Go.Proofs.Try.prog) (.c (.b (.b .z))) a43 := fnOk_of (k := .c (.b (.b .z))) Go.Proofs.Try.func43 ck43
theorem ck44 : chkFn Go.Proofs.Try.prog Go.Proofs.Try.f44 a44 = true := by decide +kernel
theorem fn44 : FnOk Go.Proofs.Try.prog (cdk Go.Proofs.Try.prog) (.d (.b (.b .z))) a44 := fnOk_of (k := .d (.b (.b .z))) Go.Proofs.Try.func44 ck44
theorem ck45 : chkFn Go.Proofs.Try.prog Go.Proofs.Try.f45 a45 = true := by decide +kernel
theorem fn45 : FnOk Go.Proofs.Try.prog (cdk Go.Proofs.Try.prog) (.a (.c (.b .z))) a45 := fnOk_of (k := .a (.c (.b .z))) Go.Proofs.Try.func45 ck45
theorem ck46 : chkFn Go.Proofs.Try.prog Go.Proofs.Try.f46 a46 = true := by decide +kernel
theorem fn46 : FnOk Go.Proofs.Try.prog (cdk Go.Proofs.Try.prog) (.b (.c (.b .z))) a46 := fnOk_of (k := .b (.c (.b .z))) Go.Proofs.Try.func46 ck46
theorem ck47 : chkFn Go.Proofs.Try.prog Go.Proofs.Try.f47 a47 = true := by decide +kernel
theorem fn47 : FnOk Go.Proofs.Try.prog (cdk Go.Proofs.Try.prog) (.c (.c (.b .z))) a47 := fnOk_of (k := .c (.c (.b .z))) Go.Proofs.Try.func47 ck47
theorem ck48 : chkFn Go.Proofs.Try.prog Go.Proofs.Try.f48 a48 = true := by decide +kernel
theorem fn48 : FnOk Go.Proofs.Try.prog (cdk Go.Proofs.Try.prog) (.d (.c (.b .z))) a48 := fnOk_of (k := .d (.c (.b .z))) Go.Proofs.Try.func48 ck48
theorem ck49 : chkFn Go.Proofs.Try.prog Go.Proofs.Try.f49 a49 = true := by decide +kernel
theorem fn49 : FnOk Go.Proofs.Try.prog (cdk Go.Proofs.Try.prog) (.a (.d (.b .z))) a49 := fnOk_of (k := .a (.d (.b .z))) Go.Proofs.Try.func49 ck49
theorem ck50 : chkFn Go.Proofs.Try.prog Go.Proofs.Try.f50 a50 = true := by decide +kernel
theorem fn50 : FnOk Go.Proofs.Try.prog (cdk Go.Proofs.Try.prog) (.b (.d (.b .z))) a50 := fnOk_of (k := .b (.d (.b .z))) Go.Proofs.Try.func50 ck50
theorem ck51 : chkFn Go.Proofs.Try.prog Go.Proofs.Try.f51 a51 = true := by decide +kernel
theorem fn51 : FnOk Go.Proofs.Try.prog (cdk Go.Proofs.Try.prog) (.c (.d (.b .z))) a51 := fnOk_of (k := .c (.d (.b .z))) Go.Proofs.Try.func51 ck51
theorem ck52 : chkFn Go.Proofs.Try.prog Go.Proofs.Try.f52 a52 = true := by decide +kernel
theorem fn52 : FnOk Go.Proofs.Try.prog (cdk Go.Proofs.Try.prog) (.d (.d (.b .z))) a52 := fnOk_of (k := .d (.d (.b .z))) Go.Proofs.Try.func52 ck52
theorem ck53 : chkFn Go.Proofs.Try.prog Go.Proofs.Try.f53 a53 = true := by decide +kernel
theorem fn53 : FnOk Go.Proofs.Try.prog (cdk Go.Proofs.Try.prog) (.a (.a (.c .z))) a53 := fnOk_of (k := .a (.a (.c .z))) Go.Proofs.Try.func53 ck53
theorem ck54 : chkFn Go.Proofs.Try.prog Go.Proofs.Try.f54 a54 = true := by decide +kernel
theorem fn54 : FnOk Go.Proofs.Try.prog (cdk Go.Proofs.Try.prog) (.b (.a (.c .z))) a54 := fnOk_of (k := .b (.a (.c .z))) Go.Proofs.Try.func54 ck54
theorem ck55 : chkFn Go.Proofs.Try.prog Go.Proofs.Try.f55 a55 = true := by decide +kernel
theorem fn55 : FnOk Go.Proofs.Try.prog (cdk Go.Proofs.Try.prog) (.c (.a (.c .z))) a55 := fnOk_of (k := .c (.a (.c .z))) Go.Proofs.Try.func55 ck55
theorem ck56 : chkFn Go.Proofs.Try.prog Go.Proofs.Try.f56 a56 = true := by decide +kernel
theorem fn56 : FnOk Go.Proofs.Try.prog (cdk Go.Proofs.Try.prog) (.d (.a (.c .z))) a56 := fnOk_of (k := .d (.a (.c .z))) Go.Proofs.Try.func56 ck56
theorem ck57 : chkFn Go.Proofs.Try.prog Go.Proofs.Try.f57 a57 = true := by decide +kernel
theorem fn57 : FnOk Go.Proofs.Try.prog (cdk Go.Proofs.Try.prog) (.a (.b (.c .z))) a57 := fnOk_of (k := .a (.b (.c .z))) Go.Proofs.Try.func57 ck57
theorem ck58 : chkFn Go.Proofs.Try.prog Go.Proofs.Try.f58 a58 = true := by decide +kernel
theorem fn58 : FnOk Go.Proofs.Try.prog (cdk Go.Proofs.Try.prog) (.b (.b (.c .z))) a58 := fnOk_of (k := .b (.b (.c .z))) Go.Proofs.Try.func58 ck58
theorem ck59 : chkFn Go.Proofs.Try.prog Go.Proofs.Try.f59 a59 = true := by decide +kernel
theorem fn59 : FnOk Go.Proofs.Try.prog (cdk Go.Proofs.Try.prog) (.c (.b (.c .z))) a59 := fnOk_of (k := .c (.b (.c .z))) Go.Proofs.Try.func59 ck59
theorem ck60 : chkFn Go.Proofs.Try.prog Go.Proofs.Try.f60 a60 = true := by decide +kernel
theorem fn60 : FnOk Go.Proofs.Try.prog (cdk Go.Proofs.Try.prog) (.d (.b (.c .z))) a60 := fnOk_of (k := .d (.b (.c .z))) Go.Proofs.Try.func60 ck60
theorem ck61 : chkFn Go.Proofs.Try.prog Go.Proofs.Try.f61 a61 = true := by decide +kernel
theorem fn61 : FnOk Go.Proofs.Try.prog (cdk Go.Proofs.Try.prog) (.a (.c (.c .z))) a61 := fnOk_of (k := .a (.c (.c .z))) Go.Proofs.Try.func61 ck61
theorem ck62 : chkFn Go.Proofs.Try.prog Go.Proofs.Try.f62 a62 = true := by decide +kernel
theorem fn62 : FnOk Go.Proofs.Try.prog (cdk Go.Proofs.Try.prog) (.b (.c (.c .z))) a62 := fnOk_of (k := .b (.c (.c .z))) Go.Proofs.Try.func62 ck62
theorem ck63 : chkFn Go.Proofs.Try.prog Go.Proofs.Try.f63 a63 = true := by decide +kernel
theorem fn63 : FnOk Go.Proofs.Try.prog (cdk Go.Proofs.Try.prog) (.c (.c (.c .z))) a63 := fnOk_of (k := .c (.c (.c .z))) Go.Proofs.Try.func63 ck63
theorem ck64 : chkFn Go.Proofs.Try.prog Go.Proofs.Try.f64 a64 = true := by decide +kernel
theorem fn64 : FnOk Go.Proofs.Try.prog (cdk Go.Proofs.Try.prog) (.d (.c (.c .z))) a64 := fnOk_of (k := .d (.c (.c .z))) Go.Proofs.Try.func64 ck64
theorem ck65 : chkFn Go.Proofs.Try.prog Go.Proofs.Try.f65 a65 = true := by decide +kernel
theorem fn65 : FnOk Go.Proofs.Try.prog (cdk Go.Proofs.Try.prog) (.a (.d (.c .z))) a65 := fnOk_of (k := .a (.d (.c .z))) Go.Proofs.Try.func65 ck65
theorem ck66 : chkFn Go.Proofs.Try.prog Go.Proofs.Try.f66 a66 = true := by decide +kernel
theorem fn66 : FnOk Go.Proofs.Try.prog (cdk Go.Proofs.Try.prog) (.b (.d (.c .z))) a66 := fnOk_of (k := .b (.d (.c .z))) Go.Proofs.Try.func66 ck66
theorem ck67 : chkFn Go.Proofs.Try.prog Go.Proofs.Try.f67 a67 = true := by decide +kernel
theorem fn67 : FnOk Go.Proofs.Try.prog (cdk Go.Proofs.Try.prog) (.c (.d (.c .z))) a67 := fnOk_of (k := .c (.d (.c .z))) Go.Proofs.Try.func67 ck67
theorem ck68 : chkFn Go.Proofs.Try.prog Go.Proofs.Try.f68 a68 = true := by decide +kernel
theorem fn68 : FnOk Go.Proofs.Try.prog (cdk Go.Proofs.Try.prog) (.d (.d (.c .z))) a68 := fnOk_of (k := .d (.d (.c .z))) Go.Proofs.Try.func68 ck68
theorem ck69 : chkFn Go.Proofs.Try.prog Go.Proofs.Try.f69 a69 = true := by decide +kernel
theorem fn69 : FnOk Go.Proofs.Try.prog (cdk Go.Proofs.Try.prog) (.a (.a (.d .z))) a69 := fnOk_of (k := .a (.a (.d .z))) Go.Proofs.Try.func69 ck69
theorem ck70 : chkFn Go.Proofs.Try.prog Go.Proofs.Try.f70 a70 = true := by decide +kernel
theorem fn70 : FnOk Go.Proofs.Try.prog (cdk Go.Proofs.Try.prog) (.b (.a (.d .z))) a70 := fnOk_of (k := .b (.a (.d .z))) Go.Proofs.Try.func70 ck70
theorem ck71 : chkFn Go.Proofs.Try.prog Go.Proofs.Try.f71 a71 = true := by decide +kernel
theorem fn71 : FnOk Go.Proofs.Try.prog (cdk Go.Proofs.Try.prog) (.c (.a (.d .z))) a71 := fnOk_of (k := .c (.a (.d .z))) Go.Proofs.Try.func71 ck71
theorem ck72 : chkFn Go.Proofs.Try.prog Go.Proofs.Try.f72 a72 = true := by decide +kernel
theorem fn72 : FnOk Go.Proofs.Try.prog (cdk Go.Proofs.Try.prog) (.d (.a (.d .z))) a72 := fnOk_of (k := .d (.a (.d .z))) Go.Proofs.Try.func72 ck72
theorem ck73 : chkFn Go.Proofs.Try.prog Go.Proofs.Try.f73 a73 = true := by decide +kernel
theorem fn73 : FnOk Go.Proofs.Try.prog (cdk Go.Proofs.Try.prog) (.a (.b (.d .z))) a73 := fnOk_of (k := .a (.b (.d .z))) Go.Proofs.Try.func73 ck73
theorem ck74 : chkFn Go.Proofs.Try.prog Go.Proofs.Try.f74 a74 = true := by decide +kernel
theorem fn74 : FnOk Go.Proofs.Try.prog (cdk Go.Proofs.Try.prog) (.b (.b (.d .z))) a74 := fnOk_of (k := .b (.b (.d .z))) Go.Proofs.Try.func74 ck74
theorem ck75 : chkFn Go.Proofs.Try.prog Go.Proofs.Try.f75 a75 = true := by decide +kernel
theorem fn75 : FnOk Go.Proofs.Try.prog (cdk Go.Proofs.Try.prog) (.c (.b (.d .z))) a75 := fnOk_of (k := .c (.b (.d .z))) Go.Proofs.Try.func75 ck75
theorem ck76 : chkFn Go.Proofs.Try.prog Go.Proofs.Try.f76 a76 = true := by decide +kernel
theorem fn76 : FnOk Go.Proofs.Try.prog (cdk Go.Proofs.Try.prog) (.d (.b (.d .z))) a76 := fnOk_of (k := .d (.b (.d .z))) Go.Proofs.Try.func76 ck76
theorem ck77 : chkFn Go.Proofs.Try.prog Go.Proofs.Try.f77 a77 = true := by decide +kernel
theorem fn77 : FnOk Go.Proofs.Try.prog (cdk Go.Proofs.Try.prog) (.a (.c (.d .z))) a77 := fnOk_of (k := .a (.c (.d .z))) Go.Proofs.Try.func77 ck77
theorem ck78 : chkFn Go.Proofs.Try.prog Go.Proofs.Try.f78 a78 = true := by decide +kernel
theorem fn78 : FnOk Go.Proofs.Try.prog (cdk Go.Proofs.Try.prog) (.b (.c (.d .z))) a78 := fnOk_of (k := .b (.c (.d .z))) Go.Proofs.Try.func78 ck78
theorem ck79 : chkFn Go.Proofs.Try.prog Go.Proofs.Try.f79 a79 = true := by decide +kernel
theorem fn79 : FnOk Go.Proofs.Try.prog (cdk Go.Proofs.Try.prog) (.c (.c (.d .z))) a79 := fnOk_of (k := .c (.c (.d .z))) Go.Proofs.Try.func79 ck79
theorem ck80 : chkFn Go.Proofs.Try.prog Go.Proofs.Try.f80 a80 = true := by decide +kernel
theorem fn80 : FnOk Go.Proofs.Try.prog (cdk Go.Proofs.Try.prog) (.d (.c (.d .z))) a80 := fnOk_of (k := .d (.c (.d .z))) Go.Proofs.Try.func80 ck80
theorem ck81 : chkFn Go.Proofs.Try.prog Go.Proofs.Try.f81 a81 = true := by decide +kernel
theorem fn81 : FnOk Go.Proofs.Try.prog (cdk Go.Proofs.Try.prog) (.a (.d (.d .z))) a81 := fnOk_of (k := .a (.d (.d .z))) Go.Proofs.Try.func81 ck81
theorem ck82 : chkFn Go.Proofs.Try.prog Go.Proofs.Try.f82 a82 = true := by decide +kernel
theorem fn82 : FnOk Go.Proofs.Try.prog (cdk Go.Proofs.Try.prog) (.b (.d (.d .z))) a82 := fnOk_of (k := .b (.d (.d .z))) Go.Proofs.Try.func82 ck82
theorem ck83 : chkFn Go.Proofs.Try.prog Go.Proofs.Try.f83 a83 = true := by decide +kernel
theorem fn83 : FnOk Go.Proofs.Try.prog (cdk Go.Proofs.Try.prog) (.c (.d (.d .z))) a83 := fnOk_of (k := .c (.d (.d .z))) Go.Proofs.Try.func83 ck83
theorem ck84 : chkFn Go.Proofs.Try.prog Go.Proofs.Try.f84 a84 = true := by decide +kernel
theorem fn84 : FnOk Go.Proofs.Try.prog (cdk Go.Proofs.Try.prog) (.d (.d (.d .z))) a84 := fnOk_of (k := .d (.d (.d .z))) Go.Proofs.Try.func84 ck84
theorem ck85 : chkFn Go.Proofs.Try.prog Go.Proofs.Try.f85 a85 = true := by decide +kernel
theorem fn85 : FnOk Go.Proofs.Try.prog (cdk Go.Proofs.Try.prog) (.a (.a (.a (.a .z)))) a85 := fnOk_of (k := .a (.a (.a (.a .z)))) Go.Proofs.Try.func85 ck85
theorem ck86 : chkFn Go.Proofs.Try.prog Go.Proofs.Try.f86 a86 = true := by decide +kernel
theorem fn86 : FnOk Go.Proofs.Try.prog (cdk Go.Proofs.Try.prog) (.b (.a (.a (.a .z)))) a86 := fnOk_of (k := .b (.a (.a (.a .z)))) Go.Proofs.Try.func86 ck86
theorem ck87 : chkFn Go.Proofs.Try.prog Go.Proofs.Try.f87 a87 = true := by decide +kernel
theorem fn87 : FnOk Go.Proofs.Try.prog (cdk Go.Proofs.Try.prog) (.c (.a (.a (.a .z)))) a87 := fnOk_of (k := .c (.a (.a (.a .z)))) Go.Proofs.Try.func87 ck87
theorem ck88 : chkFn Go.Proofs.Try.prog Go.Proofs.Try.f88 a88 = true := by decide +kernel
theorem fn88 : FnOk Go.Proofs.Try.prog (cdk Go.Proofs.Try.prog) (.d (.a (.a (.a .z)))) a88 := fnOk_of (k := .d (.a (.a (.a .z)))) Go.Proofs.Try.func88 ck88
theorem ck89 : chkFn Go.Proofs.Try.prog Go.Proofs.Try.f89 a89 = true := by decide +kernel
theorem fn89 : FnOk Go.Proofs.Try.prog (cdk Go.Proofs.Try.prog) (.a (.b (.a (.a .z)))) a89 := fnOk_of (k := .a (.b (.a (.a .z)))) Go.Proofs.Try.func89 ck89
theorem ck90 : chkFn Go.Proofs.Try.prog Go.Proofs.Try.f90 a90 = true := by decide +kernel
theorem fn90 : FnOk Go.Proofs.Try.prog (cdk Go.Proofs.Try.prog) (.b (.b (.a (.a .z)))) a90 := fnOk_of (k := .b (.b (.a (.a .z)))) Go.Proofs.Try.func90 ck90
theorem ck91 : chkFn Go.Proofs.Try.prog Go.Proofs.Try.f91 a91 = true := by decide +kernel
theorem fn91 : FnOk Go.Proofs.Try.prog (cdk Go.Proofs.Try.prog) (.c (.b (.a (.a .z)))) a91 := fnOk_of (k := .c (.b (.a (.a .z)))) Go.Proofs.Try.func91 ck91
theorem ck92 : chkFn Go.Proofs.Try.prog Go.Proofs.Try.f92 a92 = true := by decide +kernel
theorem fn92 : FnOk Go.Proofs.Try.prog (cdk Go.Proofs.Try.prog) (.d (.b (.a (.a .z)))) a92 := fnOk_of (k := .d (.b (.a (.a .z)))) Go.Proofs.Try.func92 ck92
theorem ck93 : chkFn Go.Proofs.Try.prog Go.Proofs.Try.f93 a93 = true := by decide +kernel
theorem fn93 : FnOk Go.Proofs.Try.prog (cdk Go.Proofs.Try.prog) (.a (.c (.a (.a .z)))) a93 := fnOk_of (k := .a (.c (.a (.a .z)))) Go.Proofs.Try.func93 ck93
theorem ck94 : chkFn Go.Proofs.Try.prog Go.Proofs.Try.f94 a94 = true := by decide +kernel
theorem fn94 : FnOk Go.Proofs.Try.prog (cdk Go.Proofs.Try.prog) (.b (.c (.a (.a .z)))) a94 := fnOk_of (k := .b (.c (.a (.a .z)))) Go.Proofs.Try.func94 ck94
theorem ck95 : chkFn Go.Proofs.Try.prog Go.Proofs.Try.f95 a95 = true := by decide +kernel
theorem fn95 : FnOk Go.Proofs.Try.prog (cdk Go.Proofs.Try.prog) (.c (.c (.a (.a .z)))) a95 := fnOk_of (k := .c (.c (.a (.a .z)))) Go.Proofs.Try.func95 ck95
theorem ck96 : chkFn Go.Proofs.Try.prog Go.Proofs.Try.f96 a96 = true := by decide +kernel
theorem fn96 : FnOk Go.Proofs.Try.prog (cdk Go.Proofs.Try.prog) (.d (.c (.a (.a .z)))) a96 := fnOk_of (k := .d (.c (.a (.a .z)))) Go.Proofs.Try.func96 ck96
theorem ck97 : chkFn Go.Proofs.Try.prog Go.Proofs.Try.f97 a97 = true := by decide +kernel
theorem fn97 : FnOk Go.Proofs.Try.prog (cdk Go.Proofs.Try.prog) (.a (.d (.a (.a .z)))) a97 := fnOk_of (k := .a (.d (.a (.a .z)))) Go.Proofs.Try.func97 ck97
theorem ck98 : chkFn Go.Proofs.Try.prog Go.Proofs.Try.f98 a98 = true := by decide +kernel
theorem fn98 : FnOk Go.Proofs.Try.prog (cdk Go.Proofs.Try.prog) (.b (.d (.a (.a .z)))) a98 := fnOk_of (k := .b (.d (.a (.a .z)))) Go.Proofs.Try.func98 ck98
theorem ck99 : chkFn Go.Proofs.Try.prog Go.Proofs.Try.f99 a99 = true := by decide +kernel
theorem fn99 : FnOk Go.Proofs.Try.prog (cdk Go.Proofs.Try.prog) (.c (.d (.a (.a .z)))) a99 := fnOk_of (k := .c (.d (.a (.a .z)))) Go.Proofs.Try.func99 ck99
theorem ck100 : chkFn Go.Proofs.Try.prog Go.Proofs.Try.f100 a100 = true := by decide +kernel
theorem fn100 : FnOk Go.Proofs.Try.prog (cdk Go.Proofs.Try.prog) (.d (.d (.a (.a .z)))) a100 := fnOk_of (k := .d (.d (.a (.a .z)))) Go.Proofs.Try.func100 ck100
theorem ck101 : chkFn Go.Proofs.Try.prog Go.Proofs.Try.f101 a101 = true := by decide +kernel
theorem fn101 : FnOk Go.Proofs.Try.prog (cdk Go.Proofs.Try.prog) (.a (.a (.b (.a .z)))) a101 := fnOk_of (k := .a (.a (.b (.a .z)))) Go.Proofs.Try.func101 ck101
theorem ck102 : chkFn Go.Proofs.Try.prog Go.Proofs.Try.f102 a102 = true := by decide +kernel
theorem fn102 : FnOk Go.Proofs.Try.prog (cdk Go.Proofs.Try.prog) (.b (.a (.b (.a .z)))) a102 := fnOk_of (k := .b (.a (.b (.a .z)))) Go.Proofs.Try.func102 ck102
theorem ck103 : chkFn Go.Proofs.Try.prog Go.Proofs.Try.f103 a103 = true := by decide +kernel
theorem fn103 : FnOk Go.Proofs.Try.prog (cdk Go.Proofs.Try.prog) (.c (.a (.b (.a .z)))) a103 := fnOk_of (k := .c (.a (.b (.a .z)))) Go.Proofs.Try.func103 ck103
theorem ck104 : chkFn Go.Proofs.Try.prog Go.Proofs.Try.f104 a104 = true := by decide +kernel
theorem fn104 : FnOk Go.Proofs.Try.prog (cdk Go.Proofs.Try.prog) (.d (.a (.b (.a .z)))) a104 := fnOk_of (k := .d (.a (.b (.a .z)))) Go.Proofs.Try.func104 ck104
theorem ck105 : chkFn Go.Proofs.Try.prog Go.Proofs.Try.f105 a105 = true := by decide +kernel
theorem fn105 : FnOk Go.Proofs.Try.prog (cdk Go.Proofs.Try.prog) (.a (.b (.b (.a .z)))) a105 := fnOk_of (k := .a (.b (.b (.a .z)))) Go.Proofs.Try.func105 ck105
theorem ck106 : chkFn Go.Proofs.Try.prog Go.Proofs.Try.f106 a106 = true := by decide +kernel
theorem fn106 : FnOk Go.Proofs.Try.prog (cdk Go.Proofs.Try.prog) (.b (.b (.b (.a .z)))) a106 := fnOk_of (k := .b (.b (.b (.a .z)))) Go.Proofs.Try.func106 ck106
theorem ck107 : chkFn Go.Proofs.Try.prog Go.Proofs.Try.f107 a107 = true := by decide +kernel
theorem fn107 : FnOk Go.Proofs.Try.prog (cdk Go.Proofs.Try.prog) (.c (.b (.b (.a .z)))) a107 := fnOk_of (k := .c (.b (.b (.a .z)))) Go.Proofs.Try.func107 ck107
theorem ck108 : chkFn Go.Proofs.Try.prog Go.Proofs.Try.f108 a108 = true := by decide +kernel
theorem fn108 : FnOk Go.Proofs.Try.prog (cdk Go.Proofs.Try.prog) (.d (.b (.b (.a .z)))) a108 := fnOk_of (k := .d (.b (.b (.a .z)))) Go.Proofs.Try.func108 ck108
theorem ck109 : chkFn Go.Proofs.Try.prog Go.Proofs.Try.f109 a109 = true := by decide +kernel
theorem fn109 : FnOk Go.Proofs.Try.prog (cdk Go.Proofs.Try.prog) (.a (.c (.b (.a .z)))) a109 := fnOk_of (k := .a (.c (.b (.a .z)))) Go.Proofs.Try.func109 ck109
theorem ck110 : chkFn Go.Proofs.Try.prog Go.Proofs.Try.f110 a110 = true := by decide +kernel
theorem fn110 : FnOk Go.Proofs.Try.prog (cdk Go.Proofs.Try.prog) (.b (.c (.b (.a .z)))) a110 := fnOk_of (k := .b (.c (.b (.a .z)))) Go.Proofs.Try.func110 ck110
theorem ck111 : chkFn Go.Proofs.Try.prog Go.Proofs.Try.f111 a111 = true := by decide +kernel
theorem fn111 : FnOk Go.Proofs.Try.prog (cdk Go.Proofs.Try.prog) (.c (.c (.b (.a .z)))) a111 := fnOk_of (k := .c (.c (.b (.a .z)))) Go.Proofs.Try.func111 ck111
theorem ck113 : chkFn Go.Proofs.Try.prog Go.Proofs.Try.f113 a113 = true := by decide +kernel
theorem fn113 : FnOk Go.Proofs.Try.prog (cdk Go.Proofs.Try.prog) (.a (.d (.b (.a .z)))) a113 := fnOk_of (k := .a (.d (.b (.a .z)))) Go.Proofs.Try.func113 ck113
theorem ck114 : chkFn Go.Proofs.Try.prog Go.Proofs.Try.f114 a114 = true := by decide +kernel
theorem fn114 : FnOk Go.Proofs.Try.prog (cdk Go.Proofs.Try.prog) (.b (.d (.b (.a .z)))) a114 := fnOk_of (k := .b (.d (.b (.a .z)))) Go.Proofs.Try.func114 ck114
theorem ck115 : chkFn Go.Proofs.Try.prog Go.Proofs.Try.f115 a115 = true := by decide +kernel
theorem fn115 : FnOk Go.Proofs.Try.prog (cdk Go.Proofs.Try.prog) (.c (.d (.b (.a .z)))) a115 := fnOk_of (k := .c (.d (.b (.a .z)))) Go.Proofs.Try.func115 ck115
theorem ck116 : chkFn Go.Proofs.Try.prog Go.Proofs.Try.f116 a116 = true := by decide +kernel
theorem fn116 : FnOk Go.Proofs.Try.prog (cdk Go.Proofs.Try.prog) (.d (.d (.b (.a .z)))) a116 := fnOk_of (k := .d (.d (.b (.a .z)))) Go.Proofs.Try.func116 ck116
theorem ck117 : chkFn Go.Proofs.Try.prog Go.Proofs.Try.f117 a117 = true := by decide +kernel
theorem fn117 : FnOk Go.Proofs.Try.prog (cdk Go.Proofs.Try.prog) (.a (.a (.c (.a .z)))) a117 := fnOk_of (k := .a (.a (.c (.a .z)))) Go.Proofs.Try.func117 ck117
theorem ck118 : chkFn Go.Proofs.Try.prog Go.Proofs.Try.f118 a118 = true := by decide +kernel
theorem fn118 : FnOk Go.Proofs.Try.prog (cdk Go.Proofs.Try.prog) (.b (.a (.c (.a .z)))) a118 := fnOk_of (k := .b (.a (.c (.a .z)))) Go.Proofs.Try.func118 ck118
theorem ck119 : chkFn Go.Proofs.Try.prog Go.Proofs.Try.f119 a119 = true := by decide +kernel
theorem fn119 : FnOk Go.Proofs.Try.prog (cdk Go.Proofs.Try.prog) (.c (.a (.c (.a .z)))) a119 := fnOk_of (k := .c (.a (.c (.a .z)))) Go.Proofs.Try.func119 ck119
theorem ck120 : chkFn Go.Proofs.Try.prog Go.Proofs.Try.f120 a120 = true := by decide +kernel
theorem fn120 : FnOk Go.Proofs.Try.prog (cdk Go.Proofs.Try.prog) (.d (.a (.c (.a .z)))) a120 := fnOk_of (k := .d (.a (.c (.a .z)))) Go.Proofs.Try.func120 ck120
theorem ck121 : chkFn Go.Proofs.Try.prog Go.Proofs.Try.f121 a121 = true := by decide +kernel
theorem fn121 : FnOk Go.Proofs.Try.prog (cdk Go.Proofs.Try.prog) (.a (.b (.c (.a .z)))) a121 := fnOk_of (k := .a (.b (.c (.a .z)))) Go.Proofs.Try.func121 ck121
theorem ck122 : chkFn Go.Proofs.Try.prog Go.Proofs.Try.f122 a122 = true := by decide +kernel
theorem fn122 : FnOk Go.Proofs.Try.prog (cdk Go.Proofs.Try.prog) (.b (.b (.c (.a .z)))) a122 := fnOk_of (k := .b (.b (.c (.a .z)))) Go.Proofs.Try.func122 ck122
theorem ck123 : chkFn Go.Proofs.Try.prog Go.Proofs.Try.f123 a123 = true := by decide +kernel
theorem fn123 : FnOk Go.Proofs.Try.prog (cdk Go.Proofs.Try.prog) (.c (.b (.c (.a .z)))) a123 := fnOk_of (k := .c (.b (.c (.a .z)))) Go.Proofs.Try.func123 ck123
theorem ck124 : chkFn Go.Proofs.Try.prog Go.Proofs.Try.f124 a124 = true := by decide +kernel
theorem fn124 : FnOk Go.Proofs.Try.prog (cdk Go.Proofs.Try.prog) (.d (.b (.c (.a .z)))) a124 := fnOk_of (k := .d (.b (.c (.a .z)))) Go.Proofs.Try.func124 ck124
theorem ck125 : chkFn Go.Proofs.Try.prog Go.Proofs.Try.f125 a125 = true := by decide +kernel
theorem fn125 : FnOk Go.Proofs.Try.prog (cdk Go.Proofs.Try.prog) (.a (.c (.c (.a .z)))) a125 := fnOk_of (k := .a (.c (.c (.a .z)))) Go.Proofs.Try.func125 ck125
theorem ck126 : chkFn Go.Proofs.Try.prog Go.Proofs.Try.f126 a126 = true := by decide +kernel
theorem fn126 : FnOk Go.Proofs.Try.prog (cdk Go.Proofs.Try.prog) (.b (.c (.c (.a .z)))) a126 := fnOk_of (k := .b (.c (.c (.a .z)))) Go.Proofs.Try.func126 ck126
theorem ck127 : chkFn Go.Proofs.Try.prog Go.Proofs.Try.f127 a127 = true := by decide +kernel
theorem fn127 : FnOk Go.Proofs.Try.prog (cdk Go.Proofs.Try.prog) (.c (.c (.c (.a .z)))) a127 := fnOk_of (k := .c (.c (.c (.a .z)))) Go.Proofs.Try.func127 ck127
theorem ck128 : chkFn Go.Proofs.Try.prog Go.Proofs.Try.f128 a128 = true := by decide +kernel
theorem fn128 : FnOk Go.Proofs.Try.prog (cdk Go.Proofs.Try.prog) (.d (.c (.c (.a .z)))) a128 := fnOk_of (k := .d (.c (.c (.a .z)))) Go.Proofs.Try.func128 ck128
theorem ck129 : chkFn Go.Proofs.Try.prog Go.Proofs.Try.f129 a129 = true := by decide +kernel
theorem fn129 : FnOk Go.Proofs.Try.prog (cdk Go.Proofs.Try.prog) (.a (.d (.c (.a .z)))) a129 := fnOk_of (k := .a (.d (.c (.a .z)))) Go.Proofs.Try.func129 ck129
theorem ck130 : chkFn Go.Proofs.Try.prog Go.Proofs.Try.f130 a130 = true := by decide +kernel
theorem fn130 : FnOk Go.Proofs.Try.prog (cdk Go.Proofs.Try.prog) (.b (.d (.c (.a .z)))) a130 := fnOk_of (k := .b (.d (.c (.a .z)))) Go.Proofs.Try.func130 ck130
theorem ck131 : chkFn Go.Proofs.Try.prog Go.Proofs.Try.f131 a131 = true := by decide +kernel
theorem fn131 : FnOk Go.Proofs.Try.prog (cdk Go.Proofs.Try.prog) (.c (.d (.c (.a .z)))) a131 := fnOk_of (k := .c (.d (.c (.a .z)))) Go.Proofs.Try.func131 ck131
theorem ck132 : chkFn Go.Proofs.Try.prog Go.Proofs.Try.f132 a132 = true := by decide +kernel
theorem fn132 : FnOk Go.Proofs.Try.prog (cdk Go.Proofs.Try.prog) (.d (.d (.c (.a .z)))) a132 := fnOk_of (k := .d (.d (.c (.a .z)))) Go.Proofs.Try.func132 ck132
theorem ck133 : chkFn Go.Proofs.Try.prog Go.Proofs.Try.f133 a133 = true := by decide +kernel
theorem fn133 : FnOk Go.Proofs.Try.prog (cdk Go.Proofs.Try.prog) (.a (.a (.d (.a .z)))) a133 := fnOk_of (k := .a (.a (.d (.a .z)))) Go.Proofs.Try.func133 ck133
theorem ck134 : chkFn Go.Proofs.Try.prog Go.Proofs.Try.f134 a134 = true := by decide +kernel
theorem fn134 : FnOk Go.Proofs.Try.prog (cdk Go.Proofs.Try.prog) (.b (.a (.d (.a .z)))) a134 := fnOk_of (k := .b (.a (.d (.a .z)))) Go.Proofs.Try.func134 ck134
theorem ck135 : chkFn Go.Proofs.Try.prog Go.Proofs.Try.f135 a135 = true := by decide +kernel
theorem fn135 : FnOk Go.Proofs.Try.prog (cdk Go.Proofs.Try.prog) (.c (.a (.d (.a .z)))) a135 := fnOk_of (k := .c (.a (.d (.a .z)))) Go.Proofs.Try.func135 ck135
theorem ck136 : chkFn Go.Proofs.Try.prog Go.Proofs.Try.f136 a136 = true := by decide +kernel
theorem fn136 : FnOk Go.Proofs.Try.prog (cdk Go.Proofs.Try.prog) (.d (.a (.d (.a .z)))) a136 := fnOk_of (k := .d (.a (.d (.a .z)))) Go.Proofs.Try.func136 ck136
theorem ck137 : chkFn Go.Proofs.Try.prog Go.Proofs.Try.f137 a137 = true := by decide +kernel
theorem fn137 : FnOk Go.Proofs.Try.prog (cdk Go.Proofs.Try.prog) (.a (.b (.d (.a .z)))) a137 := fnOk_of (k := .a (.b (.d (.a .z)))) Go.Proofs.Try.func137 ck137
theorem ck138 : chkFn Go.Proofs.Try.prog Go.Proofs.Try.f138 a138 = true := by decide +kernel
theorem fn138 : FnOk Go.Proofs.Try.prog (cdk Go.Proofs.Try.prog) (.b (.b (.d (.a .z)))) a138 := fnOk_of (k := .b (.b (.d (.a .z)))) Go.Proofs.Try.func138 ck138
theorem ck139 : chkFn Go.Proofs.Try.prog Go.Proofs.Try.f139 a139 = true := by decide +kernel
theorem fn139 : FnOk Go.Proofs.Try.prog (cdk Go.Proofs.Try.prog) (.c (.b (.d (.a .z)))) a139 := fnOk_of (k := .c (.b (.d (.a .z)))) Go.Proofs.Try.func139 ck139
theorem ck140 : chkFn Go.Proofs.Try.prog Go.Proofs.Try.f140 a140 = true := by decide +kernel
theorem fn140 : FnOk Go.Proofs.Try.prog (cdk Go.Proofs.Try.prog) (.d (.b (.d (.a .z)))) a140 := fnOk_of (k := .d (.b (.d (.a .z)))) Go.Proofs.Try.func140 ck140
theorem ck141 : chkFn Go.Proofs.Try.prog Go.Proofs.Try.f141 a141 = true := by decide +kernel
theorem fn141 : FnOk Go.Proofs.Try.prog (cdk Go.Proofs.Try.prog) (.a (.c (.d (.a .z)))) a141 := fnOk_of (k := .a (.c (.d (.a .z)))) Go.Proofs.Try.func141 ck141
theorem ck142 : chkFn Go.Proofs.Try.prog Go.Proofs.Try.f142 a142 = true := by decide +kernel
theorem fn142 : FnOk Go.Proofs.Try.prog (cdk Go.Proofs.Try.prog) (.b (.c (.d (.a .z)))) a142 := fnOk_of (k := .b (.c (.d (.a .z)))) Go.Proofs.Try.func142 ck142
theorem ck143 : chkFn Go.Proofs.Try.prog Go.Proofs.Try.f143 a143 = true := by decide +kernel
theorem fn143 : FnOk Go.Proofs.Try.prog (cdk Go.Proofs.Try.prog) (.c (.c (.d (.a .z)))) a143 := fnOk_of (k := .c (.c (.d (.a .z)))) Go.Proofs.Try.func143 ck143
theorem ck144 : chkFn Go.Proofs.Try.prog Go.Proofs.Try.f144 a144 = true := by decide +kernel
theorem fn144 : FnOk Go.Proofs.Try.prog (cdk Go.Proofs.Try.prog) (.d (.c (.d (.a .z)))) a144 := fnOk_of (k := .d (.c (.d (.a .z)))) Go.Proofs.Try.func144 ck144
theorem ck145 : chkFn Go.Proofs.Try.prog Go.Proofs.Try.f145 a145 = true := by decide +kernel
theorem fn145 : FnOk Go.Proofs.Try.prog (cdk Go.Proofs.Try.prog) (.a (.d (.d (.a .z)))) a145 := fnOk_of (k := .a (.d (.d (.a .z)))) Go.Proofs.Try.func145 ck145
theorem ck146 : chkFn Go.Proofs.Try.prog Go.Proofs.Try.f146 a146 = true := by decide +kernel
theorem fn146 : FnOk Go.Proofs.Try.prog (cdk Go.Proofs.Try.prog) (.b (.d (.d (.a .z)))) a146 := fnOk_of (k := .b (.d (.d (.a .z)))) Go.Proofs.Try.func146 ck146
theorem ck147 : chkFn Go.Proofs.Try.prog Go.Proofs.Try.f147 a147 = true := by decide +kernel
theorem fn147 : FnOk Go.Proofs.Try.prog (cdk Go.Proofs.Try.prog) (.c (.d (.d (.a .z)))) a147 := fnOk_of (k := .c (.d (.d (.a .z)))) Go.Proofs.Try.func147 ck147
theorem ck148 : chkFn Go.Proofs.Try.prog Go.Proofs.Try.f148 a148 = true := by decide +kernel
theorem fn148 : FnOk Go.Proofs.Try.prog (cdk Go.Proofs.Try.prog) (.d (.d (.d (.a .z)))) a148 := fnOk_of (k := .d (.d (.d (.a .z)))) Go.Proofs.Try.func148 ck148
def tab1 : T AFunc := (.node none (.node none (.node (some a5) (.node (some a21) (.node (some a85) .leaf .leaf .leaf .leaf) .leaf .leaf .leaf) (.node (some a37) (.node (some a101) .leaf .leaf .leaf .leaf) .leaf .leaf .leaf) (.node (some a53) (.node (some a117) .leaf .leaf .leaf .leaf) .leaf .leaf .leaf) (.node (some a69) (.node (some a133) .leaf .leaf .leaf .leaf) .leaf .leaf .leaf)) (.node (some a9) (.node (some a25) (.node (some a89) .leaf .leaf .leaf .leaf) .leaf .leaf .leaf) (.node (some a41) (.node (some a105) .leaf .leaf .leaf .leaf) .leaf .leaf .leaf) (.node (some a57) (.node (some a121) .leaf .leaf .leaf .leaf) .leaf .leaf .leaf) (.node (some a73) (.node (some a137) .leaf .leaf .leaf .leaf) .leaf .leaf .leaf)) (.node (some a13) (.node (some a29) (.node (some a93) .leaf .leaf .leaf .leaf) .leaf .leaf .leaf) (.node (some a45) (.node (some a109) .leaf .leaf .leaf .leaf) .leaf .leaf .leaf) (.node (some a61) (.node (some a125) .leaf .leaf .leaf .leaf) .leaf .leaf .leaf) (.node (some a77) (.node (some a141) .leaf .leaf .leaf .leaf) .leaf .leaf .leaf)) (.node (some a17) (.node (some a33) (.node (some a97) .leaf .leaf .leaf .leaf) .leaf .leaf .leaf) (.node (some a49) (.node (some a113) .leaf .leaf .leaf .leaf) .leaf .leaf .leaf) (.node (some a65) (.node (some a129) .leaf .leaf .leaf .leaf) .leaf .leaf .leaf) (.node (some a81) (.node (some a145) .leaf .leaf .leaf .leaf) .leaf .leaf .leaf))) (.node none (.node (some a6) (.node (some a22) (.node (some a86) .leaf .leaf .leaf .leaf) .leaf .leaf .leaf) (.node (some a38) (.node (some a102) .leaf .leaf .leaf .leaf) .leaf .leaf .leaf) (.node (some a54) (.node (some a118) .leaf .leaf .leaf .leaf) .leaf .leaf .leaf) (.node (some a70) (.node (some a134) .leaf .leaf .leaf .leaf) .leaf .leaf .leaf)) (.node (some a10) (.node (some a26) (.node (some a90) .leaf .leaf .leaf .leaf) .leaf .leaf .leaf) (.node (some a42) (.node (some a106) .leaf .leaf .leaf .leaf) .leaf .leaf .leaf) (.node (some a58) (.node (some a122) .leaf .leaf .leaf .leaf) .leaf .leaf .leaf) (.node (some a74) (.node (some a138) .leaf .leaf .leaf .leaf) .leaf .leaf .leaf)) (.node (some a14) (.node (some a30) (.node (some a94) .leaf .leaf .leaf .leaf) .leaf .leaf .leaf) (.node (some a46) (.node (some a110) .leaf .leaf .leaf .leaf) .leaf .leaf .leaf) (.node (some a62) (.node (some a126) .leaf .leaf .leaf .leaf) .leaf .leaf .leaf) (.node (some a78) (.node (some a142) .leaf .leaf .leaf .leaf) .leaf .leaf .leaf)) (.node (some a18) (.node (some a34) (.node (some a98) .leaf .leaf .leaf .leaf) .leaf .leaf .leaf) (.node (some a50) (.node (some a114) .leaf .leaf .leaf .leaf) .leaf .leaf .leaf) (.node (some a66) (.node (some a130) .leaf .leaf .leaf .leaf) .leaf .leaf .leaf) (.node (some a82) (.node (some a146) .leaf .leaf .leaf .leaf) .leaf .leaf .leaf))) (.node (some a3) (.node (some a7) (.node (some a23) (.node (some a87) .leaf .leaf .leaf .leaf) .leaf .leaf .leaf) (.node (some a39) (.node (some a103) .leaf .leaf .leaf .leaf) .leaf .leaf .leaf) (.node (some a55) (.node (some a119) .leaf .leaf .leaf .leaf) .leaf .leaf .leaf) (.node (some a71) (.node (some a135) .leaf .leaf .leaf .leaf) .leaf .leaf .leaf)) (.node (some a11) (.node (some a27) (.node (some a91) .leaf .leaf .leaf .leaf) .leaf .leaf .leaf) (.node (some a43) (.node (some a107) .leaf .leaf .leaf .leaf) .leaf .leaf .leaf) (.node (some a59) (.node (some a123) .leaf .leaf .leaf .leaf) .leaf .leaf .leaf) (.node (some a75) (.node (some a139) .leaf .leaf .leaf .leaf) .leaf .leaf .leaf)) (.node (some a15) (.node (some a31) (.node (some a95) .leaf .leaf .leaf .leaf) .leaf .leaf .leaf) (.node (some a47) (.node (some a111) .leaf .leaf .leaf .leaf) .leaf .leaf .leaf) (.node (some a63) (.node (some a127) .leaf .leaf .leaf .leaf) .leaf .leaf .leaf) (.node (some a79) (.node (some a143) .leaf .leaf .leaf .leaf) .leaf .leaf .leaf)) (.node (some a19) (.node (some a35) (.node (some a99) .leaf .leaf .leaf .leaf) .leaf .leaf .leaf) (.node (some a51) (.node (some a115) .leaf .leaf .leaf .leaf) .leaf .leaf .leaf) (.node (some a67) (.node (some a131) .leaf .leaf .leaf .leaf) .leaf .leaf .leaf) (.node (some a83) (.node (some a147) .leaf .leaf .leaf .leaf) .leaf .leaf .leaf))) (.node (some a4) (.node (some a8) (.node (some a24) (.node (some a88) .leaf .leaf .leaf .leaf) .leaf .leaf .leaf) (.node (some a40) (.node (some a104) .leaf .leaf .leaf .leaf) .leaf .leaf .leaf) (.node (some a56) (.node (some a120) .leaf .leaf .leaf .leaf) .leaf .leaf .leaf) (.node (some a72) (.node (some a136) .leaf .leaf .leaf .leaf) .leaf .leaf .leaf)) (.node (some a12) (.node (some a28) (.node (some a92) .leaf .leaf .leaf .leaf) .leaf .leaf .leaf) (.node (some a44) (.node (some a108) .leaf .leaf .leaf .leaf) .leaf .leaf .leaf) (.node (some a60) (.node (some a124) .leaf .leaf .leaf .leaf) .leaf .leaf .leaf) (.node (some a76) (.node (some a140) .leaf .leaf .leaf .leaf) .leaf .leaf .leaf)) (.node (some a16) (.node (some a32) (.node (some a96) .leaf .leaf .leaf .leaf) .leaf .leaf .leaf) (.node (some a48) .leaf .leaf .leaf .leaf) (.node (some a64) (.node (some a128) .leaf .leaf .leaf .leaf) .leaf .leaf .leaf) (.node (some a80) (.node (some a144) .leaf .leaf .leaf .leaf) .leaf .leaf .leaf)) (.node (some a20) (.node (some a36) (.node (some a100) .leaf .leaf .leaf .leaf) .leaf .leaf .leaf) (.node (some a52) (.node (some a116) .leaf .leaf .leaf .leaf) .leaf .leaf .leaf) (.node (some a68) (.node (some a132) .leaf .leaf .leaf .leaf) .leaf .leaf .leaf) (.node (some a84) (.node (some a148) .leaf .leaf .leaf .leaf) .leaf .leaf .leaf))))
theorem tab1_ok : TabOk Go.Proofs.Try.prog (cdk Go.Proofs.Try.prog) tab1 := fun k fn h => AllT.get (p := fun k fn => FnOk Go.Proofs.Try.prog (cdk Go.Proofs.Try.prog) k fn ∨ (FnThere Go.Proofs.Try.prog k ∧ SummOk Go.Proofs.Try.prog k fn)) (t := tab1) (⟨(fun x h => by cases h), ⟨(fun x h => by cases h), ⟨(fun x h => by cases h; exact .inl fn5), ⟨(fun x h => by cases h; exact .inl fn21), ⟨(fun x h => by cases h; exact .inl fn85), trivial, trivial, trivial, trivial⟩, trivial, trivial, trivial⟩, ⟨(fun x h => by cases h; exact .inl fn37), ⟨(fun x h => by cases h; exact .inl fn101), trivial, trivial, trivial, trivial⟩, trivial, trivial, trivial⟩, ⟨(fun x h => by cases h; exact .inl fn53), ⟨(fun x h => by cases h; exact .inl fn117), trivial, trivial, trivial, trivial⟩, trivial, trivial, trivial⟩, ⟨(fun x h => by cases h; exact .inl fn69), ⟨(fun x h => by cases h; exact .inl fn133), trivial, trivial, trivial, trivial⟩, trivial, trivial, trivial⟩⟩, ⟨(fun x h => by cases h; exact .inl fn9), ⟨(fun x h => by cases h; exact .inl fn25), ⟨(fun x h => by cases h; exact .inl fn89), trivial, trivial, trivial, trivial⟩, trivial, trivial, trivial⟩, ⟨(fun x h => by cases h; exact .inl fn41), ⟨(fun x h => by cases h; exact .inl fn105), trivial, trivial, trivial, trivial⟩, trivial, trivial, trivial⟩, ⟨(fun x h => by cases h; exact .inl fn57), ⟨(fun x h => by cases h; exact .inl fn121), trivial, trivial, trivial, trivial⟩, trivial, trivial, trivial⟩, ⟨(fun x h => by cases h; exact .inl fn73), ⟨(fun x h => by cases h; exact .inl fn137), trivial, trivial, trivial, trivial⟩, trivial, trivial, trivial⟩⟩, ⟨(fun x h => by cases h; exact .inl fn13), ⟨(fun x h => by cases h; exact .inl fn29), ⟨(fun x h => by cases h; exact .inl fn93), trivial, trivial, trivial, trivial⟩, trivial, trivial, trivial⟩, ⟨(fun x h => by cases h; exact .inl fn45), ⟨(fun x h => by cases h; exact .inl fn109), trivial, trivial, trivial, trivial⟩, trivial, trivial, trivial⟩, ⟨(fun x h => by cases h; exact .inl fn61), ⟨(fun x h => by cases h; exact .inl fn125), trivial, trivial, trivial, trivial⟩, trivial, trivial, trivial⟩, ⟨(fun x h => by cases h; exact .inl fn77), ⟨(fun x h => by cases h; exact .inl fn141), trivial, trivial, trivial, trivial⟩, trivial, trivial, trivial⟩⟩, ⟨(fun x h => by cases h; exact .inl fn17), ⟨(fun x h => by cases h; exact .inl fn33), ⟨(fun x h => by cases h; exact .inl fn97), trivial, trivial, trivial, trivial⟩, trivial, trivial, trivial⟩, ⟨(fun x h => by cases h; exact .inl fn49), ⟨(fun x h => by cases h; exact .inl fn113), trivial, trivial, trivial, trivial⟩, trivial, trivial, trivial⟩, ⟨(fun x h => by cases h; exact .inl fn65), ⟨(fun x h => by cases h; exact .inl fn129), trivial, trivial, trivial, trivial⟩, trivial, trivial, trivial⟩, ⟨(fun x h => by cases h; exact .inl fn81), ⟨(fun x h => by cases h; exact .inl fn145), trivial, trivial, trivial, trivial⟩, trivial, trivial, trivial⟩⟩⟩, ⟨(fun x h => by cases h), ⟨(fun x h => by cases h; exact .inl fn6), ⟨(fun x h => by cases h; exact .inl fn22), ⟨(fun x h => by cases h; exact .inl fn86), trivial, trivial, trivial, trivial⟩, trivial, trivial, trivial⟩, ⟨(fun x h => by cases h; exact .inl fn38), ⟨(fun x h => by cases h; exact .inl fn102), trivial, trivial, trivial, trivial⟩, trivial, trivial, trivial⟩, ⟨(fun x h => by cases h; exact .inl fn54), ⟨(fun x h => by cases h; exact .inl fn118), trivial, trivial, trivial, trivial⟩, trivial, trivial, trivial⟩, ⟨(fun x h => by cases h; exact .inl fn70), ⟨(fun x h => by cases h; exact .inl fn134), trivial, trivial, trivial, trivial⟩, trivial, trivial, trivial⟩⟩, ⟨(fun x h => by cases h; exact .inl fn10), ⟨(fun x h => by cases h; exact .inl fn26), ⟨(fun x h => by cases h; exact .inl fn90), trivial, trivial, trivial, trivial⟩, trivial, trivial, trivial⟩, ⟨(fun x h => by cases h; exact .inl fn42), ⟨(fun x h => by cases h; exact .inl fn106), trivial, trivial, trivial, trivial⟩, trivial, trivial, trivial⟩, ⟨(fun x h => by cases h; exact .inl fn58), ⟨(fun x h => by cases h; exact .inl fn122), trivial, trivial, trivial, trivial⟩, trivial, trivial, trivial⟩, ⟨(fun x h => by cases h; exact .inl fn74), ⟨(fun x h => by cases h; exact .inl fn138), trivial, trivial, trivial, trivial⟩, trivial, trivial, trivial⟩⟩, ⟨(fun x h => by cases h; exact .inl fn14), ⟨(fun x h => by cases h; exact .inl fn30), ⟨(fun x h => by cases h; exact .inl fn94), trivial, trivial, trivial, trivial⟩, trivial, trivial, trivial⟩, ⟨(fun x h => by cases h; exact .inl fn46), ⟨(fun x h => by cases h; exact .inl fn110), trivial, trivial, trivial, trivial⟩, trivial, trivial, trivial⟩, ⟨(fun x h => by cases h; exact .inl fn62), ⟨(fun x h => by cases h; exact .inl fn126), trivial, trivial, trivial, trivial⟩, trivial, trivial, trivial⟩, ⟨(fun x h => by cases h; exact .inl fn78), ⟨(fun x h => by cases h; exact .inl fn142), trivial, trivial, trivial, trivial⟩, trivial, trivial, trivial⟩⟩, ⟨(fun x h => by cases h; exact .inl fn18), ⟨(fun x h => by cases h; exact .inl fn34), ⟨(fun x h => by cases h; exact .inl fn98), trivial, trivial, trivial, trivial⟩, trivial, trivial, trivial⟩, ⟨(fun x h => by cases h; exact .inl fn50), ⟨(fun x h => by cases h; exact .inl fn114), trivial, trivial, trivial, trivial⟩, trivial, trivial, trivial⟩, ⟨(fun x h => by cases h; exact .inl fn66), ⟨(fun x h => by cases h; exact .inl fn130), trivial, trivial, trivial, trivial⟩, trivial, trivial, trivial⟩, ⟨(fun x h => by cases h; exact .inl fn82), ⟨(fun x h => by cases h; exact .inl fn146), trivial, trivial, trivial, trivial⟩, trivial, trivial, trivial⟩⟩⟩, ⟨(fun x h => by cases h; exact .inl fn3), ⟨(fun x h => by cases h; exact .inl fn7), ⟨(fun x h => by cases h; exact .inl fn23), ⟨(fun x h => by cases h; exact .inl fn87), trivial, trivial, trivial, trivial⟩, trivial, trivial, trivial⟩, ⟨(fun x h => by cases h; exact .inl fn39), ⟨(fun x h => by cases h; exact .inl fn103), trivial, trivial, trivial, trivial⟩, trivial, trivial, trivial⟩, ⟨(fun x h => by cases h; exact .inl fn55), ⟨(fun x h => by cases h; exact .inl fn119), trivial, trivial, trivial, trivial⟩, trivial, trivial, trivial⟩, ⟨(fun x h => by cases h; exact .inl fn71), ⟨(fun x h => by cases h; exact .inl fn135), trivial, trivial, trivial, trivial⟩, trivial, trivial, trivial⟩⟩, ⟨(fun x h => by cases h; exact .inl fn11), ⟨(fun x h => by cases h; exact .inl fn27), ⟨(fun x h => by cases h; exact .inl fn91), trivial, trivial, trivial, trivial⟩, trivial, trivial, trivial⟩, ⟨(fun x h => by cases h; exact .inl fn43), ⟨(fun x h => by cases h; exact .inl fn107), trivial, trivial, trivial, trivial⟩, trivial, trivial, trivial⟩, ⟨(fun x h => by cases h; exact .inl fn59), ⟨(fun x h => by cases h; exact .inl fn123), trivial, trivial, trivial, trivial⟩, trivial, trivial, trivial⟩, ⟨(fun x h => by cases h; exact .inl fn75), ⟨(fun x h => by cases h; exact .inl fn139), trivial, trivial, trivial, trivial⟩, trivial, trivial, trivial⟩⟩, ⟨(fun x h => by cases h; exact .inl fn15), ⟨(fun x h => by cases h; exact .inl fn31), ⟨(fun x h => by cases h; exact .inl fn95), trivial, trivial, trivial, trivial⟩, trivial, trivial, trivial⟩, ⟨(fun x h => by cases h; exact .inl fn47), ⟨(fun x h => by cases h; exact .inl fn111), trivial, trivial, trivial, trivial⟩, trivial, trivial, trivial⟩, ⟨(fun x h => by cases h; exact .inl fn63), ⟨(fun x h => by cases h; exact .inl fn127), trivial, trivial, trivial, trivial⟩, trivial, trivial, trivial⟩, ⟨(fun x h => by cases h; exact .inl fn79), ⟨(fun x h => by cases h; exact .inl fn143), trivial, trivial, trivial, trivial⟩, trivial, trivial, trivial⟩⟩, ⟨(fun x h => by cases h; exact .inl fn19), ⟨(fun x h => by cases h; exact .inl fn35), ⟨(fun x h => by cases h; exact .inl fn99), trivial, trivial, trivial, trivial⟩, trivial, trivial, trivial⟩, ⟨(fun x h => by cases h; exact .inl fn51), ⟨(fun x h => by cases h; exact .inl fn115), trivial, trivial, trivial, trivial⟩, trivial, trivial, trivial⟩, ⟨(fun x h => by cases h; exact .inl fn67), ⟨(fun x h => by cases h; exact .inl fn131), trivial, trivial, trivial, trivial⟩, trivial, trivial, trivial⟩, ⟨(fun x h => by cases h; exact .inl fn83), ⟨(fun x h => by cases h; exact .inl fn147), trivial, trivial, trivial, trivial⟩, trivial, trivial, trivial⟩⟩⟩, ⟨(fun x h => by cases h; exact .inl fn4), ⟨(fun x h => by cases h; exact .inl fn8), ⟨(fun x h => by cases h; exact .inl fn24), ⟨(fun x h => by cases h; exact .inl fn88), trivial, trivial, trivial, trivial⟩, trivial, trivial, trivial⟩, ⟨(fun x h => by cases h; exact .inl fn40), ⟨(fun x h => by cases h; exact .inl fn104), trivial, trivial, trivial, trivial⟩, trivial, trivial, trivial⟩, ⟨(fun x h => by cases h; exact .inl fn56), ⟨(fun x h => by cases h; exact .inl fn120), trivial, trivial, trivial, trivial⟩, trivial, trivial, trivial⟩, ⟨(fun x h => by cases h; exact .inl fn72), ⟨(fun x h => by cases h; exact .inl fn136), trivial, trivial, trivial, trivial⟩, trivial, trivial, trivial⟩⟩, ⟨(fun x h => by cases h; exact .inl fn12), ⟨(fun x h => by cases h; exact .inl fn28), ⟨(fun x h => by cases h; exact .inl fn92), trivial, trivial, trivial, trivial⟩, trivial, trivial, trivial⟩, ⟨(fun x h => by cases h; exact .inl fn44), ⟨(fun x h => by cases h; exact .inl fn108), trivial, trivial, trivial, trivial⟩, trivial, trivial, trivial⟩, ⟨(fun x h => by cases h; exact .inl fn60), ⟨(fun x h => by cases h; exact .inl fn124), trivial, trivial, trivial, trivial⟩, trivial, trivial, trivial⟩, ⟨(fun x h => by cases h; exact .inl fn76), ⟨(fun x h => by cases h; exact .inl fn140), trivial, trivial, trivial, trivial⟩, trivial, trivial, trivial⟩⟩, ⟨(fun x h => by cases h; exact .inl fn16), ⟨(fun x h => by cases h; exact .inl fn32), ⟨(fun x h => by cases h; exact .inl fn96), trivial, trivial, trivial, trivial⟩, trivial, trivial, trivial⟩, ⟨(fun x h => by cases h; exact .inl fn48), trivial, trivial, trivial, trivial⟩, ⟨(fun x h => by cases h; exact .inl fn64), ⟨(fun x h => by cases h; exact .inl fn128), trivial, trivial, trivial, trivial⟩, trivial, trivial, trivial⟩, ⟨(fun x h => by cases h; exact .inl fn80), ⟨(fun x h => by cases h; exact .inl fn144), trivial, trivial, trivial, trivial⟩, trivial, trivial, trivial⟩⟩, ⟨(fun x h => by cases h; exact .inl fn20), ⟨(fun x h => by cases h; exact .inl fn36), ⟨(fun x h => by cases h; exact .inl fn100), trivial, trivial, trivial, trivial⟩, trivial, trivial, trivial⟩, ⟨(fun x h => by cases h; exact .inl fn52), ⟨(fun x h => by cases h; exact .inl fn116), trivial, trivial, trivial, trivial⟩, trivial, trivial, trivial⟩, ⟨(fun x h => by cases h; exact .inl fn68), ⟨(fun x h => by cases h; exact .inl fn132), trivial, trivial, trivial, trivial⟩, trivial, trivial, trivial⟩, ⟨(fun x h => by cases h; exact .inl fn84), ⟨(fun x h => by cases h; exact .inl fn148), trivial, trivial, trivial, trivial⟩, trivial, trivial, trivial⟩⟩⟩⟩) h
end Go.Ab.Try
