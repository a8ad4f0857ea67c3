/- Each function of the table is what the program has. (Printed by mkc.py.) -/
import Derived.Test.YtdiiepiflmgdeaaGreatA26
import Derived.Test.YtdiiepiflmgdeaaGreatPTryz
import Derived.Test.YtdiiepiflmgdeaaGreatProg
set_option maxRecDepth 100000
namespace Go.Ab.Tryz
open Go Go.Ab
open Go.RowKit (Below)
theorem ck5 : chkFn Go.Proofs.Tryz.prog Go.Proofs.Tryz.f5 a5 = true := by decide +kernel
theorem fn5 : FnOk Go.Proofs.Tryz.prog (cdk Go.Proofs.Tryz.prog) (.a (.a .z)) a5 := fnOk_of (k := .a (.a .z)) Go.Proofs.Tryz.func5 ck5
theorem ck7 : chkFn Go.Proofs.Tryz.prog Go.Proofs.Tryz.f7 a7 = true := by decide +kernel
theorem fn7 : FnOk Go.Proofs.Tryz.prog (cdk Go.Proofs.Tryz.prog) (.c (.a .z)) a7 := fnOk_of (k := .c (.a .z)) Go.Proofs.Tryz.func7 ck7
theorem ck9 : chkFn Go.Proofs.Tryz.prog Go.Proofs.Tryz.f9 a9 = true := by decide +kernel
theorem fn9 : FnOk Go.Proofs.Tryz.prog (cdk Go.Proofs.Tryz.prog) (.a (.b .z)) a9 := fnOk_of (k := .a (.b .z)) Go.Proofs.Tryz.func9 ck9
theorem ck10 : chkFn Go.Proofs.Tryz.prog Go.Proofs.Tryz.f10 a10 = true := by decide +kernel
theorem fn10 : FnOk Go.Proofs.Tryz.prog (cdk Go.Proofs.Tryz.prog) (.b (.b .z)) a10 := fnOk_of (k := .b (.b .z)) Go.Proofs.Tryz.func10 ck10
theorem ck11 : chkFn Go.Proofs.Tryz.prog Go.Proofs.Tryz.f11 a11 = true := by decide +kernel
theorem fn11 : FnOk Go.Proofs.Tryz.prog (cdk Go.Proofs.Tryz.prog) (.c (.b .z)) a11 := fnOk_of (k := .c (.b .z)) Go.Proofs.Tryz.func11 ck11
theorem ck12 : chkFn Go.Proofs.Tryz.prog Go.Proofs.Tryz.f12 a12 = true := by decide +kernel
theorem fn12 : FnOk Go.Proofs.Tryz.prog (cdk Go.Proofs.Tryz.prog) (.d (.b .z)) a12 := fnOk_of (k := .d (.b .z)) Go.Proofs.Tryz.func12 ck12
theorem ck14 : chkFn Go.Proofs.Tryz.prog Go.Proofs.Tryz.f14 a14 = true := by decide +kernel
theorem fn14 : FnOk Go.Proofs.Tryz.prog (cdk Go.Proofs.Tryz.prog) (.b (.c .z)) a14 := fnOk_of (k := .b (.c .z)) Go.Proofs.Tryz.func14 ck14
theorem ck15 : chkFn Go.Proofs.Tryz.prog Go.Proofs.Tryz.f15 a15 = true := by decide +kernel
theorem fn15 : FnOk Go.Proofs.Tryz.prog (cdk Go.Proofs.Tryz.prog) (.c (.c .z)) a15 := fnOk_of (k := .c (.c .z)) Go.Proofs.Tryz.func15 ck15
theorem ck17 : chkFn Go.Proofs.Tryz.prog Go.Proofs.Tryz.f17 a17 = true := by decide +kernel
theorem fn17 : FnOk Go.Proofs.Tryz.prog (cdk Go.Proofs.Tryz.prog) (.a (.d .z)) a17 := fnOk_of (k := .a (.d .z)) Go.Proofs.Tryz.func17 ck17
theorem ck18 : chkFn Go.Proofs.Tryz.prog Go.Proofs.Tryz.f18 a18 = true := by decide +kernel
theorem fn18 : FnOk Go.Proofs.Tryz.prog (cdk Go.Proofs.Tryz.prog) (.b (.d .z)) a18 := fnOk_of (k := .b (.d .z)) Go.Proofs.Tryz.func18 ck18
theorem ck20 : chkFn Go.Proofs.Tryz.prog Go.Proofs.Tryz.f20 a20 = true := by decide +kernel
theorem fn20 : FnOk Go.Proofs.Tryz.prog (cdk Go.Proofs.Tryz.prog) (.d (.d .z)) a20 := fnOk_of (k := .d (.d .z)) Go.Proofs.Tryz.func20 ck20
theorem ck21 : chkFn Go.Proofs.Tryz.prog Go.Proofs.Tryz.f21 a21 = true := by decide +kernel
theorem fn21 : FnOk Go.Proofs.Tryz.prog (cdk Go.Proofs.Tryz.prog) (.a (.a (.a .z))) a21 := fnOk_of (k := .a (.a (.a .z))) Go.Proofs.Tryz.func21 ck21
theorem ck23 : chkFn Go.Proofs.Tryz.prog Go.Proofs.Tryz.f23 a23 = true := by decide +kernel
theorem fn23 : FnOk Go.Proofs.Tryz.prog (cdk Go.Proofs.Tryz.prog) (.c (.a (.a .z))) a23 := fnOk_of (k := .c (.a (.a .z))) Go.Proofs.Tryz.func23 ck23
theorem ck24 : chkFn Go.Proofs.Tryz.prog Go.Proofs.Tryz.f24 a24 = true := by decide +kernel
theorem fn24 : FnOk Go.Proofs.Tryz.prog (cdk Go.Proofs.Tryz.prog) (.d (.a (.a .z))) a24 := fnOk_of (k := .d (.a (.a .z))) Go.Proofs.Tryz.func24 ck24
theorem ck26 : chkFn Go.Proofs.Tryz.prog Go.Proofs.Tryz.f26 a26 = true := by decide +kernel
theorem fn26 : FnOk Go.Proofs.Tryz.prog (cdk Go.Proofs.Tryz.prog) (.b (.b (.a .z))) a26 := fnOk_of (k := .b (.b (.a .z))) Go.Proofs.Tryz.func26 ck26
theorem ck27 : chkFn Go.Proofs.Tryz.prog Go.Proofs.Tryz.f27 a27 = true := by decide +kernel
theorem fn27 : FnOk Go.Proofs.Tryz.prog (cdk Go.Proofs.Tryz.prog) (.c (.b (.a .z))) a27 := fnOk_of (k := .c (.b (.a .z))) Go.Proofs.Tryz.func27 ck27
theorem ck28 : chkFn Go.Proofs.Tryz.prog Go.Proofs.Tryz.f28 a28 = true := by decide +kernel
theorem fn28 : FnOk Go.Proofs.Tryz.prog (cdk Go.Proofs.Tryz.prog) (.d (.b (.a .z))) a28 := fnOk_of (k := .d (.b (.a .z))) Go.Proofs.Tryz.func28 ck28
theorem ck29 : chkFn Go.Proofs.Tryz.prog Go.Proofs.Tryz.f29 a29 = true := by decide +kernel
theorem fn29 : FnOk Go.Proofs.Tryz.prog (cdk Go.Proofs.Tryz.prog) (.a (.c (.a .z))) a29 := fnOk_of (k := .a (.c (.a .z))) Go.Proofs.Tryz.func29 ck29
theorem ck30 : chkFn Go.Proofs.Tryz.prog Go.Proofs.Tryz.f30 a30 = true := by decide +kernel
theorem fn30 : FnOk Go.Proofs.Tryz.prog (cdk Go.Proofs.Tryz.prog) (.b (.c (.a .z))) a30 := fnOk_of (k := .b (.c (.a .z))) Go.Proofs.Tryz.func30 ck30
theorem ck31 : chkFn Go.Proofs.Tryz.prog Go.Proofs.Tryz.f31 a31 = true := by decide +kernel
theorem fn31 : FnOk Go.Proofs.Tryz.prog (cdk Go.Proofs.Tryz.prog) (.c (.c (.a .z))) a31 := fnOk_of (k := .c (.c (.a .z))) Go.Proofs.Tryz.func31 ck31
theorem ck32 : chkFn Go.Proofs.Tryz.prog Go.Proofs.Tryz.f32 a32 = true := by decide +kernel
theorem fn32 : FnOk Go.Proofs.Tryz.prog (cdk Go.Proofs.Tryz.prog) (.d (.c (.a .z))) a32 := fnOk_of (k := .d (.c (.a .z))) Go.Proofs.Tryz.func32 ck32
theorem ck33 : chkFn Go.Proofs.Tryz.prog Go.Proofs.Tryz.f33 a33 = true := by decide +kernel
theorem fn33 : FnOk Go.Proofs.Tryz.prog (cdk Go.Proofs.Tryz.prog) (.a (.d (.a .z))) a33 := fnOk_of (k := .a (.d (.a .z))) Go.Proofs.Tryz.func33 ck33
theorem ck34 : chkFn Go.Proofs.Tryz.prog Go.Proofs.Tryz.f34 a34 = true := by decide +kernel
theorem fn34 : FnOk Go.Proofs.Tryz.prog (cdk Go.Proofs.Tryz.prog) (.b (.d (.a .z))) a34 := fnOk_of (k := .b (.d (.a .z))) Go.Proofs.Tryz.func34 ck34
theorem ck35 : chkFn Go.Proofs.Tryz.prog Go.Proofs.Tryz.f35 a35 = true := by decide +kernel
theorem fn35 : FnOk Go.Proofs.Tryz.prog (cdk Go.Proofs.Tryz.prog) (.c (.d (.a .z))) a35 := fnOk_of (k := .c (.d (.a .z))) Go.Proofs.Tryz.func35 ck35
theorem ck36 : chkFn Go.Proofs.Tryz.prog Go.Proofs.Tryz.f36 a36 = true := by decide +kernel
theorem fn36 : FnOk Go.Proofs.Tryz.prog (cdk Go.Proofs.Tryz.prog) (.d (.d (.a .z))) a36 := fnOk_of (k := .d (.d (.a .z))) Go.Proofs.Tryz.func36 ck36
theorem ck37 : chkFn Go.Proofs.Tryz.prog Go.Proofs.Tryz.f37 a37 = true := by decide +kernel
theorem fn37 : FnOk Go.Proofs.Tryz.prog (cdk Go.Proofs.Tryz.prog) (.a (.a (.b .z))) a37 := fnOk_of (k := .a (.a (.b .z))) Go.Proofs.Tryz.func37 ck37
theorem ck38 : chkFn Go.Proofs.Tryz.prog Go.Proofs.Tryz.f38 a38 = true := by decide +kernel
theorem fn38 : FnOk Go.Proofs.Tryz.prog (cdk Go.Proofs.Tryz.prog) (.b (.a (.b .z))) a38 := fnOk_of (k := .b (.a (.b .z))) Go.Proofs.Tryz.func38 ck38
theorem ck40 : chkFn Go.Proofs.Tryz.prog Go.Proofs.Tryz.f40 a40 = true := by decide +kernel
theorem fn40 : FnOk Go.Proofs.Tryz.prog (cdk Go.Proofs.Tryz.prog) (.d (.a (.b .z))) a40 := fnOk_of (k := .d (.a (.b .z))) Go.Proofs.Tryz.func40 ck40
theorem ck41 : chkFn Go.Proofs.Tryz.prog Go.Proofs.Tryz.f41 a41 = true := by decide +kernel
theorem fn41 : FnOk Go.Proofs.Tryz.prog (cdk Go.Proofs.Tryz.prog) (.a (.b (.b .z))) a41 := fnOk_of (k := .a (.b (.b .z))) Go.Proofs.Tryz.func41 ck41
theorem ck42 : chkFn Go.Proofs.Tryz.prog Go.Proofs.Tryz.f42 a42 = true := by decide +kernel
theorem fn42 : FnOk Go.Proofs.Tryz.prog (cdk Go.Proofs.Tryz.prog) (.b (.b (.b .z))) a42 := fnOk_of (k := .b (.b (.b .z))) Go.Proofs.Tryz.func42 ck42
theorem ck43 : chkFn Go.Proofs.Tryz.prog Go.Proofs.Tryz.f43 a43 = true := by decide +kernel
theorem fn43 : FnOk Go.Proofs.Tryz.prog (cdk Go.Proofs.Tryz.prog) (.c (.b (.b .z))) a43 := fnOk_of (k := .c (.b (.b .z))) Go.Proofs.Tryz.func43 ck43
theorem ck44 : chkFn Go.Proofs.Tryz.prog Go.Proofs.Tryz.f44 a44 = true := by decide +kernel
theorem fn44 : FnOk Go.Proofs.Tryz.prog (cdk Go.Proofs.Tryz.prog) (.d (.b (.b .z))) a44 := fnOk_of (k := .d (.b (.b .z))) Go.Proofs.Tryz.func44 ck44
theorem ck45 : chkFn Go.Proofs.Tryz.prog Go.Proofs.Tryz.f45 a45 = true := by decide +kernel
theorem fn45 : FnOk Go.Proofs.Tryz.prog (cdk Go.Proofs.Tryz.prog) (.a (.c (.b .z))) a45 := fnOk_of (k := .a (.c (.b .z))) Go.Proofs.Tryz.func45 ck45
theorem ck46 : chkFn Go.Proofs.Tryz.prog Go.Proofs.Tryz.f46 a46 = true := by decide +kernel
theorem fn46 : FnOk Go.Proofs.Tryz.prog (cdk Go.Proofs.Tryz.prog) (.b (.c (.b .z))) a46 := fnOk_of (k := .b (.c (.b .z))) Go.Proofs.Tryz.func46 ck46
theorem ck47 : chkFn Go.Proofs.Tryz.prog Go.Proofs.Tryz.f47 a47 = true := by decide +kernel
theorem fn47 : FnOk Go.Proofs.Tryz.prog (cdk Go.Proofs.Tryz.prog) (.c (.c (.b .z))) a47 := fnOk_of (k := .c (.c (.b .z))) Go.Proofs.Tryz.func47 ck47
theorem ck48 : chkFn Go.Proofs.Tryz.prog Go.Proofs.Tryz.f48 a48 = true := by decide +kernel
theorem fn48 : FnOk Go.Proofs.Tryz.prog (cdk Go.Proofs.Tryz.prog) (.d (.c (.b .z))) a48 := fnOk_of (k := .d (.c (.b .z))) Go.Proofs.Tryz.func48 ck48
theorem ck49 : chkFn Go.Proofs.Tryz.prog Go.Proofs.Tryz.f49 a49 = true := by decide +kernel
theorem fn49 : FnOk Go.Proofs.Tryz.prog (cdk Go.Proofs.Tryz.prog) (.a (.d (.b .z))) a49 := fnOk_of (k := .a (.d (.b .z))) Go.Proofs.Tryz.func49 ck49
theorem ck50 : chkFn Go.Proofs.Tryz.prog Go.Proofs.Tryz.f50 a50 = true := by decide +kernel
theorem fn50 : FnOk Go.Proofs.Tryz.prog (cdk Go.Proofs.Tryz.prog) (.b (.d (.b .z))) a50 := fnOk_of (k := .b (.d (.b .z))) Go.Proofs.Tryz.func50 ck50
theorem ck51 : chkFn Go.Proofs.Tryz.prog Go.Proofs.Tryz.f51 a51 = true := by decide +kernel
theorem fn51 : FnOk Go.Proofs.Tryz.prog (cdk Go.Proofs.Tryz.prog) (.c (.d (.b .z))) a51 := fnOk_of (k := .c (.d (.b .z))) Go.Proofs.Tryz.func51 ck51
theorem ck52 : chkFn Go.Proofs.Tryz.prog Go.Proofs.Tryz.f52 a52 = true := by decide +kernel
theorem fn52 : FnOk Go.Proofs.Tryz.prog (cdk Go.Proofs.Tryz.prog) (.d (.d (.b .z))) a52 := fnOk_of (k := .d (.d (.b .z))) Go.Proofs.Tryz.func52 ck52
theorem ck53 : chkFn Go.Proofs.Tryz.prog Go.Proofs.Tryz.f53 a53 = true := by decide +kernel
theorem fn53 : FnOk Go.Proofs.Tryz.prog (cdk Go.Proofs.Tryz.prog) (.a (.a (.c .z))) a53 := fnOk_of (k := .a (.a (.c .z))) Go.Proofs.Tryz.func53 ck53
theorem ck54 : chkFn Go.Proofs.Tryz.prog Go.Proofs.Tryz.f54 a54 = true := by decide +kernel
theorem fn54 : FnOk Go.Proofs.Tryz.prog (cdk Go.Proofs.Tryz.prog) (.b (.a (.c .z))) a54 := fnOk_of (k := .b (.a (.c .z))) Go.Proofs.Tryz.func54 ck54
theorem ck55 : chkFn Go.Proofs.Tryz.prog Go.Proofs.Tryz.f55 a55 = true := by decide +kernel
theorem fn55 : FnOk Go.Proofs.Tryz.prog (cdk Go.Proofs.Tryz.prog) (.c (.a (.c .z))) a55 := fnOk_of (k := .c (.a (.c .z))) Go.Proofs.Tryz.func55 ck55
theorem ck58 : chkFn Go.Proofs.Tryz.prog Go.Proofs.Tryz.f58 a58 = true := by decide +kernel
theorem fn58 : FnOk Go.Proofs.Tryz.prog (cdk Go.Proofs.Tryz.prog) (.b (.b (.c .z))) a58 := fnOk_of (k := .b (.b (.c .z))) Go.Proofs.Tryz.func58 ck58
theorem ck60 : chkFn Go.Proofs.Tryz.prog Go.Proofs.Tryz.f60 a60 = true := by decide +kernel
theorem fn60 : FnOk Go.Proofs.Tryz.prog (cdk Go.Proofs.Tryz.prog) (.d (.b (.c .z))) a60 := fnOk_of (k := .d (.b (.c .z))) Go.Proofs.Tryz.func60 ck60
theorem ck61 : chkFn Go.Proofs.Tryz.prog Go.Proofs.Tryz.f61 a61 = true := by decide +kernel
theorem fn61 : FnOk Go.Proofs.Tryz.prog (cdk Go.Proofs.Tryz.prog) (.a (.c (.c .z))) a61 := fnOk_of (k := .a (.c (.c .z))) Go.Proofs.Tryz.func61 ck61
theorem ck62 : chkFn Go.Proofs.Tryz.prog Go.Proofs.Tryz.f62 a62 = true := by decide +kernel
theorem fn62 : FnOk Go.Proofs.Tryz.prog (cdk Go.Proofs.Tryz.prog) (.b (.c (.c .z))) a62 := fnOk_of (k := .b (.c (.c .z))) Go.Proofs.Tryz.func62 ck62
theorem ck63 : chkFn Go.Proofs.Tryz.prog Go.Proofs.Tryz.f63 a63 = true := by decide +kernel
theorem fn63 : FnOk Go.Proofs.Tryz.prog (cdk Go.Proofs.Tryz.prog) (.c (.c (.c .z))) a63 := fnOk_of (k := .c (.c (.c .z))) Go.Proofs.Tryz.func63 ck63
theorem ck64 : chkFn Go.Proofs.Tryz.prog Go.Proofs.Tryz.f64 a64 = true := by decide +kernel
theorem fn64 : FnOk Go.Proofs.Tryz.prog (cdk Go.Proofs.Tryz.prog) (.d (.c (.c .z))) a64 := fnOk_of (k := .d (.c (.c .z))) Go.Proofs.Tryz.func64 ck64
theorem ck66 : chkFn Go.Proofs.Tryz.prog Go.Proofs.Tryz.f66 a66 = true := by decide +kernel
theorem fn66 : FnOk Go.Proofs.Tryz.prog (cdk Go.Proofs.Tryz.prog) (.b (.d (.c .z))) a66 := fnOk_of (k := .b (.d (.c .z))) Go.Proofs.Tryz.func66 ck66
theorem ck67 : chkFn Go.Proofs.Tryz.prog Go.Proofs.Tryz.f67 a67 = true := by decide +kernel
theorem fn67 : FnOk Go.Proofs.Tryz.prog (cdk Go.Proofs.Tryz.prog) (.c (.d (.c .z))) a67 := fnOk_of (k := .c (.d (.c .z))) Go.Proofs.Tryz.func67 ck67
theorem ck68 : chkFn Go.Proofs.Tryz.prog Go.Proofs.Tryz.f68 a68 = true := by decide +kernel
theorem fn68 : FnOk Go.Proofs.Tryz.prog (cdk Go.Proofs.Tryz.prog) (.d (.d (.c .z))) a68 := fnOk_of (k := .d (.d (.c .z))) Go.Proofs.Tryz.func68 ck68
theorem ck69 : chkFn Go.Proofs.Tryz.prog Go.Proofs.Tryz.f69 a69 = true := by decide +kernel
theorem fn69 : FnOk Go.Proofs.Tryz.prog (cdk Go.Proofs.Tryz.prog) (.a (.a (.d .z))) a69 := fnOk_of (k := .a (.a (.d .z))) Go.Proofs.Tryz.func69 ck69
theorem ck70 : chkFn Go.Proofs.Tryz.prog Go.Proofs.Tryz.f70 a70 = true := by decide +kernel
theorem fn70 : FnOk Go.Proofs.Tryz.prog (cdk Go.Proofs.Tryz.prog) (.b (.a (.d .z))) a70 := fnOk_of (k := .b (.a (.d .z))) Go.Proofs.Tryz.func70 ck70
theorem ck71 : chkFn Go.Proofs.Tryz.prog Go.Proofs.Tryz.f71 a71 = true := by decide +kernel
theorem fn71 : FnOk Go.Proofs.Tryz.prog (cdk Go.Proofs.Tryz.prog) (.c (.a (.d .z))) a71 := fnOk_of (k := .c (.a (.d .z))) Go.Proofs.Tryz.func71 ck71
theorem ck72 : chkFn Go.Proofs.Tryz.prog Go.Proofs.Tryz.f72 a72 = true := by decide +kernel
theorem fn72 : FnOk Go.Proofs.Tryz.prog (cdk Go.Proofs.Tryz.prog) (.d (.a (.d .z))) a72 := fnOk_of (k := .d (.a (.d .z))) Go.Proofs.Tryz.func72 ck72
theorem ck73 : chkFn Go.Proofs.Tryz.prog Go.Proofs.Tryz.f73 a73 = true := by decide +kernel
theorem fn73 : FnOk Go.Proofs.Tryz.prog (cdk Go.Proofs.Tryz.prog) (.a (.b (.d .z))) a73 := fnOk_of (k := .a (.b (.d .z))) Go.Proofs.Tryz.func73 ck73
theorem ck74 : chkFn Go.Proofs.Tryz.prog Go.Proofs.Tryz.f74 a74 = true := by decide +kernel
theorem fn74 : FnOk Go.Proofs.Tryz.prog (cdk Go.Proofs.Tryz.prog) (.b (.b (.d .z))) a74 := fnOk_of (k := .b (.b (.d .z))) Go.Proofs.Tryz.func74 ck74
theorem ck75 : chkFn Go.Proofs.Tryz.prog Go.Proofs.Tryz.f75 a75 = true := by decide +kernel
theorem fn75 : FnOk Go.Proofs.Tryz.prog (cdk Go.Proofs.Tryz.prog) (.c (.b (.d .z))) a75 := fnOk_of (k := .c (.b (.d .z))) Go.Proofs.Tryz.func75 ck75
theorem ck77 : chkFn Go.Proofs.Tryz.prog Go.Proofs.Tryz.f77 a77 = true := by decide +kernel
theorem fn77 : FnOk Go.Proofs.Tryz.prog (cdk Go.Proofs.Tryz.prog) (.a (.c (.d .z))) a77 := fnOk_of (k := .a (.c (.d .z))) Go.Proofs.Tryz.func77 ck77
theorem ck78 : chkFn Go.Proofs.Tryz.prog Go.Proofs.Tryz.f78 a78 = true := by decide +kernel
theorem fn78 : FnOk Go.Proofs.Tryz.prog (cdk Go.Proofs.Tryz.prog) (.b (.c (.d .z))) a78 := fnOk_of (k := .b (.c (.d .z))) Go.Proofs.Tryz.func78 ck78
theorem ck79 : chkFn Go.Proofs.Tryz.prog Go.Proofs.Tryz.f79 a79 = true := by decide +kernel
theorem fn79 : FnOk Go.Proofs.Tryz.prog (cdk Go.Proofs.Tryz.prog) (.c (.c (.d .z))) a79 := fnOk_of (k := .c (.c (.d .z))) Go.Proofs.Tryz.func79 ck79
theorem ck81 : chkFn Go.Proofs.Tryz.prog Go.Proofs.Tryz.f81 a81 = true := by decide +kernel
theorem fn81 : FnOk Go.Proofs.Tryz.prog (cdk Go.Proofs.Tryz.prog) (.a (.d (.d .z))) a81 := fnOk_of (k := .a (.d (.d .z))) Go.Proofs.Tryz.func81 ck81
theorem ck82 : chkFn Go.Proofs.Tryz.prog Go.Proofs.Tryz.f82 a82 = true := by decide +kernel
theorem fn82 : FnOk Go.Proofs.Tryz.prog (cdk Go.Proofs.Tryz.prog) (.b (.d (.d .z))) a82 := fnOk_of (k := .b (.d (.d .z))) Go.Proofs.Tryz.func82 ck82
theorem ck83 : chkFn Go.Proofs.Tryz.prog Go.Proofs.Tryz.f83 a83 = true := by decide +kernel
theorem fn83 : FnOk Go.Proofs.Tryz.prog (cdk Go.Proofs.Tryz.prog) (.c (.d (.d .z))) a83 := fnOk_of (k := .c (.d (.d .z))) Go.Proofs.Tryz.func83 ck83
theorem ck84 : chkFn Go.Proofs.Tryz.prog Go.Proofs.Tryz.f84 a84 = true := by decide +kernel
theorem fn84 : FnOk Go.Proofs.Tryz.prog (cdk Go.Proofs.Tryz.prog) (.d (.d (.d .z))) a84 := fnOk_of (k := .d (.d (.d .z))) Go.Proofs.Tryz.func84 ck84
theorem ck85 : chkFn Go.Proofs.Tryz.prog Go.Proofs.Tryz.f85 a85 = true := by decide +kernel
theorem fn85 : FnOk Go.Proofs.Tryz.prog (cdk Go.Proofs.Tryz.prog) (.a (.a (.a (.a .z)))) a85 := fnOk_of (k := .a (.a (.a (.a .z)))) Go.Proofs.Tryz.func85 ck85
theorem ck86 : chkFn Go.Proofs.Tryz.prog Go.Proofs.Tryz.f86 a86 = true := by decide +kernel
theorem fn86 : FnOk Go.Proofs.Tryz.prog (cdk Go.Proofs.Tryz.prog) (.b (.a (.a (.a .z)))) a86 := fnOk_of (k := .b (.a (.a (.a .z)))) Go.Proofs.Tryz.func86 ck86
theorem ck87 : chkFn Go.Proofs.Tryz.prog Go.Proofs.Tryz.f87 a87 = true := by decide +kernel
theorem fn87 : FnOk Go.Proofs.Tryz.prog (cdk Go.Proofs.Tryz.prog) (.c (.a (.a (.a .z)))) a87 := fnOk_of (k := .c (.a (.a (.a .z)))) Go.Proofs.Tryz.func87 ck87
theorem ck88 : chkFn Go.Proofs.Tryz.prog Go.Proofs.Tryz.f88 a88 = true := by decide +kernel
theorem fn88 : FnOk Go.Proofs.Tryz.prog (cdk Go.Proofs.Tryz.prog) (.d (.a (.a (.a .z)))) a88 := fnOk_of (k := .d (.a (.a (.a .z)))) Go.Proofs.Tryz.func88 ck88
theorem ck90 : chkFn Go.Proofs.Tryz.prog Go.Proofs.Tryz.f90 a90 = true := by decide +kernel
theorem fn90 : FnOk Go.Proofs.Tryz.prog (cdk Go.Proofs.Tryz.prog) (.b (.b (.a (.a .z)))) a90 := fnOk_of (k := .b (.b (.a (.a .z)))) Go.Proofs.Tryz.func90 ck90
theorem ck91 : chkFn Go.Proofs.Tryz.prog Go.Proofs.Tryz.f91 a91 = true := by decide +kernel
theorem fn91 : FnOk Go.Proofs.Tryz.prog (cdk Go.Proofs.Tryz.prog) (.c (.b (.a (.a .z)))) a91 := fnOk_of (k := .c (.b (.a (.a .z)))) Go.Proofs.Tryz.func91 ck91
theorem ck92 : chkFn Go.Proofs.Tryz.prog Go.Proofs.Tryz.f92 a92 = true := by decide +kernel
theorem fn92 : FnOk Go.Proofs.Tryz.prog (cdk Go.Proofs.Tryz.prog) (.d (.b (.a (.a .z)))) a92 := fnOk_of (k := .d (.b (.a (.a .z)))) Go.Proofs.Tryz.func92 ck92
theorem ck93 : chkFn Go.Proofs.Tryz.prog Go.Proofs.Tryz.f93 a93 = true := by decide +kernel
theorem fn93 : FnOk Go.Proofs.Tryz.prog (cdk Go.Proofs.Tryz.prog) (.a (.c (.a (.a .z)))) a93 := fnOk_of (k := .a (.c (.a (.a .z)))) Go.Proofs.Tryz.func93 ck93
theorem ck94 : chkFn Go.Proofs.Tryz.prog Go.Proofs.Tryz.f94 a94 = true := by decide +kernel
theorem fn94 : FnOk Go.Proofs.Tryz.prog (cdk Go.Proofs.Tryz.prog) (.b (.c (.a (.a .z)))) a94 := fnOk_of (k := .b (.c (.a (.a .z)))) Go.Proofs.Tryz.func94 ck94
end Go.Ab.Tryz
