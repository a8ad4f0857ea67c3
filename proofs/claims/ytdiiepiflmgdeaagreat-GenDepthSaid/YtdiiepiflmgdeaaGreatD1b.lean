/- Each function of the table is what the program has. (Printed by mkc.py.) -/
import Derived.Test.YtdiiepiflmgdeaaGreatA26
import Derived.Test.YtdiiepiflmgdeaaGreatPTryz
import Derived.Test.YtdiiepiflmgdeaaGreatProg
set_option maxRecDepth 100000
namespace Go.Ab.Tryz
open Go Go.Ab
open Go.RowKit (Below)
theorem ck95 : chkFn Go.Proofs.Tryz.prog Go.Proofs.Tryz.f95 a95 = true := by decide +kernel
theorem fn95 : FnOk Go.Proofs.Tryz.prog (cdk Go.Proofs.Tryz.prog) (.c (.c (.a (.a .z)))) a95 := fnOk_of (k := .c (.c (.a (.a .z)))) Go.Proofs.Tryz.func95 ck95
theorem ck96 : chkFn Go.Proofs.Tryz.prog Go.Proofs.Tryz.f96 a96 = true := by decide +kernel
theorem fn96 : FnOk Go.Proofs.Tryz.prog (cdk Go.Proofs.Tryz.prog) (.d (.c (.a (.a .z)))) a96 := fnOk_of (k := .d (.c (.a (.a .z)))) Go.Proofs.Tryz.func96 ck96
theorem ck97 : chkFn Go.Proofs.Tryz.prog Go.Proofs.Tryz.f97 a97 = true := by decide +kernel
theorem fn97 : FnOk Go.Proofs.Tryz.prog (cdk Go.Proofs.Tryz.prog) (.a (.d (.a (.a .z)))) a97 := fnOk_of (k := .a (.d (.a (.a .z)))) Go.Proofs.Tryz.func97 ck97
theorem ck100 : chkFn Go.Proofs.Tryz.prog Go.Proofs.Tryz.f100 a100 = true := by decide +kernel
theorem fn100 : FnOk Go.Proofs.Tryz.prog (cdk Go.Proofs.Tryz.prog) (.d (.d (.a (.a .z)))) a100 := fnOk_of (k := .d (.d (.a (.a .z)))) Go.Proofs.Tryz.func100 ck100
theorem ck101 : chkFn Go.Proofs.Tryz.prog Go.Proofs.Tryz.f101 a101 = true := by decide +kernel
theorem fn101 : FnOk Go.Proofs.Tryz.prog (cdk Go.Proofs.Tryz.prog) (.a (.a (.b (.a .z)))) a101 := fnOk_of (k := .a (.a (.b (.a .z)))) Go.Proofs.Tryz.func101 ck101
theorem ck102 : chkFn Go.Proofs.Tryz.prog Go.Proofs.Tryz.f102 a102 = true := by decide +kernel
theorem fn102 : FnOk Go.Proofs.Tryz.prog (cdk Go.Proofs.Tryz.prog) (.b (.a (.b (.a .z)))) a102 := fnOk_of (k := .b (.a (.b (.a .z)))) Go.Proofs.Tryz.func102 ck102
theorem ck103 : chkFn Go.Proofs.Tryz.prog Go.Proofs.Tryz.f103 a103 = true := by decide +kernel
theorem fn103 : FnOk Go.Proofs.Tryz.prog (cdk Go.Proofs.Tryz.prog) (.c (.a (.b (.a .z)))) a103 := fnOk_of (k := .c (.a (.b (.a .z)))) Go.Proofs.Tryz.func103 ck103
theorem ck104 : chkFn Go.Proofs.Tryz.prog Go.Proofs.Tryz.f104 a104 = true := by decide +kernel
theorem fn104 : FnOk Go.Proofs.Tryz.prog (cdk Go.Proofs.Tryz.prog) (.d (.a (.b (.a .z)))) a104 := fnOk_of (k := .d (.a (.b (.a .z)))) Go.Proofs.Tryz.func104 ck104
theorem ck105 : chkFn Go.Proofs.Tryz.prog Go.Proofs.Tryz.f105 a105 = true := by decide +kernel
theorem fn105 : FnOk Go.Proofs.Tryz.prog (cdk Go.Proofs.Tryz.prog) (.a (.b (.b (.a .z)))) a105 := fnOk_of (k := .a (.b (.b (.a .z)))) Go.Proofs.Tryz.func105 ck105
theorem ck106 : chkFn Go.Proofs.Tryz.prog Go.Proofs.Tryz.f106 a106 = true := by decide +kernel
theorem fn106 : FnOk Go.Proofs.Tryz.prog (cdk Go.Proofs.Tryz.prog) (.b (.b (.b (.a .z)))) a106 := fnOk_of (k := .b (.b (.b (.a .z)))) Go.Proofs.Tryz.func106 ck106
theorem ck108 : chkFn Go.Proofs.Tryz.prog Go.Proofs.Tryz.f108 a108 = true := by decide +kernel
theorem fn108 : FnOk Go.Proofs.Tryz.prog (cdk Go.Proofs.Tryz.prog) (.d (.b (.b (.a .z)))) a108 := fnOk_of (k := .d (.b (.b (.a .z)))) Go.Proofs.Tryz.func108 ck108
theorem ck109 : chkFn Go.Proofs.Tryz.prog Go.Proofs.Tryz.f109 a109 = true := by decide +kernel
theorem fn109 : FnOk Go.Proofs.Tryz.prog (cdk Go.Proofs.Tryz.prog) (.a (.c (.b (.a .z)))) a109 := fnOk_of (k := .a (.c (.b (.a .z)))) Go.Proofs.Tryz.func109 ck109
theorem ck110 : chkFn Go.Proofs.Tryz.prog Go.Proofs.Tryz.f110 a110 = true := by decide +kernel
theorem fn110 : FnOk Go.Proofs.Tryz.prog (cdk Go.Proofs.Tryz.prog) (.b (.c (.b (.a .z)))) a110 := fnOk_of (k := .b (.c (.b (.a .z)))) Go.Proofs.Tryz.func110 ck110
theorem ck111 : chkFn Go.Proofs.Tryz.prog Go.Proofs.Tryz.f111 a111 = true := by decide +kernel
theorem fn111 : FnOk Go.Proofs.Tryz.prog (cdk Go.Proofs.Tryz.prog) (.c (.c (.b (.a .z)))) a111 := fnOk_of (k := .c (.c (.b (.a .z)))) Go.Proofs.Tryz.func111 ck111
theorem ck112 : chkFn Go.Proofs.Tryz.prog Go.Proofs.Tryz.f112 a112 = true := by decide +kernel
theorem fn112 : FnOk Go.Proofs.Tryz.prog (cdk Go.Proofs.Tryz.prog) (.d (.c (.b (.a .z)))) a112 := fnOk_of (k := .d (.c (.b (.a .z)))) Go.Proofs.Tryz.func112 ck112
theorem ck113 : chkFn Go.Proofs.Tryz.prog Go.Proofs.Tryz.f113 a113 = true := by decide +kernel
theorem fn113 : FnOk Go.Proofs.Tryz.prog (cdk Go.Proofs.Tryz.prog) (.a (.d (.b (.a .z)))) a113 := fnOk_of (k := .a (.d (.b (.a .z)))) Go.Proofs.Tryz.func113 ck113
theorem ck121 : chkFn Go.Proofs.Tryz.prog Go.Proofs.Tryz.f121 a121 = true := by decide +kernel
theorem fn121 : FnOk Go.Proofs.Tryz.prog (cdk Go.Proofs.Tryz.prog) (.a (.b (.c (.a .z)))) a121 := fnOk_of (k := .a (.b (.c (.a .z)))) Go.Proofs.Tryz.func121 ck121
theorem ck122 : chkFn Go.Proofs.Tryz.prog Go.Proofs.Tryz.f122 a122 = true := by decide +kernel
theorem fn122 : FnOk Go.Proofs.Tryz.prog (cdk Go.Proofs.Tryz.prog) (.b (.b (.c (.a .z)))) a122 := fnOk_of (k := .b (.b (.c (.a .z)))) Go.Proofs.Tryz.func122 ck122
theorem ck123 : chkFn Go.Proofs.Tryz.prog Go.Proofs.Tryz.f123 a123 = true := by decide +kernel
theorem fn123 : FnOk Go.Proofs.Tryz.prog (cdk Go.Proofs.Tryz.prog) (.c (.b (.c (.a .z)))) a123 := fnOk_of (k := .c (.b (.c (.a .z)))) Go.Proofs.Tryz.func123 ck123
theorem ck124 : chkFn Go.Proofs.Tryz.prog Go.Proofs.Tryz.f124 a124 = true := by decide +kernel
theorem fn124 : FnOk Go.Proofs.Tryz.prog (cdk Go.Proofs.Tryz.prog) (.d (.b (.c (.a .z)))) a124 := fnOk_of (k := .d (.b (.c (.a .z)))) Go.Proofs.Tryz.func124 ck124
theorem ck125 : chkFn Go.Proofs.Tryz.prog Go.Proofs.Tryz.f125 a125 = true := by decide +kernel
theorem fn125 : FnOk Go.Proofs.Tryz.prog (cdk Go.Proofs.Tryz.prog) (.a (.c (.c (.a .z)))) a125 := fnOk_of (k := .a (.c (.c (.a .z)))) Go.Proofs.Tryz.func125 ck125
theorem ck126 : chkFn Go.Proofs.Tryz.prog Go.Proofs.Tryz.f126 a126 = true := by decide +kernel
theorem fn126 : FnOk Go.Proofs.Tryz.prog (cdk Go.Proofs.Tryz.prog) (.b (.c (.c (.a .z)))) a126 := fnOk_of (k := .b (.c (.c (.a .z)))) Go.Proofs.Tryz.func126 ck126
theorem ck127 : chkFn Go.Proofs.Tryz.prog Go.Proofs.Tryz.f127 a127 = true := by decide +kernel
theorem fn127 : FnOk Go.Proofs.Tryz.prog (cdk Go.Proofs.Tryz.prog) (.c (.c (.c (.a .z)))) a127 := fnOk_of (k := .c (.c (.c (.a .z)))) Go.Proofs.Tryz.func127 ck127
theorem ck128 : chkFn Go.Proofs.Tryz.prog Go.Proofs.Tryz.f128 a128 = true := by decide +kernel
theorem fn128 : FnOk Go.Proofs.Tryz.prog (cdk Go.Proofs.Tryz.prog) (.d (.c (.c (.a .z)))) a128 := fnOk_of (k := .d (.c (.c (.a .z)))) Go.Proofs.Tryz.func128 ck128
theorem ck130 : chkFn Go.Proofs.Tryz.prog Go.Proofs.Tryz.f130 a130 = true := by decide +kernel
theorem fn130 : FnOk Go.Proofs.Tryz.prog (cdk Go.Proofs.Tryz.prog) (.b (.d (.c (.a .z)))) a130 := fnOk_of (k := .b (.d (.c (.a .z)))) Go.Proofs.Tryz.func130 ck130
theorem ck131 : chkFn Go.Proofs.Tryz.prog Go.Proofs.Tryz.f131 a131 = true := by decide +kernel
theorem fn131 : FnOk Go.Proofs.Tryz.prog (cdk Go.Proofs.Tryz.prog) (.c (.d (.c (.a .z)))) a131 := fnOk_of (k := .c (.d (.c (.a .z)))) Go.Proofs.Tryz.func131 ck131
theorem ck132 : chkFn Go.Proofs.Tryz.prog Go.Proofs.Tryz.f132 a132 = true := by decide +kernel
theorem fn132 : FnOk Go.Proofs.Tryz.prog (cdk Go.Proofs.Tryz.prog) (.d (.d (.c (.a .z)))) a132 := fnOk_of (k := .d (.d (.c (.a .z)))) Go.Proofs.Tryz.func132 ck132
theorem ck133 : chkFn Go.Proofs.Tryz.prog Go.Proofs.Tryz.f133 a133 = true := by decide +kernel
theorem fn133 : FnOk Go.Proofs.Tryz.prog (cdk Go.Proofs.Tryz.prog) (.a (.a (.d (.a .z)))) a133 := fnOk_of (k := .a (.a (.d (.a .z)))) Go.Proofs.Tryz.func133 ck133
theorem ck134 : chkFn Go.Proofs.Tryz.prog Go.Proofs.Tryz.f134 a134 = true := by decide +kernel
theorem fn134 : FnOk Go.Proofs.Tryz.prog (cdk Go.Proofs.Tryz.prog) (.b (.a (.d (.a .z)))) a134 := fnOk_of (k := .b (.a (.d (.a .z)))) Go.Proofs.Tryz.func134 ck134
theorem ck136 : chkFn Go.Proofs.Tryz.prog Go.Proofs.Tryz.f136 a136 = true := by decide +kernel
theorem fn136 : FnOk Go.Proofs.Tryz.prog (cdk Go.Proofs.Tryz.prog) (.d (.a (.d (.a .z)))) a136 := fnOk_of (k := .d (.a (.d (.a .z)))) Go.Proofs.Tryz.func136 ck136
theorem ck137 : chkFn Go.Proofs.Tryz.prog Go.Proofs.Tryz.f137 a137 = true := by decide +kernel
theorem fn137 : FnOk Go.Proofs.Tryz.prog (cdk Go.Proofs.Tryz.prog) (.a (.b (.d (.a .z)))) a137 := fnOk_of (k := .a (.b (.d (.a .z)))) Go.Proofs.Tryz.func137 ck137
theorem ck138 : chkFn Go.Proofs.Tryz.prog Go.Proofs.Tryz.f138 a138 = true := by decide +kernel
theorem fn138 : FnOk Go.Proofs.Tryz.prog (cdk Go.Proofs.Tryz.prog) (.b (.b (.d (.a .z)))) a138 := fnOk_of (k := .b (.b (.d (.a .z)))) Go.Proofs.Tryz.func138 ck138
theorem ck139 : chkFn Go.Proofs.Tryz.prog Go.Proofs.Tryz.f139 a139 = true := by decide +kernel
theorem fn139 : FnOk Go.Proofs.Tryz.prog (cdk Go.Proofs.Tryz.prog) (.c (.b (.d (.a .z)))) a139 := fnOk_of (k := .c (.b (.d (.a .z)))) Go.Proofs.Tryz.func139 ck139
theorem ck140 : chkFn Go.Proofs.Tryz.prog Go.Proofs.Tryz.f140 a140 = true := by decide +kernel
theorem fn140 : FnOk Go.Proofs.Tryz.prog (cdk Go.Proofs.Tryz.prog) (.d (.b (.d (.a .z)))) a140 := fnOk_of (k := .d (.b (.d (.a .z)))) Go.Proofs.Tryz.func140 ck140
theorem ck141 : chkFn Go.Proofs.Tryz.prog Go.Proofs.Tryz.f141 a141 = true := by decide +kernel
theorem fn141 : FnOk Go.Proofs.Tryz.prog (cdk Go.Proofs.Tryz.prog) (.a (.c (.d (.a .z)))) a141 := fnOk_of (k := .a (.c (.d (.a .z)))) Go.Proofs.Tryz.func141 ck141
theorem ck142 : chkFn Go.Proofs.Tryz.prog Go.Proofs.Tryz.f142 a142 = true := by decide +kernel
theorem fn142 : FnOk Go.Proofs.Tryz.prog (cdk Go.Proofs.Tryz.prog) (.b (.c (.d (.a .z)))) a142 := fnOk_of (k := .b (.c (.d (.a .z)))) Go.Proofs.Tryz.func142 ck142
theorem ck144 : chkFn Go.Proofs.Tryz.prog Go.Proofs.Tryz.f144 a144 = true := by decide +kernel
theorem fn144 : FnOk Go.Proofs.Tryz.prog (cdk Go.Proofs.Tryz.prog) (.d (.c (.d (.a .z)))) a144 := fnOk_of (k := .d (.c (.d (.a .z)))) Go.Proofs.Tryz.func144 ck144
theorem ck145 : chkFn Go.Proofs.Tryz.prog Go.Proofs.Tryz.f145 a145 = true := by decide +kernel
theorem fn145 : FnOk Go.Proofs.Tryz.prog (cdk Go.Proofs.Tryz.prog) (.a (.d (.d (.a .z)))) a145 := fnOk_of (k := .a (.d (.d (.a .z)))) Go.Proofs.Tryz.func145 ck145
theorem ck146 : chkFn Go.Proofs.Tryz.prog Go.Proofs.Tryz.f146 a146 = true := by decide +kernel
theorem fn146 : FnOk Go.Proofs.Tryz.prog (cdk Go.Proofs.Tryz.prog) (.b (.d (.d (.a .z)))) a146 := fnOk_of (k := .b (.d (.d (.a .z)))) Go.Proofs.Tryz.func146 ck146
theorem ck148 : chkFn Go.Proofs.Tryz.prog Go.Proofs.Tryz.f148 a148 = true := by decide +kernel
theorem fn148 : FnOk Go.Proofs.Tryz.prog (cdk Go.Proofs.Tryz.prog) (.d (.d (.d (.a .z)))) a148 := fnOk_of (k := .d (.d (.d (.a .z)))) Go.Proofs.Tryz.func148 ck148
theorem ck149 : chkFn Go.Proofs.Tryz.prog Go.Proofs.Tryz.f149 a149 = true := by decide +kernel
theorem fn149 : FnOk Go.Proofs.Tryz.prog (cdk Go.Proofs.Tryz.prog) (.a (.a (.a (.b .z)))) a149 := fnOk_of (k := .a (.a (.a (.b .z)))) Go.Proofs.Tryz.func149 ck149
theorem ck150 : chkFn Go.Proofs.Tryz.prog Go.Proofs.Tryz.f150 a150 = true := by decide +kernel
theorem fn150 : FnOk Go.Proofs.Tryz.prog (cdk Go.Proofs.Tryz.prog) (.b (.a (.a (.b .z)))) a150 := fnOk_of (k := .b (.a (.a (.b .z)))) Go.Proofs.Tryz.func150 ck150
theorem ck151 : chkFn Go.Proofs.Tryz.prog Go.Proofs.Tryz.f151 a151 = true := by decide +kernel
theorem fn151 : FnOk Go.Proofs.Tryz.prog (cdk Go.Proofs.Tryz.prog) (.c (.a (.a (.b .z)))) a151 := fnOk_of (k := .c (.a (.a (.b .z)))) Go.Proofs.Tryz.func151 ck151
theorem ck152 : chkFn Go.Proofs.Tryz.prog Go.Proofs.Tryz.f152 a152 = true := by decide +kernel
theorem fn152 : FnOk Go.Proofs.Tryz.prog (cdk Go.Proofs.Tryz.prog) (.d (.a (.a (.b .z)))) a152 := fnOk_of (k := .d (.a (.a (.b .z)))) Go.Proofs.Tryz.func152 ck152
theorem ck153 : chkFn Go.Proofs.Tryz.prog Go.Proofs.Tryz.f153 a153 = true := by decide +kernel
theorem fn153 : FnOk Go.Proofs.Tryz.prog (cdk Go.Proofs.Tryz.prog) (.a (.b (.a (.b .z)))) a153 := fnOk_of (k := .a (.b (.a (.b .z)))) Go.Proofs.Tryz.func153 ck153
theorem ck154 : chkFn Go.Proofs.Tryz.prog Go.Proofs.Tryz.f154 a154 = true := by decide +kernel
theorem fn154 : FnOk Go.Proofs.Tryz.prog (cdk Go.Proofs.Tryz.prog) (.b (.b (.a (.b .z)))) a154 := fnOk_of (k := .b (.b (.a (.b .z)))) Go.Proofs.Tryz.func154 ck154
theorem ck155 : chkFn Go.Proofs.Tryz.prog Go.Proofs.Tryz.f155 a155 = true := by decide +kernel
theorem fn155 : FnOk Go.Proofs.Tryz.prog (cdk Go.Proofs.Tryz.prog) (.c (.b (.a (.b .z)))) a155 := fnOk_of (k := .c (.b (.a (.b .z)))) Go.Proofs.Tryz.func155 ck155
theorem ck156 : chkFn Go.Proofs.Tryz.prog Go.Proofs.Tryz.f156 a156 = true := by decide +kernel
theorem fn156 : FnOk Go.Proofs.Tryz.prog (cdk Go.Proofs.Tryz.prog) (.d (.b (.a (.b .z)))) a156 := fnOk_of (k := .d (.b (.a (.b .z)))) Go.Proofs.Tryz.func156 ck156
theorem ck157 : chkFn Go.Proofs.Tryz.prog Go.Proofs.Tryz.f157 a157 = true := by decide +kernel
theorem fn157 : FnOk Go.Proofs.Tryz.prog (cdk Go.Proofs.Tryz.prog) (.a (.c (.a (.b .z)))) a157 := fnOk_of (k := .a (.c (.a (.b .z)))) Go.Proofs.Tryz.func157 ck157
theorem ck158 : chkFn Go.Proofs.Tryz.prog Go.Proofs.Tryz.f158 a158 = true := by decide +kernel
theorem fn158 : FnOk Go.Proofs.Tryz.prog (cdk Go.Proofs.Tryz.prog) (.b (.c (.a (.b .z)))) a158 := fnOk_of (k := .b (.c (.a (.b .z)))) Go.Proofs.Tryz.func158 ck158
theorem ck165 : chkFn Go.Proofs.Tryz.prog Go.Proofs.Tryz.f165 a165 = true := by decide +kernel
theorem fn165 : FnOk Go.Proofs.Tryz.prog (cdk Go.Proofs.Tryz.prog) (.a (.a (.b (.b .z)))) a165 := fnOk_of (k := .a (.a (.b (.b .z)))) Go.Proofs.Tryz.func165 ck165
theorem ck166 : chkFn Go.Proofs.Tryz.prog Go.Proofs.Tryz.f166 a166 = true := by decide +kernel
theorem fn166 : FnOk Go.Proofs.Tryz.prog (cdk Go.Proofs.Tryz.prog) (.b (.a (.b (.b .z)))) a166 := fnOk_of (k := .b (.a (.b (.b .z)))) Go.Proofs.Tryz.func166 ck166
theorem ck170 : chkFn Go.Proofs.Tryz.prog Go.Proofs.Tryz.f170 a170 = true := by decide +kernel
theorem fn170 : FnOk Go.Proofs.Tryz.prog (cdk Go.Proofs.Tryz.prog) (.b (.b (.b (.b .z)))) a170 := fnOk_of (k := .b (.b (.b (.b .z)))) Go.Proofs.Tryz.func170 ck170
theorem ck171 : chkFn Go.Proofs.Tryz.prog Go.Proofs.Tryz.f171 a171 = true := by decide +kernel
theorem fn171 : FnOk Go.Proofs.Tryz.prog (cdk Go.Proofs.Tryz.prog) (.c (.b (.b (.b .z)))) a171 := fnOk_of (k := .c (.b (.b (.b .z)))) Go.Proofs.Tryz.func171 ck171
theorem ck172 : chkFn Go.Proofs.Tryz.prog Go.Proofs.Tryz.f172 a172 = true := by decide +kernel
theorem fn172 : FnOk Go.Proofs.Tryz.prog (cdk Go.Proofs.Tryz.prog) (.d (.b (.b (.b .z)))) a172 := fnOk_of (k := .d (.b (.b (.b .z)))) Go.Proofs.Tryz.func172 ck172
theorem ck173 : chkFn Go.Proofs.Tryz.prog Go.Proofs.Tryz.f173 a173 = true := by decide +kernel
theorem fn173 : FnOk Go.Proofs.Tryz.prog (cdk Go.Proofs.Tryz.prog) (.a (.c (.b (.b .z)))) a173 := fnOk_of (k := .a (.c (.b (.b .z)))) Go.Proofs.Tryz.func173 ck173
theorem ck174 : chkFn Go.Proofs.Tryz.prog Go.Proofs.Tryz.f174 a174 = true := by decide +kernel
theorem fn174 : FnOk Go.Proofs.Tryz.prog (cdk Go.Proofs.Tryz.prog) (.b (.c (.b (.b .z)))) a174 := fnOk_of (k := .b (.c (.b (.b .z)))) Go.Proofs.Tryz.func174 ck174
theorem ck175 : chkFn Go.Proofs.Tryz.prog Go.Proofs.Tryz.f175 a175 = true := by decide +kernel
theorem fn175 : FnOk Go.Proofs.Tryz.prog (cdk Go.Proofs.Tryz.prog) (.c (.c (.b (.b .z)))) a175 := fnOk_of (k := .c (.c (.b (.b .z)))) Go.Proofs.Tryz.func175 ck175
theorem ck176 : chkFn Go.Proofs.Tryz.prog Go.Proofs.Tryz.f176 a176 = true := by decide +kernel
theorem fn176 : FnOk Go.Proofs.Tryz.prog (cdk Go.Proofs.Tryz.prog) (.d (.c (.b (.b .z)))) a176 := fnOk_of (k := .d (.c (.b (.b .z)))) Go.Proofs.Tryz.func176 ck176
theorem ck177 : chkFn Go.Proofs.Tryz.prog Go.Proofs.Tryz.f177 a177 = true := by decide +kernel
theorem fn177 : FnOk Go.Proofs.Tryz.prog (cdk Go.Proofs.Tryz.prog) (.a (.d (.b (.b .z)))) a177 := fnOk_of (k := .a (.d (.b (.b .z)))) Go.Proofs.Tryz.func177 ck177
theorem ck178 : chkFn Go.Proofs.Tryz.prog Go.Proofs.Tryz.f178 a178 = true := by decide +kernel
theorem fn178 : FnOk Go.Proofs.Tryz.prog (cdk Go.Proofs.Tryz.prog) (.b (.d (.b (.b .z)))) a178 := fnOk_of (k := .b (.d (.b (.b .z)))) Go.Proofs.Tryz.func178 ck178
theorem ck181 : chkFn Go.Proofs.Tryz.prog Go.Proofs.Tryz.f181 a181 = true := by decide +kernel
theorem fn181 : FnOk Go.Proofs.Tryz.prog (cdk Go.Proofs.Tryz.prog) (.a (.a (.c (.b .z)))) a181 := fnOk_of (k := .a (.a (.c (.b .z)))) Go.Proofs.Tryz.func181 ck181
theorem ck182 : chkFn Go.Proofs.Tryz.prog Go.Proofs.Tryz.f182 a182 = true := by decide +kernel
theorem fn182 : FnOk Go.Proofs.Tryz.prog (cdk Go.Proofs.Tryz.prog) (.b (.a (.c (.b .z)))) a182 := fnOk_of (k := .b (.a (.c (.b .z)))) Go.Proofs.Tryz.func182 ck182
theorem ck184 : chkFn Go.Proofs.Tryz.prog Go.Proofs.Tryz.f184 a184 = true := by decide +kernel
theorem fn184 : FnOk Go.Proofs.Tryz.prog (cdk Go.Proofs.Tryz.prog) (.d (.a (.c (.b .z)))) a184 := fnOk_of (k := .d (.a (.c (.b .z)))) Go.Proofs.Tryz.func184 ck184
theorem ck185 : chkFn Go.Proofs.Tryz.prog Go.Proofs.Tryz.f185 a185 = true := by decide +kernel
theorem fn185 : FnOk Go.Proofs.Tryz.prog (cdk Go.Proofs.Tryz.prog) (.a (.b (.c (.b .z)))) a185 := fnOk_of (k := .a (.b (.c (.b .z)))) Go.Proofs.Tryz.func185 ck185
theorem ck186 : chkFn Go.Proofs.Tryz.prog Go.Proofs.Tryz.f186 a186 = true := by decide +kernel
theorem fn186 : FnOk Go.Proofs.Tryz.prog (cdk Go.Proofs.Tryz.prog) (.b (.b (.c (.b .z)))) a186 := fnOk_of (k := .b (.b (.c (.b .z)))) Go.Proofs.Tryz.func186 ck186
theorem ck187 : chkFn Go.Proofs.Tryz.prog Go.Proofs.Tryz.f187 a187 = true := by decide +kernel
theorem fn187 : FnOk Go.Proofs.Tryz.prog (cdk Go.Proofs.Tryz.prog) (.c (.b (.c (.b .z)))) a187 := fnOk_of (k := .c (.b (.c (.b .z)))) Go.Proofs.Tryz.func187 ck187
theorem ck188 : chkFn Go.Proofs.Tryz.prog Go.Proofs.Tryz.f188 a188 = true := by decide +kernel
theorem fn188 : FnOk Go.Proofs.Tryz.prog (cdk Go.Proofs.Tryz.prog) (.d (.b (.c (.b .z)))) a188 := fnOk_of (k := .d (.b (.c (.b .z)))) Go.Proofs.Tryz.func188 ck188
theorem ck189 : chkFn Go.Proofs.Tryz.prog Go.Proofs.Tryz.f189 a189 = true := by decide +kernel
theorem fn189 : FnOk Go.Proofs.Tryz.prog (cdk Go.Proofs.Tryz.prog) (.a (.c (.c (.b .z)))) a189 := fnOk_of (k := .a (.c (.c (.b .z)))) Go.Proofs.Tryz.func189 ck189
theorem ck190 : chkFn Go.Proofs.Tryz.prog Go.Proofs.Tryz.f190 a190 = true := by decide +kernel
theorem fn190 : FnOk Go.Proofs.Tryz.prog (cdk Go.Proofs.Tryz.prog) (.b (.c (.c (.b .z)))) a190 := fnOk_of (k := .b (.c (.c (.b .z)))) Go.Proofs.Tryz.func190 ck190
theorem ck191 : chkFn Go.Proofs.Tryz.prog Go.Proofs.Tryz.f191 a191 = true := by decide +kernel
theorem fn191 : FnOk Go.Proofs.Tryz.prog (cdk Go.Proofs.Tryz.prog) (.c (.c (.c (.b .z)))) a191 := fnOk_of (k := .c (.c (.c (.b .z)))) Go.Proofs.Tryz.func191 ck191
theorem ck192 : chkFn Go.Proofs.Tryz.prog Go.Proofs.Tryz.f192 a192 = true := by decide +kernel
theorem fn192 : FnOk Go.Proofs.Tryz.prog (cdk Go.Proofs.Tryz.prog) (.d (.c (.c (.b .z)))) a192 := fnOk_of (k := .d (.c (.c (.b .z)))) Go.Proofs.Tryz.func192 ck192
theorem ck193 : chkFn Go.Proofs.Tryz.prog Go.Proofs.Tryz.f193 a193 = true := by decide +kernel
theorem fn193 : FnOk Go.Proofs.Tryz.prog (cdk Go.Proofs.Tryz.prog) (.a (.d (.c (.b .z)))) a193 := fnOk_of (k := .a (.d (.c (.b .z)))) Go.Proofs.Tryz.func193 ck193
theorem ck194 : chkFn Go.Proofs.Tryz.prog Go.Proofs.Tryz.f194 a194 = true := by decide +kernel
theorem fn194 : FnOk Go.Proofs.Tryz.prog (cdk Go.Proofs.Tryz.prog) (.b (.d (.c (.b .z)))) a194 := fnOk_of (k := .b (.d (.c (.b .z)))) Go.Proofs.Tryz.func194 ck194
theorem ck196 : chkFn Go.Proofs.Tryz.prog Go.Proofs.Tryz.f196 a196 = true := by decide +kernel
theorem fn196 : FnOk Go.Proofs.Tryz.prog (cdk Go.Proofs.Tryz.prog) (.d (.d (.c (.b .z)))) a196 := fnOk_of (k := .d (.d (.c (.b .z)))) Go.Proofs.Tryz.func196 ck196
end Go.Ab.Tryz
