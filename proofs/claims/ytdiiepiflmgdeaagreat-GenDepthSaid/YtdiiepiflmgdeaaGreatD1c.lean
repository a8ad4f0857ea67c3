/- Each function of the table is what the program has. (Printed by mkc.py.) -/
import Derived.Test.YtdiiepiflmgdeaaGreatA26
import Derived.Test.YtdiiepiflmgdeaaGreatPTryz
import Derived.Test.YtdiiepiflmgdeaaGreatProg
set_option maxRecDepth 100000
namespace Go.Ab.Tryz
open Go Go.Ab
open Go.RowKit (Below)
theorem ck197 : chkFn Go.Proofs.Tryz.prog Go.Proofs.Tryz.f197 a197 = true := by decide +kernel
theorem fn197 : FnOk Go.Proofs.Tryz.prog (cdk Go.Proofs.Tryz.prog) (.a (.a (.d (.b .z)))) a197 := fnOk_of (k := .a (.a (.d (.b .z)))) Go.Proofs.Tryz.func197 ck197
theorem ck198 : chkFn Go.Proofs.Tryz.prog Go.Proofs.Tryz.f198 a198 = true := by decide +kernel
theorem fn198 : FnOk Go.Proofs.Tryz.prog (cdk Go.Proofs.Tryz.prog) (.b (.a (.d (.b .z)))) a198 := fnOk_of (k := .b (.a (.d (.b .z)))) Go.Proofs.Tryz.func198 ck198
theorem ck199 : chkFn Go.Proofs.Tryz.prog Go.Proofs.Tryz.f199 a199 = true := by decide +kernel
theorem fn199 : FnOk Go.Proofs.Tryz.prog (cdk Go.Proofs.Tryz.prog) (.c (.a (.d (.b .z)))) a199 := fnOk_of (k := .c (.a (.d (.b .z)))) Go.Proofs.Tryz.func199 ck199
theorem ck200 : chkFn Go.Proofs.Tryz.prog Go.Proofs.Tryz.f200 a200 = true := by decide +kernel
theorem fn200 : FnOk Go.Proofs.Tryz.prog (cdk Go.Proofs.Tryz.prog) (.d (.a (.d (.b .z)))) a200 := fnOk_of (k := .d (.a (.d (.b .z)))) Go.Proofs.Tryz.func200 ck200
theorem ck201 : chkFn Go.Proofs.Tryz.prog Go.Proofs.Tryz.f201 a201 = true := by decide +kernel
theorem fn201 : FnOk Go.Proofs.Tryz.prog (cdk Go.Proofs.Tryz.prog) (.a (.b (.d (.b .z)))) a201 := fnOk_of (k := .a (.b (.d (.b .z)))) Go.Proofs.Tryz.func201 ck201
theorem ck202 : chkFn Go.Proofs.Tryz.prog Go.Proofs.Tryz.f202 a202 = true := by decide +kernel
theorem fn202 : FnOk Go.Proofs.Tryz.prog (cdk Go.Proofs.Tryz.prog) (.b (.b (.d (.b .z)))) a202 := fnOk_of (k := .b (.b (.d (.b .z)))) Go.Proofs.Tryz.func202 ck202
theorem ck203 : chkFn Go.Proofs.Tryz.prog Go.Proofs.Tryz.f203 a203 = true := by decide +kernel
theorem fn203 : FnOk Go.Proofs.Tryz.prog (cdk Go.Proofs.Tryz.prog) (.c (.b (.d (.b .z)))) a203 := fnOk_of (k := .c (.b (.d (.b .z)))) Go.Proofs.Tryz.func203 ck203
theorem ck204 : chkFn Go.Proofs.Tryz.prog Go.Proofs.Tryz.f204 a204 = true := by decide +kernel
theorem fn204 : FnOk Go.Proofs.Tryz.prog (cdk Go.Proofs.Tryz.prog) (.d (.b (.d (.b .z)))) a204 := fnOk_of (k := .d (.b (.d (.b .z)))) Go.Proofs.Tryz.func204 ck204
theorem ck205 : chkFn Go.Proofs.Tryz.prog Go.Proofs.Tryz.f205 a205 = true := by decide +kernel
theorem fn205 : FnOk Go.Proofs.Tryz.prog (cdk Go.Proofs.Tryz.prog) (.a (.c (.d (.b .z)))) a205 := fnOk_of (k := .a (.c (.d (.b .z)))) Go.Proofs.Tryz.func205 ck205
theorem ck206 : chkFn Go.Proofs.Tryz.prog Go.Proofs.Tryz.f206 a206 = true := by decide +kernel
theorem fn206 : FnOk Go.Proofs.Tryz.prog (cdk Go.Proofs.Tryz.prog) (.b (.c (.d (.b .z)))) a206 := fnOk_of (k := .b (.c (.d (.b .z)))) Go.Proofs.Tryz.func206 ck206
theorem ck207 : chkFn Go.Proofs.Tryz.prog Go.Proofs.Tryz.f207 a207 = true := by decide +kernel
theorem fn207 : FnOk Go.Proofs.Tryz.prog (cdk Go.Proofs.Tryz.prog) (.c (.c (.d (.b .z)))) a207 := fnOk_of (k := .c (.c (.d (.b .z)))) Go.Proofs.Tryz.func207 ck207
theorem ck208 : chkFn Go.Proofs.Tryz.prog Go.Proofs.Tryz.f208 a208 = true := by decide +kernel
theorem fn208 : FnOk Go.Proofs.Tryz.prog (cdk Go.Proofs.Tryz.prog) (.d (.c (.d (.b .z)))) a208 := fnOk_of (k := .d (.c (.d (.b .z)))) Go.Proofs.Tryz.func208 ck208
theorem ck209 : chkFn Go.Proofs.Tryz.prog Go.Proofs.Tryz.f209 a209 = true := by decide +kernel
theorem fn209 : FnOk Go.Proofs.Tryz.prog (cdk Go.Proofs.Tryz.prog) (.a (.d (.d (.b .z)))) a209 := fnOk_of (k := .a (.d (.d (.b .z)))) Go.Proofs.Tryz.func209 ck209
theorem ck212 : chkFn Go.Proofs.Tryz.prog Go.Proofs.Tryz.f212 a212 = true := by decide +kernel
theorem fn212 : FnOk Go.Proofs.Tryz.prog (cdk Go.Proofs.Tryz.prog) (.d (.d (.d (.b .z)))) a212 := fnOk_of (k := .d (.d (.d (.b .z)))) Go.Proofs.Tryz.func212 ck212
theorem ck214 : chkFn Go.Proofs.Tryz.prog Go.Proofs.Tryz.f214 a214 = true := by decide +kernel
theorem fn214 : FnOk Go.Proofs.Tryz.prog (cdk Go.Proofs.Tryz.prog) (.b (.a (.a (.c .z)))) a214 := fnOk_of (k := .b (.a (.a (.c .z)))) Go.Proofs.Tryz.func214 ck214
theorem ck216 : chkFn Go.Proofs.Tryz.prog Go.Proofs.Tryz.f216 a216 = true := by decide +kernel
theorem fn216 : FnOk Go.Proofs.Tryz.prog (cdk Go.Proofs.Tryz.prog) (.d (.a (.a (.c .z)))) a216 := fnOk_of (k := .d (.a (.a (.c .z)))) Go.Proofs.Tryz.func216 ck216
theorem ck225 : chkFn Go.Proofs.Tryz.prog Go.Proofs.Tryz.f225 a225 = true := by decide +kernel
theorem fn225 : FnOk Go.Proofs.Tryz.prog (cdk Go.Proofs.Tryz.prog) (.a (.d (.a (.c .z)))) a225 := fnOk_of (k := .a (.d (.a (.c .z)))) Go.Proofs.Tryz.func225 ck225
theorem ck226 : chkFn Go.Proofs.Tryz.prog Go.Proofs.Tryz.f226 a226 = true := by decide +kernel
theorem fn226 : FnOk Go.Proofs.Tryz.prog (cdk Go.Proofs.Tryz.prog) (.b (.d (.a (.c .z)))) a226 := fnOk_of (k := .b (.d (.a (.c .z)))) Go.Proofs.Tryz.func226 ck226
theorem ck227 : chkFn Go.Proofs.Tryz.prog Go.Proofs.Tryz.f227 a227 = true := by decide +kernel
theorem fn227 : FnOk Go.Proofs.Tryz.prog (cdk Go.Proofs.Tryz.prog) (.c (.d (.a (.c .z)))) a227 := fnOk_of (k := .c (.d (.a (.c .z)))) Go.Proofs.Tryz.func227 ck227
theorem ck228 : chkFn Go.Proofs.Tryz.prog Go.Proofs.Tryz.f228 a228 = true := by decide +kernel
theorem fn228 : FnOk Go.Proofs.Tryz.prog (cdk Go.Proofs.Tryz.prog) (.d (.d (.a (.c .z)))) a228 := fnOk_of (k := .d (.d (.a (.c .z)))) Go.Proofs.Tryz.func228 ck228
theorem ck231 : chkFn Go.Proofs.Tryz.prog Go.Proofs.Tryz.f231 a231 = true := by decide +kernel
theorem fn231 : FnOk Go.Proofs.Tryz.prog (cdk Go.Proofs.Tryz.prog) (.c (.a (.b (.c .z)))) a231 := fnOk_of (k := .c (.a (.b (.c .z)))) Go.Proofs.Tryz.func231 ck231
theorem ck232 : chkFn Go.Proofs.Tryz.prog Go.Proofs.Tryz.f232 a232 = true := by decide +kernel
theorem fn232 : FnOk Go.Proofs.Tryz.prog (cdk Go.Proofs.Tryz.prog) (.d (.a (.b (.c .z)))) a232 := fnOk_of (k := .d (.a (.b (.c .z)))) Go.Proofs.Tryz.func232 ck232
theorem ck234 : chkFn Go.Proofs.Tryz.prog Go.Proofs.Tryz.f234 a234 = true := by decide +kernel
theorem fn234 : FnOk Go.Proofs.Tryz.prog (cdk Go.Proofs.Tryz.prog) (.b (.b (.b (.c .z)))) a234 := fnOk_of (k := .b (.b (.b (.c .z)))) Go.Proofs.Tryz.func234 ck234
theorem ck235 : chkFn Go.Proofs.Tryz.prog Go.Proofs.Tryz.f235 a235 = true := by decide +kernel
theorem fn235 : FnOk Go.Proofs.Tryz.prog (cdk Go.Proofs.Tryz.prog) (.c (.b (.b (.c .z)))) a235 := fnOk_of (k := .c (.b (.b (.c .z)))) Go.Proofs.Tryz.func235 ck235
theorem ck236 : chkFn Go.Proofs.Tryz.prog Go.Proofs.Tryz.f236 a236 = true := by decide +kernel
theorem fn236 : FnOk Go.Proofs.Tryz.prog (cdk Go.Proofs.Tryz.prog) (.d (.b (.b (.c .z)))) a236 := fnOk_of (k := .d (.b (.b (.c .z)))) Go.Proofs.Tryz.func236 ck236
theorem ck241 : chkFn Go.Proofs.Tryz.prog Go.Proofs.Tryz.f241 a241 = true := by decide +kernel
theorem fn241 : FnOk Go.Proofs.Tryz.prog (cdk Go.Proofs.Tryz.prog) (.a (.d (.b (.c .z)))) a241 := fnOk_of (k := .a (.d (.b (.c .z)))) Go.Proofs.Tryz.func241 ck241
theorem ck248 : chkFn Go.Proofs.Tryz.prog Go.Proofs.Tryz.f248 a248 = true := by decide +kernel
theorem fn248 : FnOk Go.Proofs.Tryz.prog (cdk Go.Proofs.Tryz.prog) (.d (.a (.c (.c .z)))) a248 := fnOk_of (k := .d (.a (.c (.c .z)))) Go.Proofs.Tryz.func248 ck248
theorem ck249 : chkFn Go.Proofs.Tryz.prog Go.Proofs.Tryz.f249 a249 = true := by decide +kernel
theorem fn249 : FnOk Go.Proofs.Tryz.prog (cdk Go.Proofs.Tryz.prog) (.a (.b (.c (.c .z)))) a249 := fnOk_of (k := .a (.b (.c (.c .z)))) Go.Proofs.Tryz.func249 ck249
theorem ck250 : chkFn Go.Proofs.Tryz.prog Go.Proofs.Tryz.f250 a250 = true := by decide +kernel
theorem fn250 : FnOk Go.Proofs.Tryz.prog (cdk Go.Proofs.Tryz.prog) (.b (.b (.c (.c .z)))) a250 := fnOk_of (k := .b (.b (.c (.c .z)))) Go.Proofs.Tryz.func250 ck250
theorem ck251 : chkFn Go.Proofs.Tryz.prog Go.Proofs.Tryz.f251 a251 = true := by decide +kernel
theorem fn251 : FnOk Go.Proofs.Tryz.prog (cdk Go.Proofs.Tryz.prog) (.c (.b (.c (.c .z)))) a251 := fnOk_of (k := .c (.b (.c (.c .z)))) Go.Proofs.Tryz.func251 ck251
theorem ck252 : chkFn Go.Proofs.Tryz.prog Go.Proofs.Tryz.f252 a252 = true := by decide +kernel
theorem fn252 : FnOk Go.Proofs.Tryz.prog (cdk Go.Proofs.Tryz.prog) (.d (.b (.c (.c .z)))) a252 := fnOk_of (k := .d (.b (.c (.c .z)))) Go.Proofs.Tryz.func252 ck252
theorem ck254 : chkFn Go.Proofs.Tryz.prog Go.Proofs.Tryz.f254 a254 = true := by decide +kernel
theorem fn254 : FnOk Go.Proofs.Tryz.prog (cdk Go.Proofs.Tryz.prog) (.b (.c (.c (.c .z)))) a254 := fnOk_of (k := .b (.c (.c (.c .z)))) Go.Proofs.Tryz.func254 ck254
theorem ck255 : chkFn Go.Proofs.Tryz.prog Go.Proofs.Tryz.f255 a255 = true := by decide +kernel
theorem fn255 : FnOk Go.Proofs.Tryz.prog (cdk Go.Proofs.Tryz.prog) (.c (.c (.c (.c .z)))) a255 := fnOk_of (k := .c (.c (.c (.c .z)))) Go.Proofs.Tryz.func255 ck255
theorem ck256 : chkFn Go.Proofs.Tryz.prog Go.Proofs.Tryz.f256 a256 = true := by decide +kernel
theorem fn256 : FnOk Go.Proofs.Tryz.prog (cdk Go.Proofs.Tryz.prog) (.d (.c (.c (.c .z)))) a256 := fnOk_of (k := .d (.c (.c (.c .z)))) Go.Proofs.Tryz.func256 ck256
theorem ck257 : chkFn Go.Proofs.Tryz.prog Go.Proofs.Tryz.f257 a257 = true := by decide +kernel
theorem fn257 : FnOk Go.Proofs.Tryz.prog (cdk Go.Proofs.Tryz.prog) (.a (.d (.c (.c .z)))) a257 := fnOk_of (k := .a (.d (.c (.c .z)))) Go.Proofs.Tryz.func257 ck257
theorem ck258 : chkFn Go.Proofs.Tryz.prog Go.Proofs.Tryz.f258 a258 = true := by decide +kernel
theorem fn258 : FnOk Go.Proofs.Tryz.prog (cdk Go.Proofs.Tryz.prog) (.b (.d (.c (.c .z)))) a258 := fnOk_of (k := .b (.d (.c (.c .z)))) Go.Proofs.Tryz.func258 ck258
theorem ck260 : chkFn Go.Proofs.Tryz.prog Go.Proofs.Tryz.f260 a260 = true := by decide +kernel
theorem fn260 : FnOk Go.Proofs.Tryz.prog (cdk Go.Proofs.Tryz.prog) (.d (.d (.c (.c .z)))) a260 := fnOk_of (k := .d (.d (.c (.c .z)))) Go.Proofs.Tryz.func260 ck260
theorem ck261 : chkFn Go.Proofs.Tryz.prog Go.Proofs.Tryz.f261 a261 = true := by decide +kernel
theorem fn261 : FnOk Go.Proofs.Tryz.prog (cdk Go.Proofs.Tryz.prog) (.a (.a (.d (.c .z)))) a261 := fnOk_of (k := .a (.a (.d (.c .z)))) Go.Proofs.Tryz.func261 ck261
theorem ck262 : chkFn Go.Proofs.Tryz.prog Go.Proofs.Tryz.f262 a262 = true := by decide +kernel
theorem fn262 : FnOk Go.Proofs.Tryz.prog (cdk Go.Proofs.Tryz.prog) (.b (.a (.d (.c .z)))) a262 := fnOk_of (k := .b (.a (.d (.c .z)))) Go.Proofs.Tryz.func262 ck262
theorem ck264 : chkFn Go.Proofs.Tryz.prog Go.Proofs.Tryz.f264 a264 = true := by decide +kernel
theorem fn264 : FnOk Go.Proofs.Tryz.prog (cdk Go.Proofs.Tryz.prog) (.d (.a (.d (.c .z)))) a264 := fnOk_of (k := .d (.a (.d (.c .z)))) Go.Proofs.Tryz.func264 ck264
theorem ck266 : chkFn Go.Proofs.Tryz.prog Go.Proofs.Tryz.f266 a266 = true := by decide +kernel
theorem fn266 : FnOk Go.Proofs.Tryz.prog (cdk Go.Proofs.Tryz.prog) (.b (.b (.d (.c .z)))) a266 := fnOk_of (k := .b (.b (.d (.c .z)))) Go.Proofs.Tryz.func266 ck266
theorem ck267 : chkFn Go.Proofs.Tryz.prog Go.Proofs.Tryz.f267 a267 = true := by decide +kernel
theorem fn267 : FnOk Go.Proofs.Tryz.prog (cdk Go.Proofs.Tryz.prog) (.c (.b (.d (.c .z)))) a267 := fnOk_of (k := .c (.b (.d (.c .z)))) Go.Proofs.Tryz.func267 ck267
theorem ck273 : chkFn Go.Proofs.Tryz.prog Go.Proofs.Tryz.f273 a273 = true := by decide +kernel
theorem fn273 : FnOk Go.Proofs.Tryz.prog (cdk Go.Proofs.Tryz.prog) (.a (.d (.d (.c .z)))) a273 := fnOk_of (k := .a (.d (.d (.c .z)))) Go.Proofs.Tryz.func273 ck273
theorem ck277 : chkFn Go.Proofs.Tryz.prog Go.Proofs.Tryz.f277 a277 = true := by decide +kernel
theorem fn277 : FnOk Go.Proofs.Tryz.prog (cdk Go.Proofs.Tryz.prog) (.a (.a (.a (.d .z)))) a277 := fnOk_of (k := .a (.a (.a (.d .z)))) Go.Proofs.Tryz.func277 ck277
theorem ck280 : chkFn Go.Proofs.Tryz.prog Go.Proofs.Tryz.f280 a280 = true := by decide +kernel
theorem fn280 : FnOk Go.Proofs.Tryz.prog (cdk Go.Proofs.Tryz.prog) (.d (.a (.a (.d .z)))) a280 := fnOk_of (k := .d (.a (.a (.d .z)))) Go.Proofs.Tryz.func280 ck280
theorem ck281 : chkFn Go.Proofs.Tryz.prog Go.Proofs.Tryz.f281 a281 = true := by decide +kernel
theorem fn281 : FnOk Go.Proofs.Tryz.prog (cdk Go.Proofs.Tryz.prog) (.a (.b (.a (.d .z)))) a281 := fnOk_of (k := .a (.b (.a (.d .z)))) Go.Proofs.Tryz.func281 ck281
theorem ck282 : chkFn Go.Proofs.Tryz.prog Go.Proofs.Tryz.f282 a282 = true := by decide +kernel
theorem fn282 : FnOk Go.Proofs.Tryz.prog (cdk Go.Proofs.Tryz.prog) (.b (.b (.a (.d .z)))) a282 := fnOk_of (k := .b (.b (.a (.d .z)))) Go.Proofs.Tryz.func282 ck282
theorem ck283 : chkFn Go.Proofs.Tryz.prog Go.Proofs.Tryz.f283 a283 = true := by decide +kernel
theorem fn283 : FnOk Go.Proofs.Tryz.prog (cdk Go.Proofs.Tryz.prog) (.c (.b (.a (.d .z)))) a283 := fnOk_of (k := .c (.b (.a (.d .z)))) Go.Proofs.Tryz.func283 ck283
theorem ck284 : chkFn Go.Proofs.Tryz.prog Go.Proofs.Tryz.f284 a284 = true := by decide +kernel
theorem fn284 : FnOk Go.Proofs.Tryz.prog (cdk Go.Proofs.Tryz.prog) (.d (.b (.a (.d .z)))) a284 := fnOk_of (k := .d (.b (.a (.d .z)))) Go.Proofs.Tryz.func284 ck284
theorem ck285 : chkFn Go.Proofs.Tryz.prog Go.Proofs.Tryz.f285 a285 = true := by decide +kernel
theorem fn285 : FnOk Go.Proofs.Tryz.prog (cdk Go.Proofs.Tryz.prog) (.a (.c (.a (.d .z)))) a285 := fnOk_of (k := .a (.c (.a (.d .z)))) Go.Proofs.Tryz.func285 ck285
theorem ck286 : chkFn Go.Proofs.Tryz.prog Go.Proofs.Tryz.f286 a286 = true := by decide +kernel
theorem fn286 : FnOk Go.Proofs.Tryz.prog (cdk Go.Proofs.Tryz.prog) (.b (.c (.a (.d .z)))) a286 := fnOk_of (k := .b (.c (.a (.d .z)))) Go.Proofs.Tryz.func286 ck286
theorem ck287 : chkFn Go.Proofs.Tryz.prog Go.Proofs.Tryz.f287 a287 = true := by decide +kernel
theorem fn287 : FnOk Go.Proofs.Tryz.prog (cdk Go.Proofs.Tryz.prog) (.c (.c (.a (.d .z)))) a287 := fnOk_of (k := .c (.c (.a (.d .z)))) Go.Proofs.Tryz.func287 ck287
theorem ck288 : chkFn Go.Proofs.Tryz.prog Go.Proofs.Tryz.f288 a288 = true := by decide +kernel
theorem fn288 : FnOk Go.Proofs.Tryz.prog (cdk Go.Proofs.Tryz.prog) (.d (.c (.a (.d .z)))) a288 := fnOk_of (k := .d (.c (.a (.d .z)))) Go.Proofs.Tryz.func288 ck288
theorem ck293 : chkFn Go.Proofs.Tryz.prog Go.Proofs.Tryz.f293 a293 = true := by decide +kernel
theorem fn293 : FnOk Go.Proofs.Tryz.prog (cdk Go.Proofs.Tryz.prog) (.a (.a (.b (.d .z)))) a293 := fnOk_of (k := .a (.a (.b (.d .z)))) Go.Proofs.Tryz.func293 ck293
theorem ck294 : chkFn Go.Proofs.Tryz.prog Go.Proofs.Tryz.f294 a294 = true := by decide +kernel
theorem fn294 : FnOk Go.Proofs.Tryz.prog (cdk Go.Proofs.Tryz.prog) (.b (.a (.b (.d .z)))) a294 := fnOk_of (k := .b (.a (.b (.d .z)))) Go.Proofs.Tryz.func294 ck294
theorem ck295 : chkFn Go.Proofs.Tryz.prog Go.Proofs.Tryz.f295 a295 = true := by decide +kernel
theorem fn295 : FnOk Go.Proofs.Tryz.prog (cdk Go.Proofs.Tryz.prog) (.c (.a (.b (.d .z)))) a295 := fnOk_of (k := .c (.a (.b (.d .z)))) Go.Proofs.Tryz.func295 ck295
theorem ck296 : chkFn Go.Proofs.Tryz.prog Go.Proofs.Tryz.f296 a296 = true := by decide +kernel
theorem fn296 : FnOk Go.Proofs.Tryz.prog (cdk Go.Proofs.Tryz.prog) (.d (.a (.b (.d .z)))) a296 := fnOk_of (k := .d (.a (.b (.d .z)))) Go.Proofs.Tryz.func296 ck296
theorem ck297 : chkFn Go.Proofs.Tryz.prog Go.Proofs.Tryz.f297 a297 = true := by decide +kernel
theorem fn297 : FnOk Go.Proofs.Tryz.prog (cdk Go.Proofs.Tryz.prog) (.a (.b (.b (.d .z)))) a297 := fnOk_of (k := .a (.b (.b (.d .z)))) Go.Proofs.Tryz.func297 ck297
theorem ck299 : chkFn Go.Proofs.Tryz.prog Go.Proofs.Tryz.f299 a299 = true := by decide +kernel
theorem fn299 : FnOk Go.Proofs.Tryz.prog (cdk Go.Proofs.Tryz.prog) (.c (.b (.b (.d .z)))) a299 := fnOk_of (k := .c (.b (.b (.d .z)))) Go.Proofs.Tryz.func299 ck299
theorem ck300 : chkFn Go.Proofs.Tryz.prog Go.Proofs.Tryz.f300 a300 = true := by decide +kernel
theorem fn300 : FnOk Go.Proofs.Tryz.prog (cdk Go.Proofs.Tryz.prog) (.d (.b (.b (.d .z)))) a300 := fnOk_of (k := .d (.b (.b (.d .z)))) Go.Proofs.Tryz.func300 ck300
theorem ck301 : chkFn Go.Proofs.Tryz.prog Go.Proofs.Tryz.f301 a301 = true := by decide +kernel
theorem fn301 : FnOk Go.Proofs.Tryz.prog (cdk Go.Proofs.Tryz.prog) (.a (.c (.b (.d .z)))) a301 := fnOk_of (k := .a (.c (.b (.d .z)))) Go.Proofs.Tryz.func301 ck301
theorem ck302 : chkFn Go.Proofs.Tryz.prog Go.Proofs.Tryz.f302 a302 = true := by decide +kernel
theorem fn302 : FnOk Go.Proofs.Tryz.prog (cdk Go.Proofs.Tryz.prog) (.b (.c (.b (.d .z)))) a302 := fnOk_of (k := .b (.c (.b (.d .z)))) Go.Proofs.Tryz.func302 ck302
end Go.Ab.Tryz
