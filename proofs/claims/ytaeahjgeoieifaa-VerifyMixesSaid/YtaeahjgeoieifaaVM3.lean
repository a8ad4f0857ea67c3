import Derived.Test.YtaeahjgeoieifaaC2
set_option maxRecDepth 100000
namespace Go.Ab.Try
open Go Go.Ab
theorem vm110 : isTrue (callF (run tab2 3000) a4 [.bool true, .bool true, .res .u8 6 0] .leaf .z) = true := by decide +kernel
theorem vm111 : isTrue (callF (run tab2 3000) a4 [.bool true, .bool true, .res .u8 6 1] .leaf .z) = true := by decide +kernel
theorem vm112 : isTrue (callF (run tab2 3000) a4 [.bool true, .bool true, .res .u8 6 2] .leaf .z) = true := by decide +kernel
theorem vm113 : isTrue (callF (run tab2 3000) a4 [.bool true, .bool true, .res .u8 6 3] .leaf .z) = true := by decide +kernel
theorem vm114 : isTrue (callF (run tab2 3000) a4 [.bool true, .bool true, .res .u8 6 4] .leaf .z) = true := by decide +kernel
theorem vm115 : isTrue (callF (run tab2 3000) a4 [.bool true, .bool true, .res .u8 6 5] .leaf .z) = true := by decide +kernel
end Go.Ab.Try
