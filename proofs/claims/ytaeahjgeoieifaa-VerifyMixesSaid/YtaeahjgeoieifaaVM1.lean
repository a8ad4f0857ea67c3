import Derived.Test.YtaeahjgeoieifaaC2
set_option maxRecDepth 100000
namespace Go.Ab.Try
open Go Go.Ab
theorem vm010 : isTrue (callF (run tab2 3000) a4 [.bool false, .bool true, .res .u8 6 0] .leaf .z) = true := by decide +kernel
theorem vm011 : isTrue (callF (run tab2 3000) a4 [.bool false, .bool true, .res .u8 6 1] .leaf .z) = true := by decide +kernel
theorem vm012 : isTrue (callF (run tab2 3000) a4 [.bool false, .bool true, .res .u8 6 2] .leaf .z) = true := by decide +kernel
theorem vm013 : isTrue (callF (run tab2 3000) a4 [.bool false, .bool true, .res .u8 6 3] .leaf .z) = true := by decide +kernel
theorem vm014 : isTrue (callF (run tab2 3000) a4 [.bool false, .bool true, .res .u8 6 4] .leaf .z) = true := by decide +kernel
theorem vm015 : isTrue (callF (run tab2 3000) a4 [.bool false, .bool true, .res .u8 6 5] .leaf .z) = true := by decide +kernel
end Go.Ab.Try
