/- LocksWays: closed runs that end in true. (Printed by mkrow.py.) -/
import Derived.Test.YtaeahjgeoieifaaC2
set_option maxRecDepth 100000
namespace Go.Ab.Try
open Go Go.Ab
theorem locksWays_t_t_2_7 : ftrue tab2 3000 a11 [.bool true, .bool true, .res .u8 8 2, .res .u8 8 7] = true := by decide +kernel
theorem locksWays_t_t_3_0 : ftrue tab2 3000 a11 [.bool true, .bool true, .res .u8 8 3, .res .u8 8 0] = true := by decide +kernel
theorem locksWays_t_t_3_1 : ftrue tab2 3000 a11 [.bool true, .bool true, .res .u8 8 3, .res .u8 8 1] = true := by decide +kernel
theorem locksWays_t_t_3_2 : ftrue tab2 3000 a11 [.bool true, .bool true, .res .u8 8 3, .res .u8 8 2] = true := by decide +kernel
theorem locksWays_t_t_3_3 : ftrue tab2 3000 a11 [.bool true, .bool true, .res .u8 8 3, .res .u8 8 3] = true := by decide +kernel
theorem locksWays_t_t_3_4 : ftrue tab2 3000 a11 [.bool true, .bool true, .res .u8 8 3, .res .u8 8 4] = true := by decide +kernel
theorem locksWays_t_t_3_5 : ftrue tab2 3000 a11 [.bool true, .bool true, .res .u8 8 3, .res .u8 8 5] = true := by decide +kernel
theorem locksWays_t_t_3_6 : ftrue tab2 3000 a11 [.bool true, .bool true, .res .u8 8 3, .res .u8 8 6] = true := by decide +kernel
end Go.Ab.Try
