/- LocksWays: closed runs that end in true. (Printed by mkrow.py.) -/
import Derived.Test.YtaeahjgeoieifaaC2
set_option maxRecDepth 100000
namespace Go.Ab.Try
open Go Go.Ab
theorem locksWays_f_f_0_0 : ftrue tab2 3000 a11 [.bool false, .bool false, .res .u8 1 0, .res .u8 1 0] = true := by decide +kernel
theorem locksWays_f_t_0_0 : ftrue tab2 3000 a11 [.bool false, .bool true, .res .u8 1 0, .res .u8 8 0] = true := by decide +kernel
theorem locksWays_f_t_0_1 : ftrue tab2 3000 a11 [.bool false, .bool true, .res .u8 1 0, .res .u8 8 1] = true := by decide +kernel
theorem locksWays_f_t_0_2 : ftrue tab2 3000 a11 [.bool false, .bool true, .res .u8 1 0, .res .u8 8 2] = true := by decide +kernel
theorem locksWays_f_t_0_3 : ftrue tab2 3000 a11 [.bool false, .bool true, .res .u8 1 0, .res .u8 8 3] = true := by decide +kernel
theorem locksWays_f_t_0_4 : ftrue tab2 3000 a11 [.bool false, .bool true, .res .u8 1 0, .res .u8 8 4] = true := by decide +kernel
theorem locksWays_f_t_0_5 : ftrue tab2 3000 a11 [.bool false, .bool true, .res .u8 1 0, .res .u8 8 5] = true := by decide +kernel
theorem locksWays_f_t_0_6 : ftrue tab2 3000 a11 [.bool false, .bool true, .res .u8 1 0, .res .u8 8 6] = true := by decide +kernel
end Go.Ab.Try
