/- LocksWays: closed runs that end in true. (Printed by mkrow.py.) -/
import Derived.Test.YtaeahjgeoieifaaC2
set_option maxRecDepth 100000
namespace Go.Ab.Try
open Go Go.Ab
theorem locksWays_f_t_0_7 : ftrue tab2 3000 a11 [.bool false, .bool true, .res .u8 1 0, .res .u8 8 7] = true := by decide +kernel
theorem locksWays_t_f_0_0 : ftrue tab2 3000 a11 [.bool true, .bool false, .res .u8 8 0, .res .u8 1 0] = true := by decide +kernel
theorem locksWays_t_f_1_0 : ftrue tab2 3000 a11 [.bool true, .bool false, .res .u8 8 1, .res .u8 1 0] = true := by decide +kernel
theorem locksWays_t_f_2_0 : ftrue tab2 3000 a11 [.bool true, .bool false, .res .u8 8 2, .res .u8 1 0] = true := by decide +kernel
theorem locksWays_t_f_3_0 : ftrue tab2 3000 a11 [.bool true, .bool false, .res .u8 8 3, .res .u8 1 0] = true := by decide +kernel
theorem locksWays_t_f_4_0 : ftrue tab2 3000 a11 [.bool true, .bool false, .res .u8 8 4, .res .u8 1 0] = true := by decide +kernel
theorem locksWays_t_f_5_0 : ftrue tab2 3000 a11 [.bool true, .bool false, .res .u8 8 5, .res .u8 1 0] = true := by decide +kernel
theorem locksWays_t_f_6_0 : ftrue tab2 3000 a11 [.bool true, .bool false, .res .u8 8 6, .res .u8 1 0] = true := by decide +kernel
end Go.Ab.Try
