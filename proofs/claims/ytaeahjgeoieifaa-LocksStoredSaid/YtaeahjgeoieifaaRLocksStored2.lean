/- LocksStored: closed runs that end in true. (Printed by mkrow.py.) -/
import Derived.Test.YtaeahjgeoieifaaC2
set_option maxRecDepth 100000
namespace Go.Ab.Try
open Go Go.Ab
theorem locksStored_2_0 : ftrue tab2 3000 a10 [.res .u8 8 2, .res .u8 8 0] = true := by decide +kernel
theorem locksStored_2_1 : ftrue tab2 3000 a10 [.res .u8 8 2, .res .u8 8 1] = true := by decide +kernel
theorem locksStored_2_2 : ftrue tab2 3000 a10 [.res .u8 8 2, .res .u8 8 2] = true := by decide +kernel
theorem locksStored_2_3 : ftrue tab2 3000 a10 [.res .u8 8 2, .res .u8 8 3] = true := by decide +kernel
theorem locksStored_2_4 : ftrue tab2 3000 a10 [.res .u8 8 2, .res .u8 8 4] = true := by decide +kernel
theorem locksStored_2_5 : ftrue tab2 3000 a10 [.res .u8 8 2, .res .u8 8 5] = true := by decide +kernel
theorem locksStored_2_6 : ftrue tab2 3000 a10 [.res .u8 8 2, .res .u8 8 6] = true := by decide +kernel
theorem locksStored_2_7 : ftrue tab2 3000 a10 [.res .u8 8 2, .res .u8 8 7] = true := by decide +kernel
end Go.Ab.Try
