/- LinkRefuses: closed runs that end in true. (Printed by mkrow.py.) -/
import Derived.Test.YtaeahjgeoieifaaC2
set_option maxRecDepth 100000
namespace Go.Ab.Try
open Go Go.Ab
theorem linkRefuses_0 : ftrue tab2 3000 a8 [.res .u8 9 0] = true := by decide +kernel
theorem linkRefuses_1 : ftrue tab2 3000 a8 [.res .u8 9 1] = true := by decide +kernel
theorem linkRefuses_2 : ftrue tab2 3000 a8 [.res .u8 9 2] = true := by decide +kernel
theorem linkRefuses_3 : ftrue tab2 3000 a8 [.res .u8 9 3] = true := by decide +kernel
theorem linkRefuses_4 : ftrue tab2 3000 a8 [.res .u8 9 4] = true := by decide +kernel
theorem linkRefuses_5 : ftrue tab2 3000 a8 [.res .u8 9 5] = true := by decide +kernel
theorem linkRefuses_6 : ftrue tab2 3000 a8 [.res .u8 9 6] = true := by decide +kernel
theorem linkRefuses_7 : ftrue tab2 3000 a8 [.res .u8 9 7] = true := by decide +kernel
theorem linkRefuses_8 : ftrue tab2 3000 a8 [.res .u8 9 8] = true := by decide +kernel
end Go.Ab.Try
