/- LocksWays: closed runs that end in true. (Printed by mkrow.py.) -/
import Derived.Test.YtaeahjgeoieifaaC2
set_option maxRecDepth 100000
namespace Go.Ab.Try
open Go Go.Ab
theorem locksWays_t_t_7_7 : ftrue tab2 3000 a11 [.bool true, .bool true, .res .u8 8 7, .res .u8 8 7] = true := by decide +kernel
end Go.Ab.Try
