/- VerifyUnset: closed runs that end in true. (Printed by mkrow.py.) -/
import Derived.Test.YtaeahjgeoieifaaC2
set_option maxRecDepth 100000
namespace Go.Ab.Try
open Go Go.Ab
theorem verifyUnset_f_f_f : ftrue tab2 3000 a5 [.bool false, .bool false, .bool false] = true := by decide +kernel
theorem verifyUnset_f_f_t : ftrue tab2 3000 a5 [.bool false, .bool false, .bool true] = true := by decide +kernel
theorem verifyUnset_f_t_f : ftrue tab2 3000 a5 [.bool false, .bool true, .bool false] = true := by decide +kernel
theorem verifyUnset_f_t_t : ftrue tab2 3000 a5 [.bool false, .bool true, .bool true] = true := by decide +kernel
theorem verifyUnset_t_f_f : ftrue tab2 3000 a5 [.bool true, .bool false, .bool false] = true := by decide +kernel
theorem verifyUnset_t_f_t : ftrue tab2 3000 a5 [.bool true, .bool false, .bool true] = true := by decide +kernel
theorem verifyUnset_t_t_f : ftrue tab2 3000 a5 [.bool true, .bool true, .bool false] = true := by decide +kernel
theorem verifyUnset_t_t_t : ftrue tab2 3000 a5 [.bool true, .bool true, .bool true] = true := by decide +kernel
end Go.Ab.Try
