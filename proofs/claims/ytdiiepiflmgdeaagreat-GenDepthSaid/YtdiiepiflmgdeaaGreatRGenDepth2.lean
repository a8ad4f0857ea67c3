/- GenDepth: closed runs that end in true. (Printed by mkrow.py.) -/
import Derived.Test.YtdiiepiflmgdeaaGreatD2
import Derived.Test.YtdiiepiflmgdeaaGreatA32
set_option maxRecDepth 100000
namespace Go.Ab.Tryz
open Go Go.Ab
theorem genDepth_6_f : fO tab2 20000 a7 [.res .u8 30 6, .bool false] = some (.normal, ⟨.leaf, .leaf, .z, []⟩) := by kernel_rfl
theorem genDepth_6_t : fO tab2 20000 a7 [.res .u8 30 6, .bool true] = some (.normal, ⟨.leaf, .leaf, .z, []⟩) := by kernel_rfl
theorem genDepth_7_f : fO tab2 20000 a7 [.res .u8 30 7, .bool false] = some (.normal, ⟨.leaf, .leaf, .z, []⟩) := by kernel_rfl
theorem genDepth_7_t : fO tab2 20000 a7 [.res .u8 30 7, .bool true] = some (.normal, ⟨.leaf, .leaf, .z, []⟩) := by kernel_rfl
theorem genDepth_8_f : fO tab2 20000 a7 [.res .u8 30 8, .bool false] = some (.normal, ⟨.leaf, .leaf, .z, []⟩) := by kernel_rfl
theorem genDepth_8_t : fO tab2 20000 a7 [.res .u8 30 8, .bool true] = some (.normal, ⟨.leaf, .leaf, .z, []⟩) := by kernel_rfl
end Go.Ab.Tryz
