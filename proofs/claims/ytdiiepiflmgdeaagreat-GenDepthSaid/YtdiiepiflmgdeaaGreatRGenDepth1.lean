/- GenDepth: closed runs that end in true. (Printed by mkrow.py.) -/
import Derived.Test.YtdiiepiflmgdeaaGreatD2
import Derived.Test.YtdiiepiflmgdeaaGreatA32
set_option maxRecDepth 100000
namespace Go.Ab.Tryz
open Go Go.Ab
theorem genDepth_3_f : fO tab2 20000 a7 [.res .u8 30 3, .bool false] = some (.normal, ⟨.leaf, .leaf, .z, []⟩) := by kernel_rfl
theorem genDepth_3_t : fO tab2 20000 a7 [.res .u8 30 3, .bool true] = some (.normal, ⟨.leaf, .leaf, .z, []⟩) := by kernel_rfl
theorem genDepth_4_f : fO tab2 20000 a7 [.res .u8 30 4, .bool false] = some (.normal, ⟨.leaf, .leaf, .z, []⟩) := by kernel_rfl
theorem genDepth_4_t : fO tab2 20000 a7 [.res .u8 30 4, .bool true] = some (.normal, ⟨.leaf, .leaf, .z, []⟩) := by kernel_rfl
theorem genDepth_5_f : fO tab2 20000 a7 [.res .u8 30 5, .bool false] = some (.normal, ⟨.leaf, .leaf, .z, []⟩) := by kernel_rfl
theorem genDepth_5_t : fO tab2 20000 a7 [.res .u8 30 5, .bool true] = some (.normal, ⟨.leaf, .leaf, .z, []⟩) := by kernel_rfl
end Go.Ab.Tryz
