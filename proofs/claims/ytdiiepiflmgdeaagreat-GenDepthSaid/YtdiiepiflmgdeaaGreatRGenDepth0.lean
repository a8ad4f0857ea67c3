/- GenDepth: closed runs that end in true. (Printed by mkrow.py.) -/
import Derived.Test.YtdiiepiflmgdeaaGreatD2
import Derived.Test.YtdiiepiflmgdeaaGreatA32
set_option maxRecDepth 100000
namespace Go.Ab.Tryz
open Go Go.Ab
theorem genDepth_0_f : fO tab2 20000 a7 [.res .u8 30 0, .bool false] = some (.normal, ⟨.leaf, .leaf, .z, []⟩) := by kernel_rfl
theorem genDepth_0_t : fO tab2 20000 a7 [.res .u8 30 0, .bool true] = some (.normal, ⟨.leaf, .leaf, .z, []⟩) := by kernel_rfl
theorem genDepth_1_f : fO tab2 20000 a7 [.res .u8 30 1, .bool false] = some (.normal, ⟨.leaf, .leaf, .z, []⟩) := by kernel_rfl
theorem genDepth_1_t : fO tab2 20000 a7 [.res .u8 30 1, .bool true] = some (.normal, ⟨.leaf, .leaf, .z, []⟩) := by kernel_rfl
theorem genDepth_2_f : fO tab2 20000 a7 [.res .u8 30 2, .bool false] = some (.normal, ⟨.leaf, .leaf, .z, []⟩) := by kernel_rfl
theorem genDepth_2_t : fO tab2 20000 a7 [.res .u8 30 2, .bool true] = some (.normal, ⟨.leaf, .leaf, .z, []⟩) := by kernel_rfl
end Go.Ab.Tryz
