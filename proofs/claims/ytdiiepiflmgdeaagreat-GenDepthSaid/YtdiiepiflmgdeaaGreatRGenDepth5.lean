/- GenDepth: closed runs that end in true. (Printed by mkrow.py.) -/
import Derived.Test.YtdiiepiflmgdeaaGreatD2
import Derived.Test.YtdiiepiflmgdeaaGreatA32
set_option maxRecDepth 100000
namespace Go.Ab.Tryz
open Go Go.Ab
theorem genDepth_15_f : fO tab2 20000 a7 [.res .u8 30 15, .bool false] = some (.normal, ⟨.leaf, .leaf, .z, []⟩) := by kernel_rfl
theorem genDepth_15_t : fO tab2 20000 a7 [.res .u8 30 15, .bool true] = some (.normal, ⟨.leaf, .leaf, .z, []⟩) := by kernel_rfl
theorem genDepth_16_f : fO tab2 20000 a7 [.res .u8 30 16, .bool false] = some (.normal, ⟨.leaf, .leaf, .z, []⟩) := by kernel_rfl
theorem genDepth_16_t : fO tab2 20000 a7 [.res .u8 30 16, .bool true] = some (.normal, ⟨.leaf, .leaf, .z, []⟩) := by kernel_rfl
theorem genDepth_17_f : fO tab2 20000 a7 [.res .u8 30 17, .bool false] = some (.normal, ⟨.leaf, .leaf, .z, []⟩) := by kernel_rfl
theorem genDepth_17_t : fO tab2 20000 a7 [.res .u8 30 17, .bool true] = some (.normal, ⟨.leaf, .leaf, .z, []⟩) := by kernel_rfl
end Go.Ab.Tryz
