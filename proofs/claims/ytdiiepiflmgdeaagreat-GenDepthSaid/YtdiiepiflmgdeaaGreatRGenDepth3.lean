/- GenDepth: closed runs that end in true. (Printed by mkrow.py.) -/
import Derived.Test.YtdiiepiflmgdeaaGreatD2
import Derived.Test.YtdiiepiflmgdeaaGreatA32
set_option maxRecDepth 100000
namespace Go.Ab.Tryz
open Go Go.Ab
theorem genDepth_9_f : fO tab2 20000 a7 [.res .u8 30 9, .bool false] = some (.normal, ⟨.leaf, .leaf, .z, []⟩) := by kernel_rfl
theorem genDepth_9_t : fO tab2 20000 a7 [.res .u8 30 9, .bool true] = some (.normal, ⟨.leaf, .leaf, .z, []⟩) := by kernel_rfl
theorem genDepth_10_f : fO tab2 20000 a7 [.res .u8 30 10, .bool false] = some (.normal, ⟨.leaf, .leaf, .z, []⟩) := by kernel_rfl
theorem genDepth_10_t : fO tab2 20000 a7 [.res .u8 30 10, .bool true] = some (.normal, ⟨.leaf, .leaf, .z, []⟩) := by kernel_rfl
theorem genDepth_11_f : fO tab2 20000 a7 [.res .u8 30 11, .bool false] = some (.normal, ⟨.leaf, .leaf, .z, []⟩) := by kernel_rfl
theorem genDepth_11_t : fO tab2 20000 a7 [.res .u8 30 11, .bool true] = some (.normal, ⟨.leaf, .leaf, .z, []⟩) := by kernel_rfl
end Go.Ab.Tryz
