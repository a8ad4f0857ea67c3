/- GenLoops: closed runs that end in true. (Printed by mkrow.py.) -/
import Derived.Test.YtdiiepiflmgdeaaGreatD2
import Derived.Test.YtdiiepiflmgdeaaGreatA32
set_option maxRecDepth 100000
namespace Go.Ab.Tryz
open Go Go.Ab
theorem genLoops_0 : fO tab2 20000 a5 [.res .u8 15 0] = some (.normal, ⟨.leaf, .leaf, .z, []⟩) := by kernel_rfl
theorem genLoops_1 : fO tab2 20000 a5 [.res .u8 15 1] = some (.normal, ⟨.leaf, .leaf, .z, []⟩) := by kernel_rfl
end Go.Ab.Tryz
