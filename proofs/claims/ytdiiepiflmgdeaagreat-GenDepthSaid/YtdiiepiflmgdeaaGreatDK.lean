/- known() returns true. (Printed by mkc.py.) -/
import Derived.Test.YtdiiepiflmgdeaaGreatA31
import Derived.Test.YtdiiepiflmgdeaaGreatD1
set_option maxRecDepth 100000
namespace Go.Ab.Tryz
open Go Go.Ab
open Go.RowKit (Below)
theorem run9 : ftrue tab1 20000 a9 [] = true := by decide +kernel
theorem known9 (w : World) : Calls Go.Proofs.Tryz.prog 9 #[] w fun e w' => e = .returned (.bool true) ∧ Below w.heap.size w w' :=
  calls_ftrue tab1_ok (k := .a (.b .z)) rfl 20000 (args := []) (vs := #[]) relL_nil run9 w
end Go.Ab.Tryz
