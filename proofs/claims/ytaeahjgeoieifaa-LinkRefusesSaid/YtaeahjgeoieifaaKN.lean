/- known() of the three packages returns true. -/
import Derived.Test.YtaeahjgeoieifaaA31
import Derived.Test.YtaeahjgeoieifaaC1
set_option maxRecDepth 100000
namespace Go.Ab.Try
open Go Go.Ab
open Go.RowKit (Below)
theorem run12 : ftrue tab1 3000 a12 [] = true := by decide +kernel
theorem run16 : ftrue tab1 3000 a16 [] = true := by decide +kernel
theorem run22 : ftrue tab1 3000 a22 [] = true := by decide +kernel
theorem known12 (w : World) : Calls Go.Proofs.Try.prog 12 #[] w fun e w' => e = .returned (.bool true) ∧ Below w.heap.size w w' :=
  calls_ftrue tab1_ok (k := .d (.b .z)) rfl 3000 (args := []) (vs := #[]) relL_nil run12 w
theorem known16 (w : World) : Calls Go.Proofs.Try.prog 16 #[] w fun e w' => e = .returned (.bool true) ∧ Below w.heap.size w w' :=
  calls_ftrue tab1_ok (k := .d (.c .z)) rfl 3000 (args := []) (vs := #[]) relL_nil run16 w
theorem known22 (w : World) : Calls Go.Proofs.Try.prog 22 #[] w fun e w' => e = .returned (.bool true) ∧ Below w.heap.size w w' :=
  calls_ftrue tab1_ok (k := .b (.a (.a .z))) rfl 3000 (args := []) (vs := #[]) relL_nil run22 w
end Go.Ab.Try
