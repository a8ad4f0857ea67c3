/- known() of the three packages. -/
import Derived.Test.YtaeahjgeoieifaaA27
namespace Go.Ab.Try
open Go Go.Ab
open Go.RowKit (Below)
theorem run16 : isTrue (callF (run tab1 3000) a16 [] .leaf .z) = true := by decide +kernel
theorem run22 : isTrue (callF (run tab1 3000) a22 [] .leaf .z) = true := by decide +kernel
theorem known12 (w : World) : Calls Go.Proofs.Try.prog 12 #[] w fun e w' => e = .returned (.bool true) ∧ Below w.heap.size w w' :=
  calls_true tab1_ok (k := .d (.b .z)) rfl 3000 (args := []) (vs := #[]) (by simp only [RelL]) run12 w
theorem known16 (w : World) : Calls Go.Proofs.Try.prog 16 #[] w fun e w' => e = .returned (.bool true) ∧ Below w.heap.size w w' :=
  calls_true tab1_ok (k := .d (.c .z)) rfl 3000 (args := []) (vs := #[]) (by simp only [RelL]) run16 w
theorem known22 (w : World) : Calls Go.Proofs.Try.prog 22 #[] w fun e w' => e = .returned (.bool true) ∧ Below w.heap.size w w' :=
  calls_true tab1_ok (k := .b (.a (.a .z))) rfl 3000 (args := []) (vs := #[]) (by simp only [RelL]) run22 w
end Go.Ab.Try
