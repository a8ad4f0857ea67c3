/- A closed run that ends in true, held against its end by the kernel alone. -/
import Derived.Test.YtdiiepiflmgdeaaGreatA31
import Derived.KernelRfl
namespace Go.Ab
open Go.RowKit (Below)
noncomputable def fO (P : T AFunc) (n : Nat) (fn : AFunc) (args : List AV) : Om := apK (callH fn (mapL .c args)) (frun P n) .leaf .leaf .z (fun v _ _ => okTrue v)
theorem ftrue_of_fO {P : T AFunc} {n : Nat} {fn : AFunc} {args : List AV} (h : fO P n fn args = some (.normal, ⟨.leaf, .leaf, .z, []⟩)) : ftrue P n fn args = true := by
  show isSomeO (fO P n fn args) = true
  rw [h]
  rfl
theorem calls_fO {P : Program} {tab : T AFunc} (hT : TabOk P (cdk P) tab) {k : K} {fn : AFunc} (hk : tab.get k = some fn) (n : Nat) {args : List AV} {vs : Array Value} (hargs : RelL M0 args vs.toList)
    (h : fO tab n fn args = some (.normal, ⟨.leaf, .leaf, .z, []⟩)) (w : World) : Calls P k.num vs w fun e w' => e = .returned (.bool true) ∧ Below w.heap.size w w' :=
  calls_ftrue hT hk n hargs (ftrue_of_fO h) w
end Go.Ab
