/- What a closed run that ends in true says of the program. -/
import Derived.Test.YtdiiepiflmgdeaaGreatA30
import Derived.Test.YtdiiepiflmgdeaaGreatH2
namespace Go.Ab
open Go.RowKit (Below)
theorem calls_ftrue {P : Program} {tab : T AFunc} (hT : TabOk P (cdk P) tab) {k : K} {fn : AFunc} (hk : tab.get k = some fn) (n : Nat) {args : List AV} {vs : Array Value} (hargs : RelL M0 args vs.toList)
    (h : ftrue tab n fn args = true) (w : World) : Calls P k.num vs w fun e w' => e = .returned (.bool true) ∧ Below w.heap.size w w' := by
  obtain ⟨H, nx, he⟩ := of_ftrue h
  refine Calls.mono (calls_bool hT hk n hargs he w) fun e w' he => ?_
  cases e with
  | returned u => exact ⟨by rw [he.1], he.2⟩
  | panicked c => exact he.elim
  | outgrown => exact he.elim
end Go.Ab
