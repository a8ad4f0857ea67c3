/- Runs that end in true; what they say of the program. -/
import Derived.Test.YtaeahjgeoieifaaC1
namespace Go.Ab
open Go.RowKit (Below)

def isTrue (r : Option (AV × T AObj × K)) : Bool := match r with
  | some (.bool true, _, _) => true
  | _ => false
theorem calls_true {P : Program} {tab : T AFunc} (hT : TabOk P (cdk P) tab) {k : K} {fn : AFunc} (hk : tab.get k = some fn) (n : Nat) {args : List AV} {vs : Array Value} (hargs : RelL M0 args vs.toList)
    (h : isTrue (callF (run tab n) fn args .leaf .z) = true) (w : World) : Calls P k.num vs w fun e w' => e = .returned (.bool true) ∧ Below w.heap.size w w' := by
  unfold isTrue at h
  split at h
  · rename_i H nx he
    refine Calls.mono (calls_bool hT hk n hargs he w) fun e w' he => ?_
    cases e with
    | returned u => exact ⟨by rw [he.1], he.2⟩
    | panicked c => exact he.elim
    | outgrown => exact he.elim
  · cases h
end Go.Ab
namespace Go.Ab.Try
open Go Go.Ab
theorem run12 : isTrue (callF (run tab1 3000) a12 [] .leaf .z) = true := by decide +kernel
end Go.Ab.Try
