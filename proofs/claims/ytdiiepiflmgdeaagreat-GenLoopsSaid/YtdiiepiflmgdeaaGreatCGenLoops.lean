/- GenLoops: the closed facts of its row. (Printed by mkrowg.py.) -/
import Derived.Test.YtdiiepiflmgdeaaGreatRows
import Derived.WalkKit
import Derived.ProofKit
import Derived.OpenShut
namespace Go.Proofs.YtdiiepiflmgdeaaGreat.genLoops
open Go.ChangeShapes Go.WideShapes Go.ChangeAt Go.RowKit
theorem andT {a b : Bool} (h1 : a = true) (h2 : b = true) : (a && b) = true := by rw [h1, h2]; rfl
set_option maxHeartbeats 40000000 in
theorem closed : joinedFacts Tryz.prog 5 Tryz.f5 Rows.genLoopsSpec Rows.genLoopsRow = true := by
  unfold joinedFacts
  repeat' with_reducible refine andT ?_ ?_
  all_goals as_aux_lemma => kernel_rfl
theorem nm : Tryz.prog.funcNamed Rows.genLoopsRow.func = some 5 := by kernel_rfl
theorem inst : Tryz.f5.isInstance Tryz.prog Rows.genLoopsRow.origin Rows.genLoopsRow.targs := of_decide_eq_true (by kernel_rfl)
end Go.Proofs.YtdiiepiflmgdeaaGreat.genLoops
