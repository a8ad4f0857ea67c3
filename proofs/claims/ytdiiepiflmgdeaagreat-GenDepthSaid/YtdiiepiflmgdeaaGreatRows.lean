/-
  No cell of these rows narrows 'for every input' (looked for: loops, veiled, ifaces, maps, wideKeys, modest, calm, conditions, laid).
  DERIVED. THE GIVEN ROWS OF THIS SEAT. 6 by the template 'for every input the law returns true; each argument reads behind the call as it read before'; 0 by the template 'total and deterministic' (their statements: YtdiiepiflmgdeaaGreatTotals.lean).
  GIVEN WITH THE SEED: the statements are not yours to turn. If you find one false, say at which input.
  Laid BY PROGRAM, IN A SANDBOX (cutbox-rows.mjs): the forced cells as the released guide's own fill.sh prints them over the translation 5a24c24a7d928d1b… (all of the seat's roots in one cut). By AI agents, Wed Nov 11 2026. No macro, syntax, notation, axiom, sorry.
-/
import Derived.Test.YtdiiepiflmgdeaaGreatChecked
import GoSem.Claim
import GoSem.ClaimJoined
import GoSem.ClaimMapViews
import Derived.JoinedTies
import Derived.KernelRfl
namespace Go.Proofs.YtdiiepiflmgdeaaGreat
/- THE CELL 'sum', in the pinned program and in every row, IS THE sha256 OF THE DUMP (.gsa) THAT YtdiiepiflmgdeaaGreatProg.lean LOADS. Nothing in Lean hashes anything: it is a label: what it is worth is what the hold of that sum in a sandbox is worth. -/
noncomputable def Tryz.pinned : Pinned := { name := "ytdiiepiflmgdeaagreat", sum := "5a24c24a7d928d1b0e3288978507f771cac14430ce09007f323e4736f594b48d", checked := Tryz.checked }
namespace Rows
def none {H : Type} : Left H := { results := [], args := [] }

/-- 'loomlaw21.GenFits': WHATEVER THE INPUT: true; the input reads as it did. -/
def genFitsSpec : ChangeSpec := { name := "genFits", fn := fun _ => fun
  | [d] => { results := [.lit (.bool true)], args := [d] }
  | _ => none }
def genFitsRow : OpenClaim := { program := "ytdiiepiflmgdeaagreat", sum := "5a24c24a7d928d1b0e3288978507f771cac14430ce09007f323e4736f594b48d", func := "loom/loomlaw21.GenFits", spec := "genFits", inPlace := ["math.Float64bits", "math.Float64frombits"], unfollowed := true, recurses := true, apart := false }
def GenFitsSaid : Prop := genFitsRow.holds Tryz.pinned (OpenSpec.ofChange genFitsSpec)

/-- ITS FALSE NEIGHBOUR: 'it returns false'. Refute it at one input. -/
def genFitsWrong : ChangeSpec := { name := "genFits", fn := fun _ => fun
  | [d] => { results := [.lit (.bool false)], args := [d] }
  | _ => none }
def GenFitsWrongFalsely : Prop := genFitsRow.holds Tryz.pinned (OpenSpec.ofChange genFitsWrong)

/-- 'loomlaw21.GenMeans': WHATEVER THE INPUT: true; the input reads as it did. -/
def genMeansSpec : ChangeSpec := { name := "genMeans", fn := fun _ => fun
  | [d] => { results := [.lit (.bool true)], args := [d] }
  | _ => none }
def genMeansRow : OpenClaim := { program := "ytdiiepiflmgdeaagreat", sum := "5a24c24a7d928d1b0e3288978507f771cac14430ce09007f323e4736f594b48d", func := "loom/loomlaw21.GenMeans", spec := "genMeans", inPlace := ["math.Float64bits", "math.Float64frombits"], unfollowed := true, recurses := true, apart := false }
def GenMeansSaid : Prop := genMeansRow.holds Tryz.pinned (OpenSpec.ofChange genMeansSpec)

/-- ITS FALSE NEIGHBOUR: 'it returns false'. Refute it at one input. -/
def genMeansWrong : ChangeSpec := { name := "genMeans", fn := fun _ => fun
  | [d] => { results := [.lit (.bool false)], args := [d] }
  | _ => none }
def GenMeansWrongFalsely : Prop := genMeansRow.holds Tryz.pinned (OpenSpec.ofChange genMeansWrong)

/-- 'loomlaw21.GenLoops': WHATEVER THE INPUT: true; the input reads as it did. -/
def genLoopsSpec : ChangeSpec := { name := "genLoops", fn := fun _ => fun
  | [d] => { results := [.lit (.bool true)], args := [d] }
  | _ => none }
def genLoopsRow : OpenClaim := { program := "ytdiiepiflmgdeaagreat", sum := "5a24c24a7d928d1b0e3288978507f771cac14430ce09007f323e4736f594b48d", func := "loom/loomlaw21.GenLoops", spec := "genLoops", inPlace := ["math.Float64bits", "math.Float64frombits"], unfollowed := true, recurses := true, apart := false }
def GenLoopsSaid : Prop := genLoopsRow.holds Tryz.pinned (OpenSpec.ofChange genLoopsSpec)

/-- ITS FALSE NEIGHBOUR: 'it returns false'. Refute it at one input. -/
def genLoopsWrong : ChangeSpec := { name := "genLoops", fn := fun _ => fun
  | [d] => { results := [.lit (.bool false)], args := [d] }
  | _ => none }
def GenLoopsWrongFalsely : Prop := genLoopsRow.holds Tryz.pinned (OpenSpec.ofChange genLoopsWrong)

/-- 'loomlaw21.GenNumbers': WHATEVER THE INPUT: true; the input reads as it did. -/
def genNumbersSpec : ChangeSpec := { name := "genNumbers", fn := fun _ => fun
  | [d1, d2] => { results := [.lit (.bool true)], args := [d1, d2] }
  | _ => none }
def genNumbersRow : OpenClaim := { program := "ytdiiepiflmgdeaagreat", sum := "5a24c24a7d928d1b0e3288978507f771cac14430ce09007f323e4736f594b48d", func := "loom/loomlaw21.GenNumbers", spec := "genNumbers", inPlace := ["math.Float64bits", "math.Float64frombits"], unfollowed := true, recurses := true, apart := false }
def GenNumbersSaid : Prop := genNumbersRow.holds Tryz.pinned (OpenSpec.ofChange genNumbersSpec)

/-- ITS FALSE NEIGHBOUR: 'it returns false'. Refute it at one input. -/
def genNumbersWrong : ChangeSpec := { name := "genNumbers", fn := fun _ => fun
  | [d1, d2] => { results := [.lit (.bool false)], args := [d1, d2] }
  | _ => none }
def GenNumbersWrongFalsely : Prop := genNumbersRow.holds Tryz.pinned (OpenSpec.ofChange genNumbersWrong)

/-- 'loomlaw21.GenDepth': WHATEVER THE INPUT: true; the input reads as it did. -/
def genDepthSpec : ChangeSpec := { name := "genDepth", fn := fun _ => fun
  | [d1, d2] => { results := [.lit (.bool true)], args := [d1, d2] }
  | _ => none }
def genDepthRow : OpenClaim := { program := "ytdiiepiflmgdeaagreat", sum := "5a24c24a7d928d1b0e3288978507f771cac14430ce09007f323e4736f594b48d", func := "loom/loomlaw21.GenDepth", spec := "genDepth", inPlace := ["math.Float64bits", "math.Float64frombits"], unfollowed := true, recurses := true, apart := false }
def GenDepthSaid : Prop := genDepthRow.holds Tryz.pinned (OpenSpec.ofChange genDepthSpec)

/-- ITS FALSE NEIGHBOUR: 'it returns false'. Refute it at one input. -/
def genDepthWrong : ChangeSpec := { name := "genDepth", fn := fun _ => fun
  | [d1, d2] => { results := [.lit (.bool false)], args := [d1, d2] }
  | _ => none }
def GenDepthWrongFalsely : Prop := genDepthRow.holds Tryz.pinned (OpenSpec.ofChange genDepthWrong)

/-- 'loomlaw21.GenTries': WHATEVER THE INPUT: true; the input reads as it did. -/
def genTriesSpec : ChangeSpec := { name := "genTries", fn := fun _ => fun
  | [d1, d2] => { results := [.lit (.bool true)], args := [d1, d2] }
  | _ => none }
def genTriesRow : OpenClaim := { program := "ytdiiepiflmgdeaagreat", sum := "5a24c24a7d928d1b0e3288978507f771cac14430ce09007f323e4736f594b48d", func := "loom/loomlaw21.GenTries", spec := "genTries", inPlace := ["math.Float64bits", "math.Float64frombits"], unfollowed := true, recurses := true, apart := false }
def GenTriesSaid : Prop := genTriesRow.holds Tryz.pinned (OpenSpec.ofChange genTriesSpec)

/-- ITS FALSE NEIGHBOUR: 'it returns false'. Refute it at one input. -/
def genTriesWrong : ChangeSpec := { name := "genTries", fn := fun _ => fun
  | [d1, d2] => { results := [.lit (.bool false)], args := [d1, d2] }
  | _ => none }
def GenTriesWrongFalsely : Prop := genTriesRow.holds Tryz.pinned (OpenSpec.ofChange genTriesWrong)

/- THE SECOND FORM. 'bulk': how many values and letters a reading holds, each counted each time it is reached (what is shared counts as often as it is met; a slice's spare places count too). A statement '..UptoSaid' is the law's where the arguments, and the package variables that the reading takes, are together of bulk at most 1048576: NARROWER than '..Said'. Prove '..Said' where nothing that the law and all that it calls make is longer than what came in: it says more and counts as full. Else prove '..UptoSaid'. A law counts once. -/
mutual
def uptoBulk {H : Type} : DataW H → Nat
  | .lit (.string bytes) => bytes.length + 1
  | .lit _ => 1
  | .nil => 1
  | .ptr d => uptoBulk d + 1
  | .slice elems spare => uptoBulkAll elems + uptoBulkAll spare + 1
  | .agg parts => uptoBulkAll parts + 1
  | .iface _ d => uptoBulk d + 1
  | .map entries => uptoBulkEntries entries + 1
  | .held _ => 1
def uptoBulkAll {H : Type} : List (DataW H) → Nat
  | [] => 0
  | d :: r => uptoBulk d + uptoBulkAll r
def uptoBulkEntries {H : Type} : List (Lit × DataW H) → Nat
  | [] => 0
  | x :: r => uptoBulkEntry x + uptoBulkEntries r
def uptoBulkEntry {H : Type} : Lit × DataW H → Nat
  | (.string bytes, d) => bytes.length + uptoBulk d + 1
  | (_, d) => uptoBulk d + 1
 end
def uptoSmall : (H : Type) → List (DataW H) → Bool := fun _ ds => decide (uptoBulkAll ds ≤ 1048576)
def OpenSpec.upto (s : _root_.Go.ChangeSpec) : _root_.Go.OpenSpec := { _root_.Go.OpenSpec.ofChange s with cond := some uptoSmall }

/-- 'loomlaw21.GenFits', WHERE WHAT IT READS IS OF BULK AT MOST 1048576: true; the input reads as it did. -/
def genFitsUptoRow : OpenClaim := { program := "ytdiiepiflmgdeaagreat", sum := "5a24c24a7d928d1b0e3288978507f771cac14430ce09007f323e4736f594b48d", func := "loom/loomlaw21.GenFits", spec := "genFits", inPlace := ["math.Float64bits", "math.Float64frombits"], unfollowed := true, recurses := true, apart := false, narrowed := true }
def GenFitsUptoSaid : Prop := genFitsUptoRow.holds Tryz.pinned (OpenSpec.upto genFitsSpec)

/-- 'loomlaw21.GenMeans', WHERE WHAT IT READS IS OF BULK AT MOST 1048576: true; the input reads as it did. -/
def genMeansUptoRow : OpenClaim := { program := "ytdiiepiflmgdeaagreat", sum := "5a24c24a7d928d1b0e3288978507f771cac14430ce09007f323e4736f594b48d", func := "loom/loomlaw21.GenMeans", spec := "genMeans", inPlace := ["math.Float64bits", "math.Float64frombits"], unfollowed := true, recurses := true, apart := false, narrowed := true }
def GenMeansUptoSaid : Prop := genMeansUptoRow.holds Tryz.pinned (OpenSpec.upto genMeansSpec)

/-- 'loomlaw21.GenLoops', WHERE WHAT IT READS IS OF BULK AT MOST 1048576: true; the input reads as it did. -/
def genLoopsUptoRow : OpenClaim := { program := "ytdiiepiflmgdeaagreat", sum := "5a24c24a7d928d1b0e3288978507f771cac14430ce09007f323e4736f594b48d", func := "loom/loomlaw21.GenLoops", spec := "genLoops", inPlace := ["math.Float64bits", "math.Float64frombits"], unfollowed := true, recurses := true, apart := false, narrowed := true }
def GenLoopsUptoSaid : Prop := genLoopsUptoRow.holds Tryz.pinned (OpenSpec.upto genLoopsSpec)

/-- 'loomlaw21.GenNumbers', WHERE WHAT IT READS IS OF BULK AT MOST 1048576: true; the input reads as it did. -/
def genNumbersUptoRow : OpenClaim := { program := "ytdiiepiflmgdeaagreat", sum := "5a24c24a7d928d1b0e3288978507f771cac14430ce09007f323e4736f594b48d", func := "loom/loomlaw21.GenNumbers", spec := "genNumbers", inPlace := ["math.Float64bits", "math.Float64frombits"], unfollowed := true, recurses := true, apart := false, narrowed := true }
def GenNumbersUptoSaid : Prop := genNumbersUptoRow.holds Tryz.pinned (OpenSpec.upto genNumbersSpec)

/-- 'loomlaw21.GenDepth', WHERE WHAT IT READS IS OF BULK AT MOST 1048576: true; the input reads as it did. -/
def genDepthUptoRow : OpenClaim := { program := "ytdiiepiflmgdeaagreat", sum := "5a24c24a7d928d1b0e3288978507f771cac14430ce09007f323e4736f594b48d", func := "loom/loomlaw21.GenDepth", spec := "genDepth", inPlace := ["math.Float64bits", "math.Float64frombits"], unfollowed := true, recurses := true, apart := false, narrowed := true }
def GenDepthUptoSaid : Prop := genDepthUptoRow.holds Tryz.pinned (OpenSpec.upto genDepthSpec)

/-- 'loomlaw21.GenTries', WHERE WHAT IT READS IS OF BULK AT MOST 1048576: true; the input reads as it did. -/
def genTriesUptoRow : OpenClaim := { program := "ytdiiepiflmgdeaagreat", sum := "5a24c24a7d928d1b0e3288978507f771cac14430ce09007f323e4736f594b48d", func := "loom/loomlaw21.GenTries", spec := "genTries", inPlace := ["math.Float64bits", "math.Float64frombits"], unfollowed := true, recurses := true, apart := false, narrowed := true }
def GenTriesUptoSaid : Prop := genTriesUptoRow.holds Tryz.pinned (OpenSpec.upto genTriesSpec)

end Rows
end Go.Proofs.YtdiiepiflmgdeaaGreat
