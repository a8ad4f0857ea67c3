/- LocksStored: a local whose object is locked is not stored to, others are: every input answers true. No condition. -/
import Derived.Test.YtaeahjgeoieifaaA31
import Derived.Test.YtaeahjgeoieifaaRLocksStored0
import Derived.Test.YtaeahjgeoieifaaRLocksStored1
import Derived.Test.YtaeahjgeoieifaaRLocksStored2
import Derived.Test.YtaeahjgeoieifaaRLocksStored3
import Derived.Test.YtaeahjgeoieifaaRLocksStored4
import Derived.Test.YtaeahjgeoieifaaRLocksStored5
import Derived.Test.YtaeahjgeoieifaaRLocksStored6
import Derived.Test.YtaeahjgeoieifaaRLocksStored7
import Derived.Test.YtaeahjgeoieifaaRows
import Derived.WalkKit
import Derived.ProofKit
import Derived.OpenShut
namespace Go.Proofs.Ytaeahjgeoieifaa.locksStored
open Go.ChangeShapes Go.WideShapes Go.ChangeAt Go.RowKit Go.Ab Go.Ab.Try

theorem own : ownKnob Try.prog.godebug = none := by kernel_rfl

theorem small8 (n : Nat) (h : n < 8) : n = 0 ∨ n = 1 ∨ n = 2 ∨ n = 3 ∨ n = 4 ∨ n = 5 ∨ n = 6 ∨ n = 7 := by omega
theorem walk (a0 : Int) (a1 : Int) (w0 : (Lit.int .u8 a0).wf = true) (w1 : (Lit.int .u8 a1).wf = true) (w : World) :
    Calls Try.prog 10 #[.int .u8 a0, .int .u8 a1] w fun e w' => e = .returned (.bool true) ∧ Below w.heap.size w w' := by
  rcases small8 (a0.toNat % 8) (Nat.mod_lt _ (by omega)) with h0 | h0 | h0 | h0 | h0 | h0 | h0 | h0
  · rcases small8 (a1.toNat % 8) (Nat.mod_lt _ (by omega)) with h1 | h1 | h1 | h1 | h1 | h1 | h1 | h1
    · exact calls_ftrue tab2_ok (k := .b (.b .z)) rfl 3000 (args := [.res .u8 8 0, .res .u8 8 0]) (relL_cons (rel_u8_of w0 h0) (relL_cons (rel_u8_of w1 h1) relL_nil)) locksStored_0_0 w
    · exact calls_ftrue tab2_ok (k := .b (.b .z)) rfl 3000 (args := [.res .u8 8 0, .res .u8 8 1]) (relL_cons (rel_u8_of w0 h0) (relL_cons (rel_u8_of w1 h1) relL_nil)) locksStored_0_1 w
    · exact calls_ftrue tab2_ok (k := .b (.b .z)) rfl 3000 (args := [.res .u8 8 0, .res .u8 8 2]) (relL_cons (rel_u8_of w0 h0) (relL_cons (rel_u8_of w1 h1) relL_nil)) locksStored_0_2 w
    · exact calls_ftrue tab2_ok (k := .b (.b .z)) rfl 3000 (args := [.res .u8 8 0, .res .u8 8 3]) (relL_cons (rel_u8_of w0 h0) (relL_cons (rel_u8_of w1 h1) relL_nil)) locksStored_0_3 w
    · exact calls_ftrue tab2_ok (k := .b (.b .z)) rfl 3000 (args := [.res .u8 8 0, .res .u8 8 4]) (relL_cons (rel_u8_of w0 h0) (relL_cons (rel_u8_of w1 h1) relL_nil)) locksStored_0_4 w
    · exact calls_ftrue tab2_ok (k := .b (.b .z)) rfl 3000 (args := [.res .u8 8 0, .res .u8 8 5]) (relL_cons (rel_u8_of w0 h0) (relL_cons (rel_u8_of w1 h1) relL_nil)) locksStored_0_5 w
    · exact calls_ftrue tab2_ok (k := .b (.b .z)) rfl 3000 (args := [.res .u8 8 0, .res .u8 8 6]) (relL_cons (rel_u8_of w0 h0) (relL_cons (rel_u8_of w1 h1) relL_nil)) locksStored_0_6 w
    · exact calls_ftrue tab2_ok (k := .b (.b .z)) rfl 3000 (args := [.res .u8 8 0, .res .u8 8 7]) (relL_cons (rel_u8_of w0 h0) (relL_cons (rel_u8_of w1 h1) relL_nil)) locksStored_0_7 w
  · rcases small8 (a1.toNat % 8) (Nat.mod_lt _ (by omega)) with h1 | h1 | h1 | h1 | h1 | h1 | h1 | h1
    · exact calls_ftrue tab2_ok (k := .b (.b .z)) rfl 3000 (args := [.res .u8 8 1, .res .u8 8 0]) (relL_cons (rel_u8_of w0 h0) (relL_cons (rel_u8_of w1 h1) relL_nil)) locksStored_1_0 w
    · exact calls_ftrue tab2_ok (k := .b (.b .z)) rfl 3000 (args := [.res .u8 8 1, .res .u8 8 1]) (relL_cons (rel_u8_of w0 h0) (relL_cons (rel_u8_of w1 h1) relL_nil)) locksStored_1_1 w
    · exact calls_ftrue tab2_ok (k := .b (.b .z)) rfl 3000 (args := [.res .u8 8 1, .res .u8 8 2]) (relL_cons (rel_u8_of w0 h0) (relL_cons (rel_u8_of w1 h1) relL_nil)) locksStored_1_2 w
    · exact calls_ftrue tab2_ok (k := .b (.b .z)) rfl 3000 (args := [.res .u8 8 1, .res .u8 8 3]) (relL_cons (rel_u8_of w0 h0) (relL_cons (rel_u8_of w1 h1) relL_nil)) locksStored_1_3 w
    · exact calls_ftrue tab2_ok (k := .b (.b .z)) rfl 3000 (args := [.res .u8 8 1, .res .u8 8 4]) (relL_cons (rel_u8_of w0 h0) (relL_cons (rel_u8_of w1 h1) relL_nil)) locksStored_1_4 w
    · exact calls_ftrue tab2_ok (k := .b (.b .z)) rfl 3000 (args := [.res .u8 8 1, .res .u8 8 5]) (relL_cons (rel_u8_of w0 h0) (relL_cons (rel_u8_of w1 h1) relL_nil)) locksStored_1_5 w
    · exact calls_ftrue tab2_ok (k := .b (.b .z)) rfl 3000 (args := [.res .u8 8 1, .res .u8 8 6]) (relL_cons (rel_u8_of w0 h0) (relL_cons (rel_u8_of w1 h1) relL_nil)) locksStored_1_6 w
    · exact calls_ftrue tab2_ok (k := .b (.b .z)) rfl 3000 (args := [.res .u8 8 1, .res .u8 8 7]) (relL_cons (rel_u8_of w0 h0) (relL_cons (rel_u8_of w1 h1) relL_nil)) locksStored_1_7 w
  · rcases small8 (a1.toNat % 8) (Nat.mod_lt _ (by omega)) with h1 | h1 | h1 | h1 | h1 | h1 | h1 | h1
    · exact calls_ftrue tab2_ok (k := .b (.b .z)) rfl 3000 (args := [.res .u8 8 2, .res .u8 8 0]) (relL_cons (rel_u8_of w0 h0) (relL_cons (rel_u8_of w1 h1) relL_nil)) locksStored_2_0 w
    · exact calls_ftrue tab2_ok (k := .b (.b .z)) rfl 3000 (args := [.res .u8 8 2, .res .u8 8 1]) (relL_cons (rel_u8_of w0 h0) (relL_cons (rel_u8_of w1 h1) relL_nil)) locksStored_2_1 w
    · exact calls_ftrue tab2_ok (k := .b (.b .z)) rfl 3000 (args := [.res .u8 8 2, .res .u8 8 2]) (relL_cons (rel_u8_of w0 h0) (relL_cons (rel_u8_of w1 h1) relL_nil)) locksStored_2_2 w
    · exact calls_ftrue tab2_ok (k := .b (.b .z)) rfl 3000 (args := [.res .u8 8 2, .res .u8 8 3]) (relL_cons (rel_u8_of w0 h0) (relL_cons (rel_u8_of w1 h1) relL_nil)) locksStored_2_3 w
    · exact calls_ftrue tab2_ok (k := .b (.b .z)) rfl 3000 (args := [.res .u8 8 2, .res .u8 8 4]) (relL_cons (rel_u8_of w0 h0) (relL_cons (rel_u8_of w1 h1) relL_nil)) locksStored_2_4 w
    · exact calls_ftrue tab2_ok (k := .b (.b .z)) rfl 3000 (args := [.res .u8 8 2, .res .u8 8 5]) (relL_cons (rel_u8_of w0 h0) (relL_cons (rel_u8_of w1 h1) relL_nil)) locksStored_2_5 w
    · exact calls_ftrue tab2_ok (k := .b (.b .z)) rfl 3000 (args := [.res .u8 8 2, .res .u8 8 6]) (relL_cons (rel_u8_of w0 h0) (relL_cons (rel_u8_of w1 h1) relL_nil)) locksStored_2_6 w
    · exact calls_ftrue tab2_ok (k := .b (.b .z)) rfl 3000 (args := [.res .u8 8 2, .res .u8 8 7]) (relL_cons (rel_u8_of w0 h0) (relL_cons (rel_u8_of w1 h1) relL_nil)) locksStored_2_7 w
  · rcases small8 (a1.toNat % 8) (Nat.mod_lt _ (by omega)) with h1 | h1 | h1 | h1 | h1 | h1 | h1 | h1
    · exact calls_ftrue tab2_ok (k := .b (.b .z)) rfl 3000 (args := [.res .u8 8 3, .res .u8 8 0]) (relL_cons (rel_u8_of w0 h0) (relL_cons (rel_u8_of w1 h1) relL_nil)) locksStored_3_0 w
    · exact calls_ftrue tab2_ok (k := .b (.b .z)) rfl 3000 (args := [.res .u8 8 3, .res .u8 8 1]) (relL_cons (rel_u8_of w0 h0) (relL_cons (rel_u8_of w1 h1) relL_nil)) locksStored_3_1 w
    · exact calls_ftrue tab2_ok (k := .b (.b .z)) rfl 3000 (args := [.res .u8 8 3, .res .u8 8 2]) (relL_cons (rel_u8_of w0 h0) (relL_cons (rel_u8_of w1 h1) relL_nil)) locksStored_3_2 w
    · exact calls_ftrue tab2_ok (k := .b (.b .z)) rfl 3000 (args := [.res .u8 8 3, .res .u8 8 3]) (relL_cons (rel_u8_of w0 h0) (relL_cons (rel_u8_of w1 h1) relL_nil)) locksStored_3_3 w
    · exact calls_ftrue tab2_ok (k := .b (.b .z)) rfl 3000 (args := [.res .u8 8 3, .res .u8 8 4]) (relL_cons (rel_u8_of w0 h0) (relL_cons (rel_u8_of w1 h1) relL_nil)) locksStored_3_4 w
    · exact calls_ftrue tab2_ok (k := .b (.b .z)) rfl 3000 (args := [.res .u8 8 3, .res .u8 8 5]) (relL_cons (rel_u8_of w0 h0) (relL_cons (rel_u8_of w1 h1) relL_nil)) locksStored_3_5 w
    · exact calls_ftrue tab2_ok (k := .b (.b .z)) rfl 3000 (args := [.res .u8 8 3, .res .u8 8 6]) (relL_cons (rel_u8_of w0 h0) (relL_cons (rel_u8_of w1 h1) relL_nil)) locksStored_3_6 w
    · exact calls_ftrue tab2_ok (k := .b (.b .z)) rfl 3000 (args := [.res .u8 8 3, .res .u8 8 7]) (relL_cons (rel_u8_of w0 h0) (relL_cons (rel_u8_of w1 h1) relL_nil)) locksStored_3_7 w
  · rcases small8 (a1.toNat % 8) (Nat.mod_lt _ (by omega)) with h1 | h1 | h1 | h1 | h1 | h1 | h1 | h1
    · exact calls_ftrue tab2_ok (k := .b (.b .z)) rfl 3000 (args := [.res .u8 8 4, .res .u8 8 0]) (relL_cons (rel_u8_of w0 h0) (relL_cons (rel_u8_of w1 h1) relL_nil)) locksStored_4_0 w
    · exact calls_ftrue tab2_ok (k := .b (.b .z)) rfl 3000 (args := [.res .u8 8 4, .res .u8 8 1]) (relL_cons (rel_u8_of w0 h0) (relL_cons (rel_u8_of w1 h1) relL_nil)) locksStored_4_1 w
    · exact calls_ftrue tab2_ok (k := .b (.b .z)) rfl 3000 (args := [.res .u8 8 4, .res .u8 8 2]) (relL_cons (rel_u8_of w0 h0) (relL_cons (rel_u8_of w1 h1) relL_nil)) locksStored_4_2 w
    · exact calls_ftrue tab2_ok (k := .b (.b .z)) rfl 3000 (args := [.res .u8 8 4, .res .u8 8 3]) (relL_cons (rel_u8_of w0 h0) (relL_cons (rel_u8_of w1 h1) relL_nil)) locksStored_4_3 w
    · exact calls_ftrue tab2_ok (k := .b (.b .z)) rfl 3000 (args := [.res .u8 8 4, .res .u8 8 4]) (relL_cons (rel_u8_of w0 h0) (relL_cons (rel_u8_of w1 h1) relL_nil)) locksStored_4_4 w
    · exact calls_ftrue tab2_ok (k := .b (.b .z)) rfl 3000 (args := [.res .u8 8 4, .res .u8 8 5]) (relL_cons (rel_u8_of w0 h0) (relL_cons (rel_u8_of w1 h1) relL_nil)) locksStored_4_5 w
    · exact calls_ftrue tab2_ok (k := .b (.b .z)) rfl 3000 (args := [.res .u8 8 4, .res .u8 8 6]) (relL_cons (rel_u8_of w0 h0) (relL_cons (rel_u8_of w1 h1) relL_nil)) locksStored_4_6 w
    · exact calls_ftrue tab2_ok (k := .b (.b .z)) rfl 3000 (args := [.res .u8 8 4, .res .u8 8 7]) (relL_cons (rel_u8_of w0 h0) (relL_cons (rel_u8_of w1 h1) relL_nil)) locksStored_4_7 w
  · rcases small8 (a1.toNat % 8) (Nat.mod_lt _ (by omega)) with h1 | h1 | h1 | h1 | h1 | h1 | h1 | h1
    · exact calls_ftrue tab2_ok (k := .b (.b .z)) rfl 3000 (args := [.res .u8 8 5, .res .u8 8 0]) (relL_cons (rel_u8_of w0 h0) (relL_cons (rel_u8_of w1 h1) relL_nil)) locksStored_5_0 w
    · exact calls_ftrue tab2_ok (k := .b (.b .z)) rfl 3000 (args := [.res .u8 8 5, .res .u8 8 1]) (relL_cons (rel_u8_of w0 h0) (relL_cons (rel_u8_of w1 h1) relL_nil)) locksStored_5_1 w
    · exact calls_ftrue tab2_ok (k := .b (.b .z)) rfl 3000 (args := [.res .u8 8 5, .res .u8 8 2]) (relL_cons (rel_u8_of w0 h0) (relL_cons (rel_u8_of w1 h1) relL_nil)) locksStored_5_2 w
    · exact calls_ftrue tab2_ok (k := .b (.b .z)) rfl 3000 (args := [.res .u8 8 5, .res .u8 8 3]) (relL_cons (rel_u8_of w0 h0) (relL_cons (rel_u8_of w1 h1) relL_nil)) locksStored_5_3 w
    · exact calls_ftrue tab2_ok (k := .b (.b .z)) rfl 3000 (args := [.res .u8 8 5, .res .u8 8 4]) (relL_cons (rel_u8_of w0 h0) (relL_cons (rel_u8_of w1 h1) relL_nil)) locksStored_5_4 w
    · exact calls_ftrue tab2_ok (k := .b (.b .z)) rfl 3000 (args := [.res .u8 8 5, .res .u8 8 5]) (relL_cons (rel_u8_of w0 h0) (relL_cons (rel_u8_of w1 h1) relL_nil)) locksStored_5_5 w
    · exact calls_ftrue tab2_ok (k := .b (.b .z)) rfl 3000 (args := [.res .u8 8 5, .res .u8 8 6]) (relL_cons (rel_u8_of w0 h0) (relL_cons (rel_u8_of w1 h1) relL_nil)) locksStored_5_6 w
    · exact calls_ftrue tab2_ok (k := .b (.b .z)) rfl 3000 (args := [.res .u8 8 5, .res .u8 8 7]) (relL_cons (rel_u8_of w0 h0) (relL_cons (rel_u8_of w1 h1) relL_nil)) locksStored_5_7 w
  · rcases small8 (a1.toNat % 8) (Nat.mod_lt _ (by omega)) with h1 | h1 | h1 | h1 | h1 | h1 | h1 | h1
    · exact calls_ftrue tab2_ok (k := .b (.b .z)) rfl 3000 (args := [.res .u8 8 6, .res .u8 8 0]) (relL_cons (rel_u8_of w0 h0) (relL_cons (rel_u8_of w1 h1) relL_nil)) locksStored_6_0 w
    · exact calls_ftrue tab2_ok (k := .b (.b .z)) rfl 3000 (args := [.res .u8 8 6, .res .u8 8 1]) (relL_cons (rel_u8_of w0 h0) (relL_cons (rel_u8_of w1 h1) relL_nil)) locksStored_6_1 w
    · exact calls_ftrue tab2_ok (k := .b (.b .z)) rfl 3000 (args := [.res .u8 8 6, .res .u8 8 2]) (relL_cons (rel_u8_of w0 h0) (relL_cons (rel_u8_of w1 h1) relL_nil)) locksStored_6_2 w
    · exact calls_ftrue tab2_ok (k := .b (.b .z)) rfl 3000 (args := [.res .u8 8 6, .res .u8 8 3]) (relL_cons (rel_u8_of w0 h0) (relL_cons (rel_u8_of w1 h1) relL_nil)) locksStored_6_3 w
    · exact calls_ftrue tab2_ok (k := .b (.b .z)) rfl 3000 (args := [.res .u8 8 6, .res .u8 8 4]) (relL_cons (rel_u8_of w0 h0) (relL_cons (rel_u8_of w1 h1) relL_nil)) locksStored_6_4 w
    · exact calls_ftrue tab2_ok (k := .b (.b .z)) rfl 3000 (args := [.res .u8 8 6, .res .u8 8 5]) (relL_cons (rel_u8_of w0 h0) (relL_cons (rel_u8_of w1 h1) relL_nil)) locksStored_6_5 w
    · exact calls_ftrue tab2_ok (k := .b (.b .z)) rfl 3000 (args := [.res .u8 8 6, .res .u8 8 6]) (relL_cons (rel_u8_of w0 h0) (relL_cons (rel_u8_of w1 h1) relL_nil)) locksStored_6_6 w
    · exact calls_ftrue tab2_ok (k := .b (.b .z)) rfl 3000 (args := [.res .u8 8 6, .res .u8 8 7]) (relL_cons (rel_u8_of w0 h0) (relL_cons (rel_u8_of w1 h1) relL_nil)) locksStored_6_7 w
  · rcases small8 (a1.toNat % 8) (Nat.mod_lt _ (by omega)) with h1 | h1 | h1 | h1 | h1 | h1 | h1 | h1
    · exact calls_ftrue tab2_ok (k := .b (.b .z)) rfl 3000 (args := [.res .u8 8 7, .res .u8 8 0]) (relL_cons (rel_u8_of w0 h0) (relL_cons (rel_u8_of w1 h1) relL_nil)) locksStored_7_0 w
    · exact calls_ftrue tab2_ok (k := .b (.b .z)) rfl 3000 (args := [.res .u8 8 7, .res .u8 8 1]) (relL_cons (rel_u8_of w0 h0) (relL_cons (rel_u8_of w1 h1) relL_nil)) locksStored_7_1 w
    · exact calls_ftrue tab2_ok (k := .b (.b .z)) rfl 3000 (args := [.res .u8 8 7, .res .u8 8 2]) (relL_cons (rel_u8_of w0 h0) (relL_cons (rel_u8_of w1 h1) relL_nil)) locksStored_7_2 w
    · exact calls_ftrue tab2_ok (k := .b (.b .z)) rfl 3000 (args := [.res .u8 8 7, .res .u8 8 3]) (relL_cons (rel_u8_of w0 h0) (relL_cons (rel_u8_of w1 h1) relL_nil)) locksStored_7_3 w
    · exact calls_ftrue tab2_ok (k := .b (.b .z)) rfl 3000 (args := [.res .u8 8 7, .res .u8 8 4]) (relL_cons (rel_u8_of w0 h0) (relL_cons (rel_u8_of w1 h1) relL_nil)) locksStored_7_4 w
    · exact calls_ftrue tab2_ok (k := .b (.b .z)) rfl 3000 (args := [.res .u8 8 7, .res .u8 8 5]) (relL_cons (rel_u8_of w0 h0) (relL_cons (rel_u8_of w1 h1) relL_nil)) locksStored_7_5 w
    · exact calls_ftrue tab2_ok (k := .b (.b .z)) rfl 3000 (args := [.res .u8 8 7, .res .u8 8 6]) (relL_cons (rel_u8_of w0 h0) (relL_cons (rel_u8_of w1 h1) relL_nil)) locksStored_7_6 w
    · exact calls_ftrue tab2_ok (k := .b (.b .z)) rfl 3000 (args := [.res .u8 8 7, .res .u8 8 7]) (relL_cons (rel_u8_of w0 h0) (relL_cons (rel_u8_of w1 h1) relL_nil)) locksStored_7_7 w

/-! ### THE ROW's STEP: WRITTEN OUT: LEAVE IT -/
set_option maxRecDepth 100000 in
theorem lifted (os : Os) (started : os.Started) (H : Type) (enc : TypeId × Value → H) :
    ReturnsInHanded {} Try.checked os 10 .any (Rows.locksStoredSpec.pre6 enc Try.prog Try.f10 Rows.locksStoredRow.domain false) (Rows.locksStoredSpec.post enc Try.prog Try.f10 false true false false) := by
  refine returnsInHanded_of_change (C := Try.checked) own started (by kernel_rfl) Try.func10
    (ChangeSpec.witness6 (enc := enc) (C := Try.checked) false ⟨#[], #[.int .u8 0, .int .u8 0], []⟩ 8 (by kernel_rfl) (by kernel_rfl) (by kernel_rfl) (by kernel_rfl)) ?_
  intro W base args ds gs before hval0 hW hcnd _
  have hval : ∀ (j : Nat) t v, Try.f10.params[j]? = some t → args[j]? = some v → Value.okWide Try.prog W .any base t v := hval0
  have hW' := hW
  obtain ⟨p, q, hA0, hV, rfl, hfz, hnd⟩ := hW
  have hA : DataW.TrodAll enc Try.prog W 0 (fun _ => true) true Try.f10.params.toList args.toList ds p := hA0
  rw [Try.params10] at hA hval
  obtain ⟨v0, vs0, d0, ds0, p0, q0, hargs, rfl, rfl, h0, r0⟩ := trodAll_cons hA
  obtain ⟨v1, vs1, d1, ds1, p1, q1, rfl, rfl, rfl, h1, r1⟩ := trodAll_cons r0
  obtain ⟨rfl, rfl, rfl⟩ := trodAll_nil r1
  obtain rfl : args = #[v0, v1] := by cases args; simp_all
  obtain ⟨rfl, rfl⟩ := trodVars_none hV
  obtain ⟨a0, rfl, rfl, rfl, w0⟩ := open_int Try.underlying5 (hval 0 5 v0 rfl rfl) h0
  obtain ⟨a1, rfl, rfl, rfl, w1⟩ := open_int Try.underlying5 (hval 1 5 v1 rfl rfl) h1
  clear hA0 hval0
  simp only [List.append_nil] at hW'
  refine (walk a0 a1 w0 w1 W).mono fun e W' ⟨he, hg⟩ => ?_
  subst he
  exact ⟨_, rfl, post_of_below (pa := []) (pv := []) hW' (fun _ _ _ => (trodAll_cons_mk (shut_bool Try.underlying4 _) trodAll_mk0)) (fun sp _ => (trodAll_cons_mk (shut_int Try.underlying5 w0) (trodAll_cons_mk (shut_int Try.underlying5 w1) trodAll_mk0))) (fun _ _ => rfl) rfl
    hg (ok_one (by kernel_rfl) rfl (okWide_bool_mk Try.underlying4 _))⟩

theorem over : Rows.locksStoredRow.holds Try.pinned (OpenSpec.ofChange Rows.locksStoredSpec) :=
  OpenClaim.holds_of_wide 10 Try.f10 rfl rfl rfl rfl rfl rfl rfl ⟨rfl, rfl, rfl, rfl, rfl⟩ rfl rfl rfl rfl rfl (by kernel_rfl) Try.func10 (by kernel_rfl)
    (of_decide_eq_true (by kernel_rfl)) (by unfold Func.isWrapper; first | (rw [if_pos (by decide +kernel)]; kernel_rfl) | (rw [if_neg (by decide +kernel)]; exact ⟨rfl, rfl⟩))
    (fun os started H enc _ => lifted os started H enc)

/-- ████ THE STATEMENT ████ -/
theorem proved : Rows.LocksStoredSaid :=
  over
#print axioms proved
end Go.Proofs.Ytaeahjgeoieifaa.locksStored
