/- LocksWays: two ways that meet have the same locks, or are refused: every input answers true. No condition. -/
import Derived.Test.YtaeahjgeoieifaaA31
import Derived.Test.YtaeahjgeoieifaaRLocksWays0
import Derived.Test.YtaeahjgeoieifaaRLocksWays1
import Derived.Test.YtaeahjgeoieifaaRLocksWays2
import Derived.Test.YtaeahjgeoieifaaRLocksWays3
import Derived.Test.YtaeahjgeoieifaaRLocksWays4
import Derived.Test.YtaeahjgeoieifaaRLocksWays5
import Derived.Test.YtaeahjgeoieifaaRLocksWays6
import Derived.Test.YtaeahjgeoieifaaRLocksWays7
import Derived.Test.YtaeahjgeoieifaaRLocksWays8
import Derived.Test.YtaeahjgeoieifaaRLocksWays9
import Derived.Test.YtaeahjgeoieifaaRLocksWays10
import Derived.Test.YtaeahjgeoieifaaRows
import Derived.WalkKit
import Derived.ProofKit
import Derived.OpenShut
namespace Go.Proofs.Ytaeahjgeoieifaa.locksWays
open Go.ChangeShapes Go.WideShapes Go.ChangeAt Go.RowKit Go.Ab Go.Ab.Try

theorem own : ownKnob Try.prog.godebug = none := by kernel_rfl

theorem small8 (n : Nat) (h : n < 8) : n = 0 ∨ n = 1 ∨ n = 2 ∨ n = 3 ∨ n = 4 ∨ n = 5 ∨ n = 6 ∨ n = 7 := by omega
theorem walk (a0 : Bool) (a1 : Bool) (a2 : Int) (a3 : Int) (w2 : (Lit.int .u8 a2).wf = true) (w3 : (Lit.int .u8 a3).wf = true) (w : World) :
    Calls Try.prog 11 #[.bool a0, .bool a1, .int .u8 a2, .int .u8 a3] w fun e w' => e = .returned (.bool true) ∧ Below w.heap.size w w' := by
  cases a0 with
  | false =>
    cases a1 with
    | false =>
      exact calls_ftrue tab2_ok (k := .c (.b .z)) rfl 3000 (args := [.bool false, .bool false, .res .u8 1 0, .res .u8 1 0]) (relL_cons (rel_bool_mk) (relL_cons (rel_bool_mk) (relL_cons (rel_u8_one w2) (relL_cons (rel_u8_one w3) relL_nil)))) locksWays_f_f_0_0 w
    | true =>
      rcases small8 (a3.toNat % 8) (Nat.mod_lt _ (by omega)) with h3 | h3 | h3 | h3 | h3 | h3 | h3 | h3
      · exact calls_ftrue tab2_ok (k := .c (.b .z)) rfl 3000 (args := [.bool false, .bool true, .res .u8 1 0, .res .u8 8 0]) (relL_cons (rel_bool_mk) (relL_cons (rel_bool_mk) (relL_cons (rel_u8_one w2) (relL_cons (rel_u8_of w3 h3) relL_nil)))) locksWays_f_t_0_0 w
      · exact calls_ftrue tab2_ok (k := .c (.b .z)) rfl 3000 (args := [.bool false, .bool true, .res .u8 1 0, .res .u8 8 1]) (relL_cons (rel_bool_mk) (relL_cons (rel_bool_mk) (relL_cons (rel_u8_one w2) (relL_cons (rel_u8_of w3 h3) relL_nil)))) locksWays_f_t_0_1 w
      · exact calls_ftrue tab2_ok (k := .c (.b .z)) rfl 3000 (args := [.bool false, .bool true, .res .u8 1 0, .res .u8 8 2]) (relL_cons (rel_bool_mk) (relL_cons (rel_bool_mk) (relL_cons (rel_u8_one w2) (relL_cons (rel_u8_of w3 h3) relL_nil)))) locksWays_f_t_0_2 w
      · exact calls_ftrue tab2_ok (k := .c (.b .z)) rfl 3000 (args := [.bool false, .bool true, .res .u8 1 0, .res .u8 8 3]) (relL_cons (rel_bool_mk) (relL_cons (rel_bool_mk) (relL_cons (rel_u8_one w2) (relL_cons (rel_u8_of w3 h3) relL_nil)))) locksWays_f_t_0_3 w
      · exact calls_ftrue tab2_ok (k := .c (.b .z)) rfl 3000 (args := [.bool false, .bool true, .res .u8 1 0, .res .u8 8 4]) (relL_cons (rel_bool_mk) (relL_cons (rel_bool_mk) (relL_cons (rel_u8_one w2) (relL_cons (rel_u8_of w3 h3) relL_nil)))) locksWays_f_t_0_4 w
      · exact calls_ftrue tab2_ok (k := .c (.b .z)) rfl 3000 (args := [.bool false, .bool true, .res .u8 1 0, .res .u8 8 5]) (relL_cons (rel_bool_mk) (relL_cons (rel_bool_mk) (relL_cons (rel_u8_one w2) (relL_cons (rel_u8_of w3 h3) relL_nil)))) locksWays_f_t_0_5 w
      · exact calls_ftrue tab2_ok (k := .c (.b .z)) rfl 3000 (args := [.bool false, .bool true, .res .u8 1 0, .res .u8 8 6]) (relL_cons (rel_bool_mk) (relL_cons (rel_bool_mk) (relL_cons (rel_u8_one w2) (relL_cons (rel_u8_of w3 h3) relL_nil)))) locksWays_f_t_0_6 w
      · exact calls_ftrue tab2_ok (k := .c (.b .z)) rfl 3000 (args := [.bool false, .bool true, .res .u8 1 0, .res .u8 8 7]) (relL_cons (rel_bool_mk) (relL_cons (rel_bool_mk) (relL_cons (rel_u8_one w2) (relL_cons (rel_u8_of w3 h3) relL_nil)))) locksWays_f_t_0_7 w
  | true =>
    cases a1 with
    | false =>
      rcases small8 (a2.toNat % 8) (Nat.mod_lt _ (by omega)) with h2 | h2 | h2 | h2 | h2 | h2 | h2 | h2
      · exact calls_ftrue tab2_ok (k := .c (.b .z)) rfl 3000 (args := [.bool true, .bool false, .res .u8 8 0, .res .u8 1 0]) (relL_cons (rel_bool_mk) (relL_cons (rel_bool_mk) (relL_cons (rel_u8_of w2 h2) (relL_cons (rel_u8_one w3) relL_nil)))) locksWays_t_f_0_0 w
      · exact calls_ftrue tab2_ok (k := .c (.b .z)) rfl 3000 (args := [.bool true, .bool false, .res .u8 8 1, .res .u8 1 0]) (relL_cons (rel_bool_mk) (relL_cons (rel_bool_mk) (relL_cons (rel_u8_of w2 h2) (relL_cons (rel_u8_one w3) relL_nil)))) locksWays_t_f_1_0 w
      · exact calls_ftrue tab2_ok (k := .c (.b .z)) rfl 3000 (args := [.bool true, .bool false, .res .u8 8 2, .res .u8 1 0]) (relL_cons (rel_bool_mk) (relL_cons (rel_bool_mk) (relL_cons (rel_u8_of w2 h2) (relL_cons (rel_u8_one w3) relL_nil)))) locksWays_t_f_2_0 w
      · exact calls_ftrue tab2_ok (k := .c (.b .z)) rfl 3000 (args := [.bool true, .bool false, .res .u8 8 3, .res .u8 1 0]) (relL_cons (rel_bool_mk) (relL_cons (rel_bool_mk) (relL_cons (rel_u8_of w2 h2) (relL_cons (rel_u8_one w3) relL_nil)))) locksWays_t_f_3_0 w
      · exact calls_ftrue tab2_ok (k := .c (.b .z)) rfl 3000 (args := [.bool true, .bool false, .res .u8 8 4, .res .u8 1 0]) (relL_cons (rel_bool_mk) (relL_cons (rel_bool_mk) (relL_cons (rel_u8_of w2 h2) (relL_cons (rel_u8_one w3) relL_nil)))) locksWays_t_f_4_0 w
      · exact calls_ftrue tab2_ok (k := .c (.b .z)) rfl 3000 (args := [.bool true, .bool false, .res .u8 8 5, .res .u8 1 0]) (relL_cons (rel_bool_mk) (relL_cons (rel_bool_mk) (relL_cons (rel_u8_of w2 h2) (relL_cons (rel_u8_one w3) relL_nil)))) locksWays_t_f_5_0 w
      · exact calls_ftrue tab2_ok (k := .c (.b .z)) rfl 3000 (args := [.bool true, .bool false, .res .u8 8 6, .res .u8 1 0]) (relL_cons (rel_bool_mk) (relL_cons (rel_bool_mk) (relL_cons (rel_u8_of w2 h2) (relL_cons (rel_u8_one w3) relL_nil)))) locksWays_t_f_6_0 w
      · exact calls_ftrue tab2_ok (k := .c (.b .z)) rfl 3000 (args := [.bool true, .bool false, .res .u8 8 7, .res .u8 1 0]) (relL_cons (rel_bool_mk) (relL_cons (rel_bool_mk) (relL_cons (rel_u8_of w2 h2) (relL_cons (rel_u8_one w3) relL_nil)))) locksWays_t_f_7_0 w
    | true =>
      rcases small8 (a2.toNat % 8) (Nat.mod_lt _ (by omega)) with h2 | h2 | h2 | h2 | h2 | h2 | h2 | h2
      · rcases small8 (a3.toNat % 8) (Nat.mod_lt _ (by omega)) with h3 | h3 | h3 | h3 | h3 | h3 | h3 | h3
        · exact calls_ftrue tab2_ok (k := .c (.b .z)) rfl 3000 (args := [.bool true, .bool true, .res .u8 8 0, .res .u8 8 0]) (relL_cons (rel_bool_mk) (relL_cons (rel_bool_mk) (relL_cons (rel_u8_of w2 h2) (relL_cons (rel_u8_of w3 h3) relL_nil)))) locksWays_t_t_0_0 w
        · exact calls_ftrue tab2_ok (k := .c (.b .z)) rfl 3000 (args := [.bool true, .bool true, .res .u8 8 0, .res .u8 8 1]) (relL_cons (rel_bool_mk) (relL_cons (rel_bool_mk) (relL_cons (rel_u8_of w2 h2) (relL_cons (rel_u8_of w3 h3) relL_nil)))) locksWays_t_t_0_1 w
        · exact calls_ftrue tab2_ok (k := .c (.b .z)) rfl 3000 (args := [.bool true, .bool true, .res .u8 8 0, .res .u8 8 2]) (relL_cons (rel_bool_mk) (relL_cons (rel_bool_mk) (relL_cons (rel_u8_of w2 h2) (relL_cons (rel_u8_of w3 h3) relL_nil)))) locksWays_t_t_0_2 w
        · exact calls_ftrue tab2_ok (k := .c (.b .z)) rfl 3000 (args := [.bool true, .bool true, .res .u8 8 0, .res .u8 8 3]) (relL_cons (rel_bool_mk) (relL_cons (rel_bool_mk) (relL_cons (rel_u8_of w2 h2) (relL_cons (rel_u8_of w3 h3) relL_nil)))) locksWays_t_t_0_3 w
        · exact calls_ftrue tab2_ok (k := .c (.b .z)) rfl 3000 (args := [.bool true, .bool true, .res .u8 8 0, .res .u8 8 4]) (relL_cons (rel_bool_mk) (relL_cons (rel_bool_mk) (relL_cons (rel_u8_of w2 h2) (relL_cons (rel_u8_of w3 h3) relL_nil)))) locksWays_t_t_0_4 w
        · exact calls_ftrue tab2_ok (k := .c (.b .z)) rfl 3000 (args := [.bool true, .bool true, .res .u8 8 0, .res .u8 8 5]) (relL_cons (rel_bool_mk) (relL_cons (rel_bool_mk) (relL_cons (rel_u8_of w2 h2) (relL_cons (rel_u8_of w3 h3) relL_nil)))) locksWays_t_t_0_5 w
        · exact calls_ftrue tab2_ok (k := .c (.b .z)) rfl 3000 (args := [.bool true, .bool true, .res .u8 8 0, .res .u8 8 6]) (relL_cons (rel_bool_mk) (relL_cons (rel_bool_mk) (relL_cons (rel_u8_of w2 h2) (relL_cons (rel_u8_of w3 h3) relL_nil)))) locksWays_t_t_0_6 w
        · exact calls_ftrue tab2_ok (k := .c (.b .z)) rfl 3000 (args := [.bool true, .bool true, .res .u8 8 0, .res .u8 8 7]) (relL_cons (rel_bool_mk) (relL_cons (rel_bool_mk) (relL_cons (rel_u8_of w2 h2) (relL_cons (rel_u8_of w3 h3) relL_nil)))) locksWays_t_t_0_7 w
      · rcases small8 (a3.toNat % 8) (Nat.mod_lt _ (by omega)) with h3 | h3 | h3 | h3 | h3 | h3 | h3 | h3
        · exact calls_ftrue tab2_ok (k := .c (.b .z)) rfl 3000 (args := [.bool true, .bool true, .res .u8 8 1, .res .u8 8 0]) (relL_cons (rel_bool_mk) (relL_cons (rel_bool_mk) (relL_cons (rel_u8_of w2 h2) (relL_cons (rel_u8_of w3 h3) relL_nil)))) locksWays_t_t_1_0 w
        · exact calls_ftrue tab2_ok (k := .c (.b .z)) rfl 3000 (args := [.bool true, .bool true, .res .u8 8 1, .res .u8 8 1]) (relL_cons (rel_bool_mk) (relL_cons (rel_bool_mk) (relL_cons (rel_u8_of w2 h2) (relL_cons (rel_u8_of w3 h3) relL_nil)))) locksWays_t_t_1_1 w
        · exact calls_ftrue tab2_ok (k := .c (.b .z)) rfl 3000 (args := [.bool true, .bool true, .res .u8 8 1, .res .u8 8 2]) (relL_cons (rel_bool_mk) (relL_cons (rel_bool_mk) (relL_cons (rel_u8_of w2 h2) (relL_cons (rel_u8_of w3 h3) relL_nil)))) locksWays_t_t_1_2 w
        · exact calls_ftrue tab2_ok (k := .c (.b .z)) rfl 3000 (args := [.bool true, .bool true, .res .u8 8 1, .res .u8 8 3]) (relL_cons (rel_bool_mk) (relL_cons (rel_bool_mk) (relL_cons (rel_u8_of w2 h2) (relL_cons (rel_u8_of w3 h3) relL_nil)))) locksWays_t_t_1_3 w
        · exact calls_ftrue tab2_ok (k := .c (.b .z)) rfl 3000 (args := [.bool true, .bool true, .res .u8 8 1, .res .u8 8 4]) (relL_cons (rel_bool_mk) (relL_cons (rel_bool_mk) (relL_cons (rel_u8_of w2 h2) (relL_cons (rel_u8_of w3 h3) relL_nil)))) locksWays_t_t_1_4 w
        · exact calls_ftrue tab2_ok (k := .c (.b .z)) rfl 3000 (args := [.bool true, .bool true, .res .u8 8 1, .res .u8 8 5]) (relL_cons (rel_bool_mk) (relL_cons (rel_bool_mk) (relL_cons (rel_u8_of w2 h2) (relL_cons (rel_u8_of w3 h3) relL_nil)))) locksWays_t_t_1_5 w
        · exact calls_ftrue tab2_ok (k := .c (.b .z)) rfl 3000 (args := [.bool true, .bool true, .res .u8 8 1, .res .u8 8 6]) (relL_cons (rel_bool_mk) (relL_cons (rel_bool_mk) (relL_cons (rel_u8_of w2 h2) (relL_cons (rel_u8_of w3 h3) relL_nil)))) locksWays_t_t_1_6 w
        · exact calls_ftrue tab2_ok (k := .c (.b .z)) rfl 3000 (args := [.bool true, .bool true, .res .u8 8 1, .res .u8 8 7]) (relL_cons (rel_bool_mk) (relL_cons (rel_bool_mk) (relL_cons (rel_u8_of w2 h2) (relL_cons (rel_u8_of w3 h3) relL_nil)))) locksWays_t_t_1_7 w
      · rcases small8 (a3.toNat % 8) (Nat.mod_lt _ (by omega)) with h3 | h3 | h3 | h3 | h3 | h3 | h3 | h3
        · exact calls_ftrue tab2_ok (k := .c (.b .z)) rfl 3000 (args := [.bool true, .bool true, .res .u8 8 2, .res .u8 8 0]) (relL_cons (rel_bool_mk) (relL_cons (rel_bool_mk) (relL_cons (rel_u8_of w2 h2) (relL_cons (rel_u8_of w3 h3) relL_nil)))) locksWays_t_t_2_0 w
        · exact calls_ftrue tab2_ok (k := .c (.b .z)) rfl 3000 (args := [.bool true, .bool true, .res .u8 8 2, .res .u8 8 1]) (relL_cons (rel_bool_mk) (relL_cons (rel_bool_mk) (relL_cons (rel_u8_of w2 h2) (relL_cons (rel_u8_of w3 h3) relL_nil)))) locksWays_t_t_2_1 w
        · exact calls_ftrue tab2_ok (k := .c (.b .z)) rfl 3000 (args := [.bool true, .bool true, .res .u8 8 2, .res .u8 8 2]) (relL_cons (rel_bool_mk) (relL_cons (rel_bool_mk) (relL_cons (rel_u8_of w2 h2) (relL_cons (rel_u8_of w3 h3) relL_nil)))) locksWays_t_t_2_2 w
        · exact calls_ftrue tab2_ok (k := .c (.b .z)) rfl 3000 (args := [.bool true, .bool true, .res .u8 8 2, .res .u8 8 3]) (relL_cons (rel_bool_mk) (relL_cons (rel_bool_mk) (relL_cons (rel_u8_of w2 h2) (relL_cons (rel_u8_of w3 h3) relL_nil)))) locksWays_t_t_2_3 w
        · exact calls_ftrue tab2_ok (k := .c (.b .z)) rfl 3000 (args := [.bool true, .bool true, .res .u8 8 2, .res .u8 8 4]) (relL_cons (rel_bool_mk) (relL_cons (rel_bool_mk) (relL_cons (rel_u8_of w2 h2) (relL_cons (rel_u8_of w3 h3) relL_nil)))) locksWays_t_t_2_4 w
        · exact calls_ftrue tab2_ok (k := .c (.b .z)) rfl 3000 (args := [.bool true, .bool true, .res .u8 8 2, .res .u8 8 5]) (relL_cons (rel_bool_mk) (relL_cons (rel_bool_mk) (relL_cons (rel_u8_of w2 h2) (relL_cons (rel_u8_of w3 h3) relL_nil)))) locksWays_t_t_2_5 w
        · exact calls_ftrue tab2_ok (k := .c (.b .z)) rfl 3000 (args := [.bool true, .bool true, .res .u8 8 2, .res .u8 8 6]) (relL_cons (rel_bool_mk) (relL_cons (rel_bool_mk) (relL_cons (rel_u8_of w2 h2) (relL_cons (rel_u8_of w3 h3) relL_nil)))) locksWays_t_t_2_6 w
        · exact calls_ftrue tab2_ok (k := .c (.b .z)) rfl 3000 (args := [.bool true, .bool true, .res .u8 8 2, .res .u8 8 7]) (relL_cons (rel_bool_mk) (relL_cons (rel_bool_mk) (relL_cons (rel_u8_of w2 h2) (relL_cons (rel_u8_of w3 h3) relL_nil)))) locksWays_t_t_2_7 w
      · rcases small8 (a3.toNat % 8) (Nat.mod_lt _ (by omega)) with h3 | h3 | h3 | h3 | h3 | h3 | h3 | h3
        · exact calls_ftrue tab2_ok (k := .c (.b .z)) rfl 3000 (args := [.bool true, .bool true, .res .u8 8 3, .res .u8 8 0]) (relL_cons (rel_bool_mk) (relL_cons (rel_bool_mk) (relL_cons (rel_u8_of w2 h2) (relL_cons (rel_u8_of w3 h3) relL_nil)))) locksWays_t_t_3_0 w
        · exact calls_ftrue tab2_ok (k := .c (.b .z)) rfl 3000 (args := [.bool true, .bool true, .res .u8 8 3, .res .u8 8 1]) (relL_cons (rel_bool_mk) (relL_cons (rel_bool_mk) (relL_cons (rel_u8_of w2 h2) (relL_cons (rel_u8_of w3 h3) relL_nil)))) locksWays_t_t_3_1 w
        · exact calls_ftrue tab2_ok (k := .c (.b .z)) rfl 3000 (args := [.bool true, .bool true, .res .u8 8 3, .res .u8 8 2]) (relL_cons (rel_bool_mk) (relL_cons (rel_bool_mk) (relL_cons (rel_u8_of w2 h2) (relL_cons (rel_u8_of w3 h3) relL_nil)))) locksWays_t_t_3_2 w
        · exact calls_ftrue tab2_ok (k := .c (.b .z)) rfl 3000 (args := [.bool true, .bool true, .res .u8 8 3, .res .u8 8 3]) (relL_cons (rel_bool_mk) (relL_cons (rel_bool_mk) (relL_cons (rel_u8_of w2 h2) (relL_cons (rel_u8_of w3 h3) relL_nil)))) locksWays_t_t_3_3 w
        · exact calls_ftrue tab2_ok (k := .c (.b .z)) rfl 3000 (args := [.bool true, .bool true, .res .u8 8 3, .res .u8 8 4]) (relL_cons (rel_bool_mk) (relL_cons (rel_bool_mk) (relL_cons (rel_u8_of w2 h2) (relL_cons (rel_u8_of w3 h3) relL_nil)))) locksWays_t_t_3_4 w
        · exact calls_ftrue tab2_ok (k := .c (.b .z)) rfl 3000 (args := [.bool true, .bool true, .res .u8 8 3, .res .u8 8 5]) (relL_cons (rel_bool_mk) (relL_cons (rel_bool_mk) (relL_cons (rel_u8_of w2 h2) (relL_cons (rel_u8_of w3 h3) relL_nil)))) locksWays_t_t_3_5 w
        · exact calls_ftrue tab2_ok (k := .c (.b .z)) rfl 3000 (args := [.bool true, .bool true, .res .u8 8 3, .res .u8 8 6]) (relL_cons (rel_bool_mk) (relL_cons (rel_bool_mk) (relL_cons (rel_u8_of w2 h2) (relL_cons (rel_u8_of w3 h3) relL_nil)))) locksWays_t_t_3_6 w
        · exact calls_ftrue tab2_ok (k := .c (.b .z)) rfl 3000 (args := [.bool true, .bool true, .res .u8 8 3, .res .u8 8 7]) (relL_cons (rel_bool_mk) (relL_cons (rel_bool_mk) (relL_cons (rel_u8_of w2 h2) (relL_cons (rel_u8_of w3 h3) relL_nil)))) locksWays_t_t_3_7 w
      · rcases small8 (a3.toNat % 8) (Nat.mod_lt _ (by omega)) with h3 | h3 | h3 | h3 | h3 | h3 | h3 | h3
        · exact calls_ftrue tab2_ok (k := .c (.b .z)) rfl 3000 (args := [.bool true, .bool true, .res .u8 8 4, .res .u8 8 0]) (relL_cons (rel_bool_mk) (relL_cons (rel_bool_mk) (relL_cons (rel_u8_of w2 h2) (relL_cons (rel_u8_of w3 h3) relL_nil)))) locksWays_t_t_4_0 w
        · exact calls_ftrue tab2_ok (k := .c (.b .z)) rfl 3000 (args := [.bool true, .bool true, .res .u8 8 4, .res .u8 8 1]) (relL_cons (rel_bool_mk) (relL_cons (rel_bool_mk) (relL_cons (rel_u8_of w2 h2) (relL_cons (rel_u8_of w3 h3) relL_nil)))) locksWays_t_t_4_1 w
        · exact calls_ftrue tab2_ok (k := .c (.b .z)) rfl 3000 (args := [.bool true, .bool true, .res .u8 8 4, .res .u8 8 2]) (relL_cons (rel_bool_mk) (relL_cons (rel_bool_mk) (relL_cons (rel_u8_of w2 h2) (relL_cons (rel_u8_of w3 h3) relL_nil)))) locksWays_t_t_4_2 w
        · exact calls_ftrue tab2_ok (k := .c (.b .z)) rfl 3000 (args := [.bool true, .bool true, .res .u8 8 4, .res .u8 8 3]) (relL_cons (rel_bool_mk) (relL_cons (rel_bool_mk) (relL_cons (rel_u8_of w2 h2) (relL_cons (rel_u8_of w3 h3) relL_nil)))) locksWays_t_t_4_3 w
        · exact calls_ftrue tab2_ok (k := .c (.b .z)) rfl 3000 (args := [.bool true, .bool true, .res .u8 8 4, .res .u8 8 4]) (relL_cons (rel_bool_mk) (relL_cons (rel_bool_mk) (relL_cons (rel_u8_of w2 h2) (relL_cons (rel_u8_of w3 h3) relL_nil)))) locksWays_t_t_4_4 w
        · exact calls_ftrue tab2_ok (k := .c (.b .z)) rfl 3000 (args := [.bool true, .bool true, .res .u8 8 4, .res .u8 8 5]) (relL_cons (rel_bool_mk) (relL_cons (rel_bool_mk) (relL_cons (rel_u8_of w2 h2) (relL_cons (rel_u8_of w3 h3) relL_nil)))) locksWays_t_t_4_5 w
        · exact calls_ftrue tab2_ok (k := .c (.b .z)) rfl 3000 (args := [.bool true, .bool true, .res .u8 8 4, .res .u8 8 6]) (relL_cons (rel_bool_mk) (relL_cons (rel_bool_mk) (relL_cons (rel_u8_of w2 h2) (relL_cons (rel_u8_of w3 h3) relL_nil)))) locksWays_t_t_4_6 w
        · exact calls_ftrue tab2_ok (k := .c (.b .z)) rfl 3000 (args := [.bool true, .bool true, .res .u8 8 4, .res .u8 8 7]) (relL_cons (rel_bool_mk) (relL_cons (rel_bool_mk) (relL_cons (rel_u8_of w2 h2) (relL_cons (rel_u8_of w3 h3) relL_nil)))) locksWays_t_t_4_7 w
      · rcases small8 (a3.toNat % 8) (Nat.mod_lt _ (by omega)) with h3 | h3 | h3 | h3 | h3 | h3 | h3 | h3
        · exact calls_ftrue tab2_ok (k := .c (.b .z)) rfl 3000 (args := [.bool true, .bool true, .res .u8 8 5, .res .u8 8 0]) (relL_cons (rel_bool_mk) (relL_cons (rel_bool_mk) (relL_cons (rel_u8_of w2 h2) (relL_cons (rel_u8_of w3 h3) relL_nil)))) locksWays_t_t_5_0 w
        · exact calls_ftrue tab2_ok (k := .c (.b .z)) rfl 3000 (args := [.bool true, .bool true, .res .u8 8 5, .res .u8 8 1]) (relL_cons (rel_bool_mk) (relL_cons (rel_bool_mk) (relL_cons (rel_u8_of w2 h2) (relL_cons (rel_u8_of w3 h3) relL_nil)))) locksWays_t_t_5_1 w
        · exact calls_ftrue tab2_ok (k := .c (.b .z)) rfl 3000 (args := [.bool true, .bool true, .res .u8 8 5, .res .u8 8 2]) (relL_cons (rel_bool_mk) (relL_cons (rel_bool_mk) (relL_cons (rel_u8_of w2 h2) (relL_cons (rel_u8_of w3 h3) relL_nil)))) locksWays_t_t_5_2 w
        · exact calls_ftrue tab2_ok (k := .c (.b .z)) rfl 3000 (args := [.bool true, .bool true, .res .u8 8 5, .res .u8 8 3]) (relL_cons (rel_bool_mk) (relL_cons (rel_bool_mk) (relL_cons (rel_u8_of w2 h2) (relL_cons (rel_u8_of w3 h3) relL_nil)))) locksWays_t_t_5_3 w
        · exact calls_ftrue tab2_ok (k := .c (.b .z)) rfl 3000 (args := [.bool true, .bool true, .res .u8 8 5, .res .u8 8 4]) (relL_cons (rel_bool_mk) (relL_cons (rel_bool_mk) (relL_cons (rel_u8_of w2 h2) (relL_cons (rel_u8_of w3 h3) relL_nil)))) locksWays_t_t_5_4 w
        · exact calls_ftrue tab2_ok (k := .c (.b .z)) rfl 3000 (args := [.bool true, .bool true, .res .u8 8 5, .res .u8 8 5]) (relL_cons (rel_bool_mk) (relL_cons (rel_bool_mk) (relL_cons (rel_u8_of w2 h2) (relL_cons (rel_u8_of w3 h3) relL_nil)))) locksWays_t_t_5_5 w
        · exact calls_ftrue tab2_ok (k := .c (.b .z)) rfl 3000 (args := [.bool true, .bool true, .res .u8 8 5, .res .u8 8 6]) (relL_cons (rel_bool_mk) (relL_cons (rel_bool_mk) (relL_cons (rel_u8_of w2 h2) (relL_cons (rel_u8_of w3 h3) relL_nil)))) locksWays_t_t_5_6 w
        · exact calls_ftrue tab2_ok (k := .c (.b .z)) rfl 3000 (args := [.bool true, .bool true, .res .u8 8 5, .res .u8 8 7]) (relL_cons (rel_bool_mk) (relL_cons (rel_bool_mk) (relL_cons (rel_u8_of w2 h2) (relL_cons (rel_u8_of w3 h3) relL_nil)))) locksWays_t_t_5_7 w
      · rcases small8 (a3.toNat % 8) (Nat.mod_lt _ (by omega)) with h3 | h3 | h3 | h3 | h3 | h3 | h3 | h3
        · exact calls_ftrue tab2_ok (k := .c (.b .z)) rfl 3000 (args := [.bool true, .bool true, .res .u8 8 6, .res .u8 8 0]) (relL_cons (rel_bool_mk) (relL_cons (rel_bool_mk) (relL_cons (rel_u8_of w2 h2) (relL_cons (rel_u8_of w3 h3) relL_nil)))) locksWays_t_t_6_0 w
        · exact calls_ftrue tab2_ok (k := .c (.b .z)) rfl 3000 (args := [.bool true, .bool true, .res .u8 8 6, .res .u8 8 1]) (relL_cons (rel_bool_mk) (relL_cons (rel_bool_mk) (relL_cons (rel_u8_of w2 h2) (relL_cons (rel_u8_of w3 h3) relL_nil)))) locksWays_t_t_6_1 w
        · exact calls_ftrue tab2_ok (k := .c (.b .z)) rfl 3000 (args := [.bool true, .bool true, .res .u8 8 6, .res .u8 8 2]) (relL_cons (rel_bool_mk) (relL_cons (rel_bool_mk) (relL_cons (rel_u8_of w2 h2) (relL_cons (rel_u8_of w3 h3) relL_nil)))) locksWays_t_t_6_2 w
        · exact calls_ftrue tab2_ok (k := .c (.b .z)) rfl 3000 (args := [.bool true, .bool true, .res .u8 8 6, .res .u8 8 3]) (relL_cons (rel_bool_mk) (relL_cons (rel_bool_mk) (relL_cons (rel_u8_of w2 h2) (relL_cons (rel_u8_of w3 h3) relL_nil)))) locksWays_t_t_6_3 w
        · exact calls_ftrue tab2_ok (k := .c (.b .z)) rfl 3000 (args := [.bool true, .bool true, .res .u8 8 6, .res .u8 8 4]) (relL_cons (rel_bool_mk) (relL_cons (rel_bool_mk) (relL_cons (rel_u8_of w2 h2) (relL_cons (rel_u8_of w3 h3) relL_nil)))) locksWays_t_t_6_4 w
        · exact calls_ftrue tab2_ok (k := .c (.b .z)) rfl 3000 (args := [.bool true, .bool true, .res .u8 8 6, .res .u8 8 5]) (relL_cons (rel_bool_mk) (relL_cons (rel_bool_mk) (relL_cons (rel_u8_of w2 h2) (relL_cons (rel_u8_of w3 h3) relL_nil)))) locksWays_t_t_6_5 w
        · exact calls_ftrue tab2_ok (k := .c (.b .z)) rfl 3000 (args := [.bool true, .bool true, .res .u8 8 6, .res .u8 8 6]) (relL_cons (rel_bool_mk) (relL_cons (rel_bool_mk) (relL_cons (rel_u8_of w2 h2) (relL_cons (rel_u8_of w3 h3) relL_nil)))) locksWays_t_t_6_6 w
        · exact calls_ftrue tab2_ok (k := .c (.b .z)) rfl 3000 (args := [.bool true, .bool true, .res .u8 8 6, .res .u8 8 7]) (relL_cons (rel_bool_mk) (relL_cons (rel_bool_mk) (relL_cons (rel_u8_of w2 h2) (relL_cons (rel_u8_of w3 h3) relL_nil)))) locksWays_t_t_6_7 w
      · rcases small8 (a3.toNat % 8) (Nat.mod_lt _ (by omega)) with h3 | h3 | h3 | h3 | h3 | h3 | h3 | h3
        · exact calls_ftrue tab2_ok (k := .c (.b .z)) rfl 3000 (args := [.bool true, .bool true, .res .u8 8 7, .res .u8 8 0]) (relL_cons (rel_bool_mk) (relL_cons (rel_bool_mk) (relL_cons (rel_u8_of w2 h2) (relL_cons (rel_u8_of w3 h3) relL_nil)))) locksWays_t_t_7_0 w
        · exact calls_ftrue tab2_ok (k := .c (.b .z)) rfl 3000 (args := [.bool true, .bool true, .res .u8 8 7, .res .u8 8 1]) (relL_cons (rel_bool_mk) (relL_cons (rel_bool_mk) (relL_cons (rel_u8_of w2 h2) (relL_cons (rel_u8_of w3 h3) relL_nil)))) locksWays_t_t_7_1 w
        · exact calls_ftrue tab2_ok (k := .c (.b .z)) rfl 3000 (args := [.bool true, .bool true, .res .u8 8 7, .res .u8 8 2]) (relL_cons (rel_bool_mk) (relL_cons (rel_bool_mk) (relL_cons (rel_u8_of w2 h2) (relL_cons (rel_u8_of w3 h3) relL_nil)))) locksWays_t_t_7_2 w
        · exact calls_ftrue tab2_ok (k := .c (.b .z)) rfl 3000 (args := [.bool true, .bool true, .res .u8 8 7, .res .u8 8 3]) (relL_cons (rel_bool_mk) (relL_cons (rel_bool_mk) (relL_cons (rel_u8_of w2 h2) (relL_cons (rel_u8_of w3 h3) relL_nil)))) locksWays_t_t_7_3 w
        · exact calls_ftrue tab2_ok (k := .c (.b .z)) rfl 3000 (args := [.bool true, .bool true, .res .u8 8 7, .res .u8 8 4]) (relL_cons (rel_bool_mk) (relL_cons (rel_bool_mk) (relL_cons (rel_u8_of w2 h2) (relL_cons (rel_u8_of w3 h3) relL_nil)))) locksWays_t_t_7_4 w
        · exact calls_ftrue tab2_ok (k := .c (.b .z)) rfl 3000 (args := [.bool true, .bool true, .res .u8 8 7, .res .u8 8 5]) (relL_cons (rel_bool_mk) (relL_cons (rel_bool_mk) (relL_cons (rel_u8_of w2 h2) (relL_cons (rel_u8_of w3 h3) relL_nil)))) locksWays_t_t_7_5 w
        · exact calls_ftrue tab2_ok (k := .c (.b .z)) rfl 3000 (args := [.bool true, .bool true, .res .u8 8 7, .res .u8 8 6]) (relL_cons (rel_bool_mk) (relL_cons (rel_bool_mk) (relL_cons (rel_u8_of w2 h2) (relL_cons (rel_u8_of w3 h3) relL_nil)))) locksWays_t_t_7_6 w
        · exact calls_ftrue tab2_ok (k := .c (.b .z)) rfl 3000 (args := [.bool true, .bool true, .res .u8 8 7, .res .u8 8 7]) (relL_cons (rel_bool_mk) (relL_cons (rel_bool_mk) (relL_cons (rel_u8_of w2 h2) (relL_cons (rel_u8_of w3 h3) relL_nil)))) locksWays_t_t_7_7 w

/-! ### THE ROW's STEP: WRITTEN OUT: LEAVE IT -/
set_option maxRecDepth 100000 in
theorem lifted (os : Os) (started : os.Started) (H : Type) (enc : TypeId × Value → H) :
    ReturnsInHanded {} Try.checked os 11 .any (Rows.locksWaysSpec.pre6 enc Try.prog Try.f11 Rows.locksWaysRow.domain false) (Rows.locksWaysSpec.post enc Try.prog Try.f11 false true false false) := by
  refine returnsInHanded_of_change (C := Try.checked) own started (by kernel_rfl) Try.func11
    (ChangeSpec.witness6 (enc := enc) (C := Try.checked) false ⟨#[], #[.bool false, .bool false, .int .u8 0, .int .u8 0], []⟩ 8 (by kernel_rfl) (by kernel_rfl) (by kernel_rfl) (by kernel_rfl)) ?_
  intro W base args ds gs before hval0 hW hcnd _
  have hval : ∀ (j : Nat) t v, Try.f11.params[j]? = some t → args[j]? = some v → Value.okWide Try.prog W .any base t v := hval0
  have hW' := hW
  obtain ⟨p, q, hA0, hV, rfl, hfz, hnd⟩ := hW
  have hA : DataW.TrodAll enc Try.prog W 0 (fun _ => true) true Try.f11.params.toList args.toList ds p := hA0
  rw [Try.params11] at hA hval
  obtain ⟨v0, vs0, d0, ds0, p0, q0, hargs, rfl, rfl, h0, r0⟩ := trodAll_cons hA
  obtain ⟨v1, vs1, d1, ds1, p1, q1, rfl, rfl, rfl, h1, r1⟩ := trodAll_cons r0
  obtain ⟨v2, vs2, d2, ds2, p2, q2, rfl, rfl, rfl, h2, r2⟩ := trodAll_cons r1
  obtain ⟨v3, vs3, d3, ds3, p3, q3, rfl, rfl, rfl, h3, r3⟩ := trodAll_cons r2
  obtain ⟨rfl, rfl, rfl⟩ := trodAll_nil r3
  obtain rfl : args = #[v0, v1, v2, v3] := by cases args; simp_all
  obtain ⟨rfl, rfl⟩ := trodVars_none hV
  obtain ⟨a0, rfl, rfl, rfl⟩ := open_bool Try.underlying4 (hval 0 4 v0 rfl rfl) h0
  obtain ⟨a1, rfl, rfl, rfl⟩ := open_bool Try.underlying4 (hval 1 4 v1 rfl rfl) h1
  obtain ⟨a2, rfl, rfl, rfl, w2⟩ := open_int Try.underlying5 (hval 2 5 v2 rfl rfl) h2
  obtain ⟨a3, rfl, rfl, rfl, w3⟩ := open_int Try.underlying5 (hval 3 5 v3 rfl rfl) h3
  clear hA0 hval0
  simp only [List.append_nil] at hW'
  refine (walk a0 a1 a2 a3 w2 w3 W).mono fun e W' ⟨he, hg⟩ => ?_
  subst he
  exact ⟨_, rfl, post_of_below (pa := []) (pv := []) hW' (fun _ _ _ => (trodAll_cons_mk (shut_bool Try.underlying4 _) trodAll_mk0)) (fun sp _ => (trodAll_cons_mk (shut_bool Try.underlying4 _) (trodAll_cons_mk (shut_bool Try.underlying4 _) (trodAll_cons_mk (shut_int Try.underlying5 w2) (trodAll_cons_mk (shut_int Try.underlying5 w3) trodAll_mk0))))) (fun _ _ => rfl) rfl
    hg (ok_one (by kernel_rfl) rfl (okWide_bool_mk Try.underlying4 _))⟩

theorem over : Rows.locksWaysRow.holds Try.pinned (OpenSpec.ofChange Rows.locksWaysSpec) :=
  OpenClaim.holds_of_wide 11 Try.f11 rfl rfl rfl rfl rfl rfl rfl ⟨rfl, rfl, rfl, rfl, rfl⟩ rfl rfl rfl rfl rfl (by kernel_rfl) Try.func11 (by kernel_rfl)
    (of_decide_eq_true (by kernel_rfl)) (by unfold Func.isWrapper; first | (rw [if_pos (by decide +kernel)]; kernel_rfl) | (rw [if_neg (by decide +kernel)]; exact ⟨rfl, rfl⟩))
    (fun os started H enc _ => lifted os started H enc)

/-- ████ THE STATEMENT ████ -/
theorem proved : Rows.LocksWaysSaid :=
  over
#print axioms proved
end Go.Proofs.Ytaeahjgeoieifaa.locksWays
