/- VerifyMixes: two numbers of one kind are added; of two kinds they aren't: every input answers true. No condition. -/
import Derived.Test.YtaeahjgeoieifaaA30
import Derived.Test.YtaeahjgeoieifaaVM0
import Derived.Test.YtaeahjgeoieifaaVM1
import Derived.Test.YtaeahjgeoieifaaVM2
import Derived.Test.YtaeahjgeoieifaaVM3
import Derived.Test.YtaeahjgeoieifaaRows
import Derived.WalkKit
import Derived.ProofKit
import Derived.OpenShut
namespace Go.Proofs.Ytaeahjgeoieifaa.verifyMixes
open Go.ChangeShapes Go.WideShapes Go.ChangeAt Go.RowKit Go.Ab Go.Ab.Try

theorem own : ownKnob Try.prog.godebug = none := by kernel_rfl

theorem runs : ∀ (a0 a1 : Bool) (r : Nat), r < 6 → isTrue (callF (run tab2 3000) a4 [.bool a0, .bool a1, .res .u8 6 r] .leaf .z) = true
  | false, false, 0, _ => vm000
  | false, false, 1, _ => vm001
  | false, false, 2, _ => vm002
  | false, false, 3, _ => vm003
  | false, false, 4, _ => vm004
  | false, false, 5, _ => vm005
  | false, true, 0, _ => vm010
  | false, true, 1, _ => vm011
  | false, true, 2, _ => vm012
  | false, true, 3, _ => vm013
  | false, true, 4, _ => vm014
  | false, true, 5, _ => vm015
  | true, false, 0, _ => vm100
  | true, false, 1, _ => vm101
  | true, false, 2, _ => vm102
  | true, false, 3, _ => vm103
  | true, false, 4, _ => vm104
  | true, false, 5, _ => vm105
  | true, true, 0, _ => vm110
  | true, true, 1, _ => vm111
  | true, true, 2, _ => vm112
  | true, true, 3, _ => vm113
  | true, true, 4, _ => vm114
  | true, true, 5, _ => vm115
  | _, _, n + 6, h => absurd h (by omega)

theorem walk (a0 : Bool) (a1 : Bool) (a2 : Int) (w2 : (Lit.int .u8 a2).wf = true) (w : World) :
    Calls Try.prog 4 #[.bool a0, .bool a1, .int .u8 a2] w fun e w' => e = .returned (.bool true) ∧ Below w.heap.size w w' := by
  refine calls_true tab2_ok (k := .d .z) rfl 3000 (args := [.bool a0, .bool a1, .res .u8 6 (a2.toNat % 6)]) (vs := #[.bool a0, .bool a1, .int .u8 a2]) (relL_cons rel_bool_mk (relL_cons rel_bool_mk (relL_cons (rel_u8_res 6 w2) relL_nil))) (runs a0 a1 _ (Nat.mod_lt _ (by omega))) w
/-! ### THE ROW's STEP: WRITTEN OUT: LEAVE IT -/
set_option maxRecDepth 100000 in
theorem lifted (os : Os) (started : os.Started) (H : Type) (enc : TypeId × Value → H) :
    ReturnsInHanded {} Try.checked os 4 .any (Rows.verifyMixesSpec.pre6 enc Try.prog Try.f4 Rows.verifyMixesRow.domain false) (Rows.verifyMixesSpec.post enc Try.prog Try.f4 false true false false) := by
  refine returnsInHanded_of_change (C := Try.checked) own started (by kernel_rfl) Try.func4
    (ChangeSpec.witness6 (enc := enc) (C := Try.checked) false ⟨#[], #[.bool false, .bool false, .int .u8 0], []⟩ 8 (by kernel_rfl) (by kernel_rfl) (by kernel_rfl) (by kernel_rfl)) ?_
  intro W base args ds gs before hval0 hW hcnd _
  have hval : ∀ (j : Nat) t v, Try.f4.params[j]? = some t → args[j]? = some v → Value.okWide Try.prog W .any base t v := hval0
  have hW' := hW
  obtain ⟨p, q, hA0, hV, rfl, hfz, hnd⟩ := hW
  have hA : DataW.TrodAll enc Try.prog W 0 (fun _ => true) true Try.f4.params.toList args.toList ds p := hA0
  rw [Try.params4] at hA hval
  obtain ⟨v0, vs0, d0, ds0, p0, q0, hargs, rfl, rfl, h0, r0⟩ := trodAll_cons hA
  obtain ⟨v1, vs1, d1, ds1, p1, q1, rfl, rfl, rfl, h1, r1⟩ := trodAll_cons r0
  obtain ⟨v2, vs2, d2, ds2, p2, q2, rfl, rfl, rfl, h2, r2⟩ := trodAll_cons r1
  obtain ⟨rfl, rfl, rfl⟩ := trodAll_nil r2
  obtain rfl : args = #[v0, v1, v2] := by cases args; simp_all
  obtain ⟨rfl, rfl⟩ := trodVars_none hV
  obtain ⟨a0, rfl, rfl, rfl⟩ := open_bool Try.underlying4 (hval 0 4 v0 rfl rfl) h0
  obtain ⟨a1, rfl, rfl, rfl⟩ := open_bool Try.underlying4 (hval 1 4 v1 rfl rfl) h1
  obtain ⟨a2, rfl, rfl, rfl, w2⟩ := open_int Try.underlying5 (hval 2 5 v2 rfl rfl) h2
  clear hA0 hval0
  simp only [List.append_nil] at hW'
  refine (walk a0 a1 a2 w2 W).mono fun e W' ⟨he, hg⟩ => ?_
  subst he
  exact ⟨_, rfl, post_of_below (pa := []) (pv := []) hW' (fun _ _ _ => (trodAll_cons_mk (shut_bool Try.underlying4 _) trodAll_mk0)) (fun sp _ => (trodAll_cons_mk (shut_bool Try.underlying4 _) (trodAll_cons_mk (shut_bool Try.underlying4 _) (trodAll_cons_mk (shut_int Try.underlying5 w2) trodAll_mk0)))) (fun _ _ => rfl) rfl
    hg (ok_one (by kernel_rfl) rfl (okWide_bool_mk Try.underlying4 _))⟩

theorem over : Rows.verifyMixesRow.holds Try.pinned (OpenSpec.ofChange Rows.verifyMixesSpec) :=
  OpenClaim.holds_of_wide 4 Try.f4 rfl rfl rfl rfl rfl rfl rfl ⟨rfl, rfl, rfl, rfl, rfl⟩ rfl rfl rfl rfl rfl (by kernel_rfl) Try.func4 (by kernel_rfl)
    (of_decide_eq_true (by kernel_rfl)) (by unfold Func.isWrapper; first | (rw [if_pos (by decide +kernel)]; kernel_rfl) | (rw [if_neg (by decide +kernel)]; exact ⟨rfl, rfl⟩))
    (fun os started H enc _ => lifted os started H enc)

/-- ████ THE STATEMENT ████ -/
theorem proved : Rows.VerifyMixesSaid :=
  over
#print axioms proved
end Go.Proofs.Ytaeahjgeoieifaa.verifyMixes
