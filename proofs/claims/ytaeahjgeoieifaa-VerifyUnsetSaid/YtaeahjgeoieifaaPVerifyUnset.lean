/- VerifyUnset: a local that is not set on one of two ways cannot be loaded, set on both ways it can: every input answers true. No condition. -/
import Derived.Test.YtaeahjgeoieifaaA31
import Derived.Test.YtaeahjgeoieifaaRVerifyUnset0
import Derived.Test.YtaeahjgeoieifaaRows
import Derived.WalkKit
import Derived.ProofKit
import Derived.OpenShut
namespace Go.Proofs.Ytaeahjgeoieifaa.verifyUnset
open Go.ChangeShapes Go.WideShapes Go.ChangeAt Go.RowKit Go.Ab Go.Ab.Try

theorem own : ownKnob Try.prog.godebug = none := by kernel_rfl

theorem walk (a0 : Bool) (a1 : Bool) (a2 : Bool) (w : World) :
    Calls Try.prog 5 #[.bool a0, .bool a1, .bool a2] w fun e w' => e = .returned (.bool true) ∧ Below w.heap.size w w' := by
  cases a0 with
  | false =>
    cases a1 with
    | false =>
      cases a2 with
      | false =>
        exact calls_ftrue tab2_ok (k := .a (.a .z)) rfl 3000 (args := [.bool false, .bool false, .bool false]) (relL_cons (rel_bool_mk) (relL_cons (rel_bool_mk) (relL_cons (rel_bool_mk) relL_nil))) verifyUnset_f_f_f w
      | true =>
        exact calls_ftrue tab2_ok (k := .a (.a .z)) rfl 3000 (args := [.bool false, .bool false, .bool true]) (relL_cons (rel_bool_mk) (relL_cons (rel_bool_mk) (relL_cons (rel_bool_mk) relL_nil))) verifyUnset_f_f_t w
    | true =>
      cases a2 with
      | false =>
        exact calls_ftrue tab2_ok (k := .a (.a .z)) rfl 3000 (args := [.bool false, .bool true, .bool false]) (relL_cons (rel_bool_mk) (relL_cons (rel_bool_mk) (relL_cons (rel_bool_mk) relL_nil))) verifyUnset_f_t_f w
      | true =>
        exact calls_ftrue tab2_ok (k := .a (.a .z)) rfl 3000 (args := [.bool false, .bool true, .bool true]) (relL_cons (rel_bool_mk) (relL_cons (rel_bool_mk) (relL_cons (rel_bool_mk) relL_nil))) verifyUnset_f_t_t w
  | true =>
    cases a1 with
    | false =>
      cases a2 with
      | false =>
        exact calls_ftrue tab2_ok (k := .a (.a .z)) rfl 3000 (args := [.bool true, .bool false, .bool false]) (relL_cons (rel_bool_mk) (relL_cons (rel_bool_mk) (relL_cons (rel_bool_mk) relL_nil))) verifyUnset_t_f_f w
      | true =>
        exact calls_ftrue tab2_ok (k := .a (.a .z)) rfl 3000 (args := [.bool true, .bool false, .bool true]) (relL_cons (rel_bool_mk) (relL_cons (rel_bool_mk) (relL_cons (rel_bool_mk) relL_nil))) verifyUnset_t_f_t w
    | true =>
      cases a2 with
      | false =>
        exact calls_ftrue tab2_ok (k := .a (.a .z)) rfl 3000 (args := [.bool true, .bool true, .bool false]) (relL_cons (rel_bool_mk) (relL_cons (rel_bool_mk) (relL_cons (rel_bool_mk) relL_nil))) verifyUnset_t_t_f w
      | true =>
        exact calls_ftrue tab2_ok (k := .a (.a .z)) rfl 3000 (args := [.bool true, .bool true, .bool true]) (relL_cons (rel_bool_mk) (relL_cons (rel_bool_mk) (relL_cons (rel_bool_mk) relL_nil))) verifyUnset_t_t_t w

/-! ### THE ROW's STEP: WRITTEN OUT: LEAVE IT -/
set_option maxRecDepth 100000 in
theorem lifted (os : Os) (started : os.Started) (H : Type) (enc : TypeId × Value → H) :
    ReturnsInHanded {} Try.checked os 5 .any (Rows.verifyUnsetSpec.pre6 enc Try.prog Try.f5 Rows.verifyUnsetRow.domain false) (Rows.verifyUnsetSpec.post enc Try.prog Try.f5 false true false false) := by
  refine returnsInHanded_of_change (C := Try.checked) own started (by kernel_rfl) Try.func5
    (ChangeSpec.witness6 (enc := enc) (C := Try.checked) false ⟨#[], #[.bool false, .bool false, .bool false], []⟩ 8 (by kernel_rfl) (by kernel_rfl) (by kernel_rfl) (by kernel_rfl)) ?_
  intro W base args ds gs before hval0 hW hcnd _
  have hval : ∀ (j : Nat) t v, Try.f5.params[j]? = some t → args[j]? = some v → Value.okWide Try.prog W .any base t v := hval0
  have hW' := hW
  obtain ⟨p, q, hA0, hV, rfl, hfz, hnd⟩ := hW
  have hA : DataW.TrodAll enc Try.prog W 0 (fun _ => true) true Try.f5.params.toList args.toList ds p := hA0
  rw [Try.params5] at hA hval
  obtain ⟨v0, vs0, d0, ds0, p0, q0, hargs, rfl, rfl, h0, r0⟩ := trodAll_cons hA
  obtain ⟨v1, vs1, d1, ds1, p1, q1, rfl, rfl, rfl, h1, r1⟩ := trodAll_cons r0
  obtain ⟨v2, vs2, d2, ds2, p2, q2, rfl, rfl, rfl, h2, r2⟩ := trodAll_cons r1
  obtain ⟨rfl, rfl, rfl⟩ := trodAll_nil r2
  obtain rfl : args = #[v0, v1, v2] := by cases args; simp_all
  obtain ⟨rfl, rfl⟩ := trodVars_none hV
  obtain ⟨a0, rfl, rfl, rfl⟩ := open_bool Try.underlying4 (hval 0 4 v0 rfl rfl) h0
  obtain ⟨a1, rfl, rfl, rfl⟩ := open_bool Try.underlying4 (hval 1 4 v1 rfl rfl) h1
  obtain ⟨a2, rfl, rfl, rfl⟩ := open_bool Try.underlying4 (hval 2 4 v2 rfl rfl) h2
  clear hA0 hval0
  simp only [List.append_nil] at hW'
  refine (walk a0 a1 a2 W).mono fun e W' ⟨he, hg⟩ => ?_
  subst he
  exact ⟨_, rfl, post_of_below (pa := []) (pv := []) hW' (fun _ _ _ => (trodAll_cons_mk (shut_bool Try.underlying4 _) trodAll_mk0)) (fun sp _ => (trodAll_cons_mk (shut_bool Try.underlying4 _) (trodAll_cons_mk (shut_bool Try.underlying4 _) (trodAll_cons_mk (shut_bool Try.underlying4 _) trodAll_mk0)))) (fun _ _ => rfl) rfl
    hg (ok_one (by kernel_rfl) rfl (okWide_bool_mk Try.underlying4 _))⟩

theorem over : Rows.verifyUnsetRow.holds Try.pinned (OpenSpec.ofChange Rows.verifyUnsetSpec) :=
  OpenClaim.holds_of_wide 5 Try.f5 rfl rfl rfl rfl rfl rfl rfl ⟨rfl, rfl, rfl, rfl, rfl⟩ rfl rfl rfl rfl rfl (by kernel_rfl) Try.func5 (by kernel_rfl)
    (of_decide_eq_true (by kernel_rfl)) (by unfold Func.isWrapper; first | (rw [if_pos (by decide +kernel)]; kernel_rfl) | (rw [if_neg (by decide +kernel)]; exact ⟨rfl, rfl⟩))
    (fun os started H enc _ => lifted os started H enc)

/-- ████ THE STATEMENT ████ -/
theorem proved : Rows.VerifyUnsetSaid :=
  over
#print axioms proved
end Go.Proofs.Ytaeahjgeoieifaa.verifyUnset
