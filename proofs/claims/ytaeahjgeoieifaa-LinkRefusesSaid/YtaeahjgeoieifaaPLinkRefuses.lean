/- LinkRefuses: what is missing, or stands twice along the ancestors, or has other types, is refused by its own error: every input answers true. No condition. -/
import Derived.Test.YtaeahjgeoieifaaA31
import Derived.Test.YtaeahjgeoieifaaRLinkRefuses0
import Derived.Test.YtaeahjgeoieifaaRows
import Derived.WalkKit
import Derived.ProofKit
import Derived.OpenShut
namespace Go.Proofs.Ytaeahjgeoieifaa.linkRefuses
open Go.ChangeShapes Go.WideShapes Go.ChangeAt Go.RowKit Go.Ab Go.Ab.Try

theorem own : ownKnob Try.prog.godebug = none := by kernel_rfl

theorem small9 (n : Nat) (h : n < 9) : n = 0 ∨ n = 1 ∨ n = 2 ∨ n = 3 ∨ n = 4 ∨ n = 5 ∨ n = 6 ∨ n = 7 ∨ n = 8 := by omega
theorem walk (a0 : Int) (w0 : (Lit.int .u8 a0).wf = true) (w : World) :
    Calls Try.prog 8 #[.int .u8 a0] w fun e w' => e = .returned (.bool true) ∧ Below w.heap.size w w' := by
  rcases small9 (a0.toNat % 9) (Nat.mod_lt _ (by omega)) with h0 | h0 | h0 | h0 | h0 | h0 | h0 | h0 | h0
  · exact calls_ftrue tab2_ok (k := .d (.a .z)) rfl 3000 (args := [.res .u8 9 0]) (relL_cons (rel_u8_of w0 h0) relL_nil) linkRefuses_0 w
  · exact calls_ftrue tab2_ok (k := .d (.a .z)) rfl 3000 (args := [.res .u8 9 1]) (relL_cons (rel_u8_of w0 h0) relL_nil) linkRefuses_1 w
  · exact calls_ftrue tab2_ok (k := .d (.a .z)) rfl 3000 (args := [.res .u8 9 2]) (relL_cons (rel_u8_of w0 h0) relL_nil) linkRefuses_2 w
  · exact calls_ftrue tab2_ok (k := .d (.a .z)) rfl 3000 (args := [.res .u8 9 3]) (relL_cons (rel_u8_of w0 h0) relL_nil) linkRefuses_3 w
  · exact calls_ftrue tab2_ok (k := .d (.a .z)) rfl 3000 (args := [.res .u8 9 4]) (relL_cons (rel_u8_of w0 h0) relL_nil) linkRefuses_4 w
  · exact calls_ftrue tab2_ok (k := .d (.a .z)) rfl 3000 (args := [.res .u8 9 5]) (relL_cons (rel_u8_of w0 h0) relL_nil) linkRefuses_5 w
  · exact calls_ftrue tab2_ok (k := .d (.a .z)) rfl 3000 (args := [.res .u8 9 6]) (relL_cons (rel_u8_of w0 h0) relL_nil) linkRefuses_6 w
  · exact calls_ftrue tab2_ok (k := .d (.a .z)) rfl 3000 (args := [.res .u8 9 7]) (relL_cons (rel_u8_of w0 h0) relL_nil) linkRefuses_7 w
  · exact calls_ftrue tab2_ok (k := .d (.a .z)) rfl 3000 (args := [.res .u8 9 8]) (relL_cons (rel_u8_of w0 h0) relL_nil) linkRefuses_8 w

/-! ### THE ROW's STEP: WRITTEN OUT: LEAVE IT -/
set_option maxRecDepth 100000 in
theorem lifted (os : Os) (started : os.Started) (H : Type) (enc : TypeId × Value → H) :
    ReturnsInHanded {} Try.checked os 8 .any (Rows.linkRefusesSpec.pre6 enc Try.prog Try.f8 Rows.linkRefusesRow.domain false) (Rows.linkRefusesSpec.post enc Try.prog Try.f8 false true false false) := by
  refine returnsInHanded_of_change (C := Try.checked) own started (by kernel_rfl) Try.func8
    (ChangeSpec.witness6 (enc := enc) (C := Try.checked) false ⟨#[], #[.int .u8 0], []⟩ 8 (by kernel_rfl) (by kernel_rfl) (by kernel_rfl) (by kernel_rfl)) ?_
  intro W base args ds gs before hval0 hW hcnd _
  have hval : ∀ (j : Nat) t v, Try.f8.params[j]? = some t → args[j]? = some v → Value.okWide Try.prog W .any base t v := hval0
  have hW' := hW
  obtain ⟨p, q, hA0, hV, rfl, hfz, hnd⟩ := hW
  have hA : DataW.TrodAll enc Try.prog W 0 (fun _ => true) true Try.f8.params.toList args.toList ds p := hA0
  rw [Try.params8] at hA hval
  obtain ⟨v0, vs0, d0, ds0, p0, q0, hargs, rfl, rfl, h0, r0⟩ := trodAll_cons hA
  obtain ⟨rfl, rfl, rfl⟩ := trodAll_nil r0
  obtain rfl : args = #[v0] := by cases args; simp_all
  obtain ⟨rfl, rfl⟩ := trodVars_none hV
  obtain ⟨a0, rfl, rfl, rfl, w0⟩ := open_int Try.underlying5 (hval 0 5 v0 rfl rfl) h0
  clear hA0 hval0
  simp only [List.append_nil] at hW'
  refine (walk a0 w0 W).mono fun e W' ⟨he, hg⟩ => ?_
  subst he
  exact ⟨_, rfl, post_of_below (pa := []) (pv := []) hW' (fun _ _ _ => (trodAll_cons_mk (shut_bool Try.underlying4 _) trodAll_mk0)) (fun sp _ => (trodAll_cons_mk (shut_int Try.underlying5 w0) trodAll_mk0)) (fun _ _ => rfl) rfl
    hg (ok_one (by kernel_rfl) rfl (okWide_bool_mk Try.underlying4 _))⟩

theorem over : Rows.linkRefusesRow.holds Try.pinned (OpenSpec.ofChange Rows.linkRefusesSpec) :=
  OpenClaim.holds_of_wide 8 Try.f8 rfl rfl rfl rfl rfl rfl rfl ⟨rfl, rfl, rfl, rfl, rfl⟩ rfl rfl rfl rfl rfl (by kernel_rfl) Try.func8 (by kernel_rfl)
    (of_decide_eq_true (by kernel_rfl)) (by unfold Func.isWrapper; first | (rw [if_pos (by decide +kernel)]; kernel_rfl) | (rw [if_neg (by decide +kernel)]; exact ⟨rfl, rfl⟩))
    (fun os started H enc _ => lifted os started H enc)

/-- ████ THE STATEMENT ████ -/
theorem proved : Rows.LinkRefusesSaid :=
  over
#print axioms proved
end Go.Proofs.Ytaeahjgeoieifaa.linkRefuses
