/- GenLoops: a loop that adds, and a method that calls itself, tell what they must: every input answers true. No condition. -/
import Derived.Test.YtdiiepiflmgdeaaGreatA32
import Derived.Test.YtdiiepiflmgdeaaGreatRGenLoops0
import Derived.Test.YtdiiepiflmgdeaaGreatRGenLoops1
import Derived.Test.YtdiiepiflmgdeaaGreatRGenLoops2
import Derived.Test.YtdiiepiflmgdeaaGreatRGenLoops3
import Derived.Test.YtdiiepiflmgdeaaGreatRGenLoops4
import Derived.Test.YtdiiepiflmgdeaaGreatRGenLoops5
import Derived.Test.YtdiiepiflmgdeaaGreatRGenLoops6
import Derived.Test.YtdiiepiflmgdeaaGreatRGenLoops7
import Derived.Test.YtdiiepiflmgdeaaGreatCGenLoops
import Derived.WalkKit
import Derived.ProofKit
import Derived.OpenShut
namespace Go.Proofs.YtdiiepiflmgdeaaGreat.genLoops
open Go.ChangeShapes Go.WideShapes Go.ChangeAt Go.RowKit Go.Ab Go.Ab.Tryz

theorem own : ownKnob Tryz.prog.godebug = none := by kernel_rfl

theorem small15 (n : Nat) (h : n < 15) : n = 0 ∨ n = 1 ∨ n = 2 ∨ n = 3 ∨ n = 4 ∨ n = 5 ∨ n = 6 ∨ n = 7 ∨ n = 8 ∨ n = 9 ∨ n = 10 ∨ n = 11 ∨ n = 12 ∨ n = 13 ∨ n = 14 := by omega
theorem walk (a0 : Int) (w0 : (Lit.int .u8 a0).wf = true) (w : World) :
    Calls Tryz.prog 5 #[.int .u8 a0] w fun e w' => e = .returned (.bool true) ∧ Below w.heap.size w w' := by
  rcases small15 (a0.toNat % 15) (Nat.mod_lt _ (by omega)) with h0 | h0 | h0 | h0 | h0 | h0 | h0 | h0 | h0 | h0 | h0 | h0 | h0 | h0 | h0
  · exact calls_fO tab2_ok (k := .a (.a .z)) rfl 20000 (args := [.res .u8 15 0]) (relL_cons (rel_u8_of w0 h0) relL_nil) genLoops_0 w
  · exact calls_fO tab2_ok (k := .a (.a .z)) rfl 20000 (args := [.res .u8 15 1]) (relL_cons (rel_u8_of w0 h0) relL_nil) genLoops_1 w
  · exact calls_fO tab2_ok (k := .a (.a .z)) rfl 20000 (args := [.res .u8 15 2]) (relL_cons (rel_u8_of w0 h0) relL_nil) genLoops_2 w
  · exact calls_fO tab2_ok (k := .a (.a .z)) rfl 20000 (args := [.res .u8 15 3]) (relL_cons (rel_u8_of w0 h0) relL_nil) genLoops_3 w
  · exact calls_fO tab2_ok (k := .a (.a .z)) rfl 20000 (args := [.res .u8 15 4]) (relL_cons (rel_u8_of w0 h0) relL_nil) genLoops_4 w
  · exact calls_fO tab2_ok (k := .a (.a .z)) rfl 20000 (args := [.res .u8 15 5]) (relL_cons (rel_u8_of w0 h0) relL_nil) genLoops_5 w
  · exact calls_fO tab2_ok (k := .a (.a .z)) rfl 20000 (args := [.res .u8 15 6]) (relL_cons (rel_u8_of w0 h0) relL_nil) genLoops_6 w
  · exact calls_fO tab2_ok (k := .a (.a .z)) rfl 20000 (args := [.res .u8 15 7]) (relL_cons (rel_u8_of w0 h0) relL_nil) genLoops_7 w
  · exact calls_fO tab2_ok (k := .a (.a .z)) rfl 20000 (args := [.res .u8 15 8]) (relL_cons (rel_u8_of w0 h0) relL_nil) genLoops_8 w
  · exact calls_fO tab2_ok (k := .a (.a .z)) rfl 20000 (args := [.res .u8 15 9]) (relL_cons (rel_u8_of w0 h0) relL_nil) genLoops_9 w
  · exact calls_fO tab2_ok (k := .a (.a .z)) rfl 20000 (args := [.res .u8 15 10]) (relL_cons (rel_u8_of w0 h0) relL_nil) genLoops_10 w
  · exact calls_fO tab2_ok (k := .a (.a .z)) rfl 20000 (args := [.res .u8 15 11]) (relL_cons (rel_u8_of w0 h0) relL_nil) genLoops_11 w
  · exact calls_fO tab2_ok (k := .a (.a .z)) rfl 20000 (args := [.res .u8 15 12]) (relL_cons (rel_u8_of w0 h0) relL_nil) genLoops_12 w
  · exact calls_fO tab2_ok (k := .a (.a .z)) rfl 20000 (args := [.res .u8 15 13]) (relL_cons (rel_u8_of w0 h0) relL_nil) genLoops_13 w
  · exact calls_fO tab2_ok (k := .a (.a .z)) rfl 20000 (args := [.res .u8 15 14]) (relL_cons (rel_u8_of w0 h0) relL_nil) genLoops_14 w

/-! ### THE ROW's STEP: WRITTEN OUT: LEAVE IT -/
set_option maxRecDepth 100000 in
theorem lifted (os : Os) (started : os.Started) (H : Type) (enc : TypeId × Value → H) :
    ReturnsInHanded {} Tryz.checked os 5 .any (Rows.genLoopsSpec.pre6 enc Tryz.prog Tryz.f5 Rows.genLoopsRow.domain false) (Rows.genLoopsSpec.post enc Tryz.prog Tryz.f5 false true false false) := by
  refine returnsInHanded_of_change (C := Tryz.checked) own started (by kernel_rfl) Tryz.func5
    (ChangeSpec.witness6 (enc := enc) (C := Tryz.checked) false ⟨#[], #[.int .u8 0], []⟩ 8 (by kernel_rfl) (by kernel_rfl) (by kernel_rfl) (by kernel_rfl)) ?_
  intro W base args ds gs before hval0 hW hcnd _
  have hval : ∀ (j : Nat) t v, Tryz.f5.params[j]? = some t → args[j]? = some v → Value.okWide Tryz.prog W .any base t v := hval0
  have hW' := hW
  obtain ⟨p, q, hA0, hV, rfl, hfz, hnd⟩ := hW
  have hA : DataW.TrodAll enc Tryz.prog W 0 (fun _ => true) true Tryz.f5.params.toList args.toList ds p := hA0
  rw [Tryz.params5] at hA hval
  obtain ⟨v0, vs0, d0, ds0, p0, q0, hargs, rfl, rfl, h0, r0⟩ := trodAll_cons hA
  obtain ⟨rfl, rfl, rfl⟩ := trodAll_nil r0
  obtain rfl : args = #[v0] := by cases args; simp_all
  obtain ⟨rfl, rfl⟩ := trodVars_none hV
  obtain ⟨a0, rfl, rfl, rfl, w0⟩ := open_int Tryz.underlying5 (hval 0 5 v0 rfl rfl) h0
  clear hA0 hval0
  simp only [List.append_nil] at hW'
  refine (walk a0 w0 W).mono fun e W' ⟨he, hg⟩ => ?_
  subst he
  exact ⟨_, rfl, post_of_below (pa := []) (pv := []) hW' (fun _ _ _ => (trodAll_cons_mk (shut_bool Tryz.underlying4 _) trodAll_mk0)) (fun sp _ => (trodAll_cons_mk (shut_int Tryz.underlying5 w0) trodAll_mk0)) (fun _ _ => rfl) rfl
    hg (ok_one (by kernel_rfl) rfl (okWide_bool_mk Tryz.underlying4 _))⟩

theorem over : Rows.genLoopsRow.holds Tryz.pinned (OpenSpec.ofChange Rows.genLoopsSpec) :=
  OpenClaim.holds_of_wide 5 Tryz.f5 rfl rfl rfl rfl rfl rfl rfl ⟨rfl, rfl, rfl, rfl, rfl⟩ rfl rfl rfl rfl rfl nm Tryz.func5 closed
    inst (by unfold Func.isWrapper; first | (rw [if_pos (by decide +kernel)]; kernel_rfl) | (rw [if_neg (by decide +kernel)]; exact ⟨rfl, rfl⟩))
    (fun os started H enc _ => lifted os started H enc)

/-- ████ THE STATEMENT ████ -/
theorem proved : Rows.GenLoopsSaid :=
  over
#print axioms proved
end Go.Proofs.YtdiiepiflmgdeaaGreat.genLoops
