/- GenDepth: nineteen calls within the first one are taken, one more is a fault, which is caught where one asks for it: every input answers true. No condition. -/
import Derived.Test.YtdiiepiflmgdeaaGreatA32
import Derived.Test.YtdiiepiflmgdeaaGreatRGenDepth0
import Derived.Test.YtdiiepiflmgdeaaGreatRGenDepth1
import Derived.Test.YtdiiepiflmgdeaaGreatRGenDepth2
import Derived.Test.YtdiiepiflmgdeaaGreatRGenDepth3
import Derived.Test.YtdiiepiflmgdeaaGreatRGenDepth4
import Derived.Test.YtdiiepiflmgdeaaGreatRGenDepth5
import Derived.Test.YtdiiepiflmgdeaaGreatRGenDepth6
import Derived.Test.YtdiiepiflmgdeaaGreatRGenDepth7
import Derived.Test.YtdiiepiflmgdeaaGreatRGenDepth8
import Derived.Test.YtdiiepiflmgdeaaGreatRGenDepth9
import Derived.Test.YtdiiepiflmgdeaaGreatRows
import Derived.WalkKit
import Derived.ProofKit
import Derived.OpenShut
namespace Go.Proofs.YtdiiepiflmgdeaaGreat.genDepth
open Go.ChangeShapes Go.WideShapes Go.ChangeAt Go.RowKit Go.Ab Go.Ab.Tryz

theorem own : ownKnob Tryz.prog.godebug = none := by kernel_rfl

theorem small30 (n : Nat) (h : n < 30) : n = 0 ∨ n = 1 ∨ n = 2 ∨ n = 3 ∨ n = 4 ∨ n = 5 ∨ n = 6 ∨ n = 7 ∨ n = 8 ∨ n = 9 ∨ n = 10 ∨ n = 11 ∨ n = 12 ∨ n = 13 ∨ n = 14 ∨ n = 15 ∨ n = 16 ∨ n = 17 ∨ n = 18 ∨ n = 19 ∨ n = 20 ∨ n = 21 ∨ n = 22 ∨ n = 23 ∨ n = 24 ∨ n = 25 ∨ n = 26 ∨ n = 27 ∨ n = 28 ∨ n = 29 := by omega
theorem walk (a0 : Int) (a1 : Bool) (w0 : (Lit.int .u8 a0).wf = true) (w : World) :
    Calls Tryz.prog 7 #[.int .u8 a0, .bool a1] w fun e w' => e = .returned (.bool true) ∧ Below w.heap.size w w' := by
  rcases small30 (a0.toNat % 30) (Nat.mod_lt _ (by omega)) with h0 | h0 | h0 | h0 | h0 | h0 | h0 | h0 | h0 | h0 | h0 | h0 | h0 | h0 | h0 | h0 | h0 | h0 | h0 | h0 | h0 | h0 | h0 | h0 | h0 | h0 | h0 | h0 | h0 | h0
  · cases a1 with
    | false =>
      exact calls_fO tab2_ok (k := .c (.a .z)) rfl 20000 (args := [.res .u8 30 0, .bool false]) (relL_cons (rel_u8_of w0 h0) (relL_cons (rel_bool_mk) relL_nil)) genDepth_0_f w
    | true =>
      exact calls_fO tab2_ok (k := .c (.a .z)) rfl 20000 (args := [.res .u8 30 0, .bool true]) (relL_cons (rel_u8_of w0 h0) (relL_cons (rel_bool_mk) relL_nil)) genDepth_0_t w
  · cases a1 with
    | false =>
      exact calls_fO tab2_ok (k := .c (.a .z)) rfl 20000 (args := [.res .u8 30 1, .bool false]) (relL_cons (rel_u8_of w0 h0) (relL_cons (rel_bool_mk) relL_nil)) genDepth_1_f w
    | true =>
      exact calls_fO tab2_ok (k := .c (.a .z)) rfl 20000 (args := [.res .u8 30 1, .bool true]) (relL_cons (rel_u8_of w0 h0) (relL_cons (rel_bool_mk) relL_nil)) genDepth_1_t w
  · cases a1 with
    | false =>
      exact calls_fO tab2_ok (k := .c (.a .z)) rfl 20000 (args := [.res .u8 30 2, .bool false]) (relL_cons (rel_u8_of w0 h0) (relL_cons (rel_bool_mk) relL_nil)) genDepth_2_f w
    | true =>
      exact calls_fO tab2_ok (k := .c (.a .z)) rfl 20000 (args := [.res .u8 30 2, .bool true]) (relL_cons (rel_u8_of w0 h0) (relL_cons (rel_bool_mk) relL_nil)) genDepth_2_t w
  · cases a1 with
    | false =>
      exact calls_fO tab2_ok (k := .c (.a .z)) rfl 20000 (args := [.res .u8 30 3, .bool false]) (relL_cons (rel_u8_of w0 h0) (relL_cons (rel_bool_mk) relL_nil)) genDepth_3_f w
    | true =>
      exact calls_fO tab2_ok (k := .c (.a .z)) rfl 20000 (args := [.res .u8 30 3, .bool true]) (relL_cons (rel_u8_of w0 h0) (relL_cons (rel_bool_mk) relL_nil)) genDepth_3_t w
  · cases a1 with
    | false =>
      exact calls_fO tab2_ok (k := .c (.a .z)) rfl 20000 (args := [.res .u8 30 4, .bool false]) (relL_cons (rel_u8_of w0 h0) (relL_cons (rel_bool_mk) relL_nil)) genDepth_4_f w
    | true =>
      exact calls_fO tab2_ok (k := .c (.a .z)) rfl 20000 (args := [.res .u8 30 4, .bool true]) (relL_cons (rel_u8_of w0 h0) (relL_cons (rel_bool_mk) relL_nil)) genDepth_4_t w
  · cases a1 with
    | false =>
      exact calls_fO tab2_ok (k := .c (.a .z)) rfl 20000 (args := [.res .u8 30 5, .bool false]) (relL_cons (rel_u8_of w0 h0) (relL_cons (rel_bool_mk) relL_nil)) genDepth_5_f w
    | true =>
      exact calls_fO tab2_ok (k := .c (.a .z)) rfl 20000 (args := [.res .u8 30 5, .bool true]) (relL_cons (rel_u8_of w0 h0) (relL_cons (rel_bool_mk) relL_nil)) genDepth_5_t w
  · cases a1 with
    | false =>
      exact calls_fO tab2_ok (k := .c (.a .z)) rfl 20000 (args := [.res .u8 30 6, .bool false]) (relL_cons (rel_u8_of w0 h0) (relL_cons (rel_bool_mk) relL_nil)) genDepth_6_f w
    | true =>
      exact calls_fO tab2_ok (k := .c (.a .z)) rfl 20000 (args := [.res .u8 30 6, .bool true]) (relL_cons (rel_u8_of w0 h0) (relL_cons (rel_bool_mk) relL_nil)) genDepth_6_t w
  · cases a1 with
    | false =>
      exact calls_fO tab2_ok (k := .c (.a .z)) rfl 20000 (args := [.res .u8 30 7, .bool false]) (relL_cons (rel_u8_of w0 h0) (relL_cons (rel_bool_mk) relL_nil)) genDepth_7_f w
    | true =>
      exact calls_fO tab2_ok (k := .c (.a .z)) rfl 20000 (args := [.res .u8 30 7, .bool true]) (relL_cons (rel_u8_of w0 h0) (relL_cons (rel_bool_mk) relL_nil)) genDepth_7_t w
  · cases a1 with
    | false =>
      exact calls_fO tab2_ok (k := .c (.a .z)) rfl 20000 (args := [.res .u8 30 8, .bool false]) (relL_cons (rel_u8_of w0 h0) (relL_cons (rel_bool_mk) relL_nil)) genDepth_8_f w
    | true =>
      exact calls_fO tab2_ok (k := .c (.a .z)) rfl 20000 (args := [.res .u8 30 8, .bool true]) (relL_cons (rel_u8_of w0 h0) (relL_cons (rel_bool_mk) relL_nil)) genDepth_8_t w
  · cases a1 with
    | false =>
      exact calls_fO tab2_ok (k := .c (.a .z)) rfl 20000 (args := [.res .u8 30 9, .bool false]) (relL_cons (rel_u8_of w0 h0) (relL_cons (rel_bool_mk) relL_nil)) genDepth_9_f w
    | true =>
      exact calls_fO tab2_ok (k := .c (.a .z)) rfl 20000 (args := [.res .u8 30 9, .bool true]) (relL_cons (rel_u8_of w0 h0) (relL_cons (rel_bool_mk) relL_nil)) genDepth_9_t w
  · cases a1 with
    | false =>
      exact calls_fO tab2_ok (k := .c (.a .z)) rfl 20000 (args := [.res .u8 30 10, .bool false]) (relL_cons (rel_u8_of w0 h0) (relL_cons (rel_bool_mk) relL_nil)) genDepth_10_f w
    | true =>
      exact calls_fO tab2_ok (k := .c (.a .z)) rfl 20000 (args := [.res .u8 30 10, .bool true]) (relL_cons (rel_u8_of w0 h0) (relL_cons (rel_bool_mk) relL_nil)) genDepth_10_t w
  · cases a1 with
    | false =>
      exact calls_fO tab2_ok (k := .c (.a .z)) rfl 20000 (args := [.res .u8 30 11, .bool false]) (relL_cons (rel_u8_of w0 h0) (relL_cons (rel_bool_mk) relL_nil)) genDepth_11_f w
    | true =>
      exact calls_fO tab2_ok (k := .c (.a .z)) rfl 20000 (args := [.res .u8 30 11, .bool true]) (relL_cons (rel_u8_of w0 h0) (relL_cons (rel_bool_mk) relL_nil)) genDepth_11_t w
  · cases a1 with
    | false =>
      exact calls_fO tab2_ok (k := .c (.a .z)) rfl 20000 (args := [.res .u8 30 12, .bool false]) (relL_cons (rel_u8_of w0 h0) (relL_cons (rel_bool_mk) relL_nil)) genDepth_12_f w
    | true =>
      exact calls_fO tab2_ok (k := .c (.a .z)) rfl 20000 (args := [.res .u8 30 12, .bool true]) (relL_cons (rel_u8_of w0 h0) (relL_cons (rel_bool_mk) relL_nil)) genDepth_12_t w
  · cases a1 with
    | false =>
      exact calls_fO tab2_ok (k := .c (.a .z)) rfl 20000 (args := [.res .u8 30 13, .bool false]) (relL_cons (rel_u8_of w0 h0) (relL_cons (rel_bool_mk) relL_nil)) genDepth_13_f w
    | true =>
      exact calls_fO tab2_ok (k := .c (.a .z)) rfl 20000 (args := [.res .u8 30 13, .bool true]) (relL_cons (rel_u8_of w0 h0) (relL_cons (rel_bool_mk) relL_nil)) genDepth_13_t w
  · cases a1 with
    | false =>
      exact calls_fO tab2_ok (k := .c (.a .z)) rfl 20000 (args := [.res .u8 30 14, .bool false]) (relL_cons (rel_u8_of w0 h0) (relL_cons (rel_bool_mk) relL_nil)) genDepth_14_f w
    | true =>
      exact calls_fO tab2_ok (k := .c (.a .z)) rfl 20000 (args := [.res .u8 30 14, .bool true]) (relL_cons (rel_u8_of w0 h0) (relL_cons (rel_bool_mk) relL_nil)) genDepth_14_t w
  · cases a1 with
    | false =>
      exact calls_fO tab2_ok (k := .c (.a .z)) rfl 20000 (args := [.res .u8 30 15, .bool false]) (relL_cons (rel_u8_of w0 h0) (relL_cons (rel_bool_mk) relL_nil)) genDepth_15_f w
    | true =>
      exact calls_fO tab2_ok (k := .c (.a .z)) rfl 20000 (args := [.res .u8 30 15, .bool true]) (relL_cons (rel_u8_of w0 h0) (relL_cons (rel_bool_mk) relL_nil)) genDepth_15_t w
  · cases a1 with
    | false =>
      exact calls_fO tab2_ok (k := .c (.a .z)) rfl 20000 (args := [.res .u8 30 16, .bool false]) (relL_cons (rel_u8_of w0 h0) (relL_cons (rel_bool_mk) relL_nil)) genDepth_16_f w
    | true =>
      exact calls_fO tab2_ok (k := .c (.a .z)) rfl 20000 (args := [.res .u8 30 16, .bool true]) (relL_cons (rel_u8_of w0 h0) (relL_cons (rel_bool_mk) relL_nil)) genDepth_16_t w
  · cases a1 with
    | false =>
      exact calls_fO tab2_ok (k := .c (.a .z)) rfl 20000 (args := [.res .u8 30 17, .bool false]) (relL_cons (rel_u8_of w0 h0) (relL_cons (rel_bool_mk) relL_nil)) genDepth_17_f w
    | true =>
      exact calls_fO tab2_ok (k := .c (.a .z)) rfl 20000 (args := [.res .u8 30 17, .bool true]) (relL_cons (rel_u8_of w0 h0) (relL_cons (rel_bool_mk) relL_nil)) genDepth_17_t w
  · cases a1 with
    | false =>
      exact calls_fO tab2_ok (k := .c (.a .z)) rfl 20000 (args := [.res .u8 30 18, .bool false]) (relL_cons (rel_u8_of w0 h0) (relL_cons (rel_bool_mk) relL_nil)) genDepth_18_f w
    | true =>
      exact calls_fO tab2_ok (k := .c (.a .z)) rfl 20000 (args := [.res .u8 30 18, .bool true]) (relL_cons (rel_u8_of w0 h0) (relL_cons (rel_bool_mk) relL_nil)) genDepth_18_t w
  · cases a1 with
    | false =>
      exact calls_fO tab2_ok (k := .c (.a .z)) rfl 20000 (args := [.res .u8 30 19, .bool false]) (relL_cons (rel_u8_of w0 h0) (relL_cons (rel_bool_mk) relL_nil)) genDepth_19_f w
    | true =>
      exact calls_fO tab2_ok (k := .c (.a .z)) rfl 20000 (args := [.res .u8 30 19, .bool true]) (relL_cons (rel_u8_of w0 h0) (relL_cons (rel_bool_mk) relL_nil)) genDepth_19_t w
  · cases a1 with
    | false =>
      exact calls_fO tab2_ok (k := .c (.a .z)) rfl 20000 (args := [.res .u8 30 20, .bool false]) (relL_cons (rel_u8_of w0 h0) (relL_cons (rel_bool_mk) relL_nil)) genDepth_20_f w
    | true =>
      exact calls_fO tab2_ok (k := .c (.a .z)) rfl 20000 (args := [.res .u8 30 20, .bool true]) (relL_cons (rel_u8_of w0 h0) (relL_cons (rel_bool_mk) relL_nil)) genDepth_20_t w
  · cases a1 with
    | false =>
      exact calls_fO tab2_ok (k := .c (.a .z)) rfl 20000 (args := [.res .u8 30 21, .bool false]) (relL_cons (rel_u8_of w0 h0) (relL_cons (rel_bool_mk) relL_nil)) genDepth_21_f w
    | true =>
      exact calls_fO tab2_ok (k := .c (.a .z)) rfl 20000 (args := [.res .u8 30 21, .bool true]) (relL_cons (rel_u8_of w0 h0) (relL_cons (rel_bool_mk) relL_nil)) genDepth_21_t w
  · cases a1 with
    | false =>
      exact calls_fO tab2_ok (k := .c (.a .z)) rfl 20000 (args := [.res .u8 30 22, .bool false]) (relL_cons (rel_u8_of w0 h0) (relL_cons (rel_bool_mk) relL_nil)) genDepth_22_f w
    | true =>
      exact calls_fO tab2_ok (k := .c (.a .z)) rfl 20000 (args := [.res .u8 30 22, .bool true]) (relL_cons (rel_u8_of w0 h0) (relL_cons (rel_bool_mk) relL_nil)) genDepth_22_t w
  · cases a1 with
    | false =>
      exact calls_fO tab2_ok (k := .c (.a .z)) rfl 20000 (args := [.res .u8 30 23, .bool false]) (relL_cons (rel_u8_of w0 h0) (relL_cons (rel_bool_mk) relL_nil)) genDepth_23_f w
    | true =>
      exact calls_fO tab2_ok (k := .c (.a .z)) rfl 20000 (args := [.res .u8 30 23, .bool true]) (relL_cons (rel_u8_of w0 h0) (relL_cons (rel_bool_mk) relL_nil)) genDepth_23_t w
  · cases a1 with
    | false =>
      exact calls_fO tab2_ok (k := .c (.a .z)) rfl 20000 (args := [.res .u8 30 24, .bool false]) (relL_cons (rel_u8_of w0 h0) (relL_cons (rel_bool_mk) relL_nil)) genDepth_24_f w
    | true =>
      exact calls_fO tab2_ok (k := .c (.a .z)) rfl 20000 (args := [.res .u8 30 24, .bool true]) (relL_cons (rel_u8_of w0 h0) (relL_cons (rel_bool_mk) relL_nil)) genDepth_24_t w
  · cases a1 with
    | false =>
      exact calls_fO tab2_ok (k := .c (.a .z)) rfl 20000 (args := [.res .u8 30 25, .bool false]) (relL_cons (rel_u8_of w0 h0) (relL_cons (rel_bool_mk) relL_nil)) genDepth_25_f w
    | true =>
      exact calls_fO tab2_ok (k := .c (.a .z)) rfl 20000 (args := [.res .u8 30 25, .bool true]) (relL_cons (rel_u8_of w0 h0) (relL_cons (rel_bool_mk) relL_nil)) genDepth_25_t w
  · cases a1 with
    | false =>
      exact calls_fO tab2_ok (k := .c (.a .z)) rfl 20000 (args := [.res .u8 30 26, .bool false]) (relL_cons (rel_u8_of w0 h0) (relL_cons (rel_bool_mk) relL_nil)) genDepth_26_f w
    | true =>
      exact calls_fO tab2_ok (k := .c (.a .z)) rfl 20000 (args := [.res .u8 30 26, .bool true]) (relL_cons (rel_u8_of w0 h0) (relL_cons (rel_bool_mk) relL_nil)) genDepth_26_t w
  · cases a1 with
    | false =>
      exact calls_fO tab2_ok (k := .c (.a .z)) rfl 20000 (args := [.res .u8 30 27, .bool false]) (relL_cons (rel_u8_of w0 h0) (relL_cons (rel_bool_mk) relL_nil)) genDepth_27_f w
    | true =>
      exact calls_fO tab2_ok (k := .c (.a .z)) rfl 20000 (args := [.res .u8 30 27, .bool true]) (relL_cons (rel_u8_of w0 h0) (relL_cons (rel_bool_mk) relL_nil)) genDepth_27_t w
  · cases a1 with
    | false =>
      exact calls_fO tab2_ok (k := .c (.a .z)) rfl 20000 (args := [.res .u8 30 28, .bool false]) (relL_cons (rel_u8_of w0 h0) (relL_cons (rel_bool_mk) relL_nil)) genDepth_28_f w
    | true =>
      exact calls_fO tab2_ok (k := .c (.a .z)) rfl 20000 (args := [.res .u8 30 28, .bool true]) (relL_cons (rel_u8_of w0 h0) (relL_cons (rel_bool_mk) relL_nil)) genDepth_28_t w
  · cases a1 with
    | false =>
      exact calls_fO tab2_ok (k := .c (.a .z)) rfl 20000 (args := [.res .u8 30 29, .bool false]) (relL_cons (rel_u8_of w0 h0) (relL_cons (rel_bool_mk) relL_nil)) genDepth_29_f w
    | true =>
      exact calls_fO tab2_ok (k := .c (.a .z)) rfl 20000 (args := [.res .u8 30 29, .bool true]) (relL_cons (rel_u8_of w0 h0) (relL_cons (rel_bool_mk) relL_nil)) genDepth_29_t w

/-! ### THE ROW's STEP: WRITTEN OUT: LEAVE IT -/
set_option maxRecDepth 100000 in
theorem lifted (os : Os) (started : os.Started) (H : Type) (enc : TypeId × Value → H) :
    ReturnsInHanded {} Tryz.checked os 7 .any (Rows.genDepthSpec.pre6 enc Tryz.prog Tryz.f7 Rows.genDepthRow.domain false) (Rows.genDepthSpec.post enc Tryz.prog Tryz.f7 false true false false) := by
  refine returnsInHanded_of_change (C := Tryz.checked) own started (by kernel_rfl) Tryz.func7
    (ChangeSpec.witness6 (enc := enc) (C := Tryz.checked) false ⟨#[], #[.int .u8 0, .bool false], []⟩ 8 (by kernel_rfl) (by kernel_rfl) (by kernel_rfl) (by kernel_rfl)) ?_
  intro W base args ds gs before hval0 hW hcnd _
  have hval : ∀ (j : Nat) t v, Tryz.f7.params[j]? = some t → args[j]? = some v → Value.okWide Tryz.prog W .any base t v := hval0
  have hW' := hW
  obtain ⟨p, q, hA0, hV, rfl, hfz, hnd⟩ := hW
  have hA : DataW.TrodAll enc Tryz.prog W 0 (fun _ => true) true Tryz.f7.params.toList args.toList ds p := hA0
  rw [Tryz.params7] at hA hval
  obtain ⟨v0, vs0, d0, ds0, p0, q0, hargs, rfl, rfl, h0, r0⟩ := trodAll_cons hA
  obtain ⟨v1, vs1, d1, ds1, p1, q1, rfl, rfl, rfl, h1, r1⟩ := trodAll_cons r0
  obtain ⟨rfl, rfl, rfl⟩ := trodAll_nil r1
  obtain rfl : args = #[v0, v1] := by cases args; simp_all
  obtain ⟨rfl, rfl⟩ := trodVars_none hV
  obtain ⟨a0, rfl, rfl, rfl, w0⟩ := open_int Tryz.underlying5 (hval 0 5 v0 rfl rfl) h0
  obtain ⟨a1, rfl, rfl, rfl⟩ := open_bool Tryz.underlying4 (hval 1 4 v1 rfl rfl) h1
  clear hA0 hval0
  simp only [List.append_nil] at hW'
  refine (walk a0 a1 w0 W).mono fun e W' ⟨he, hg⟩ => ?_
  subst he
  exact ⟨_, rfl, post_of_below (pa := []) (pv := []) hW' (fun _ _ _ => (trodAll_cons_mk (shut_bool Tryz.underlying4 _) trodAll_mk0)) (fun sp _ => (trodAll_cons_mk (shut_int Tryz.underlying5 w0) (trodAll_cons_mk (shut_bool Tryz.underlying4 _) trodAll_mk0))) (fun _ _ => rfl) rfl
    hg (ok_one (by kernel_rfl) rfl (okWide_bool_mk Tryz.underlying4 _))⟩

theorem over : Rows.genDepthRow.holds Tryz.pinned (OpenSpec.ofChange Rows.genDepthSpec) :=
  OpenClaim.holds_of_wide 7 Tryz.f7 rfl rfl rfl rfl rfl rfl rfl ⟨rfl, rfl, rfl, rfl, rfl⟩ rfl rfl rfl rfl rfl (by kernel_rfl) Tryz.func7 (by kernel_rfl)
    (of_decide_eq_true (by kernel_rfl)) (by unfold Func.isWrapper; first | (rw [if_pos (by decide +kernel)]; kernel_rfl) | (rw [if_neg (by decide +kernel)]; exact ⟨rfl, rfl⟩))
    (fun os started H enc _ => lifted os started H enc)

/-- ████ THE STATEMENT ████ -/
theorem proved : Rows.GenDepthSaid :=
  over
#print axioms proved
end Go.Proofs.YtdiiepiflmgdeaaGreat.genDepth
