/- Arguments of a run. -/
import Derived.Test.YtdiiepiflmgdeaaGreatA29
import Derived.OpenShut
namespace Go.Ab
theorem relL_nil {m : M} : RelL m [] [] := by simp only [RelL]
theorem relL_cons {m : M} {x : AV} {v : Value} {l : List AV} {ws : List Value} (h : Rel m x v) (hs : RelL m l ws) : RelL m (x :: l) (v :: ws) := by
  simp only [RelL]
  exact ⟨v, ws, rfl, h, hs⟩
theorem rel_bool_mk {m : M} {b : Bool} : Rel m (.bool b) (.bool b) := by simp only [Rel]
theorem rel_u8_res {m : M} {n : Int} (q : Nat) (w : (Lit.int .u8 n).wf = true) : Rel m (.res .u8 q (n.toNat % q)) (.int .u8 n) := by
  have h := (bounds_u8 w).1
  simp only [Rel]
  exact ⟨n.toNat, by rw [Int.ofNat_eq_natCast, Int.toNat_of_nonneg h], rfl⟩
theorem rel_u8_of {m : M} {n : Int} {q r : Nat} (w : (Lit.int .u8 n).wf = true) (h : n.toNat % q = r) : Rel m (.res .u8 q r) (.int .u8 n) := h ▸ rel_u8_res q w
theorem rel_u8_one {m : M} {n : Int} (w : (Lit.int .u8 n).wf = true) : Rel m (.res .u8 1 0) (.int .u8 n) := rel_u8_of w (Nat.mod_one _)
end Go.Ab
