/- A table's soundness, entry by entry; what a row's end asks. -/
import Derived.Test.YtdiiepiflmgdeaaGreatA25
import Derived.ChangeSame
namespace Go.Ab
open Go.RowKit (Below)

def chkFn (P : Program) (F : Func) (x : AFunc) : Bool :=
  match F.body with
  | none => false
  | some c => !(F.name == "runtime.NumGoroutine") && (chkCode P F.ntmps (chkDraw P F.ntmps) c x.body && chkRes P F.ntmps F.results.toList x.res)

theorem fnOk_of {P : Program} {k : K} {F : Func} {x : AFunc} (hf : P.funcs[k.num]? = some F) (h : chkFn P F x = true) : FnOk P (cdk P) k x := by
  unfold chkFn at h
  split at h
  · cases h
  · rename_i c hc
    simp only [Bool.and_eq_true, Bool.not_eq_true'] at h
    exact ⟨F, c, hf, hc, h.1, h.2.1, h.2.2⟩

def AllT {α : Type} (p : K → α → Prop) : T α → Prop
  | .leaf => True
  | .node v a b c d => (∀ x, v = some x → p .z x) ∧ AllT (fun k => p (.a k)) a ∧ AllT (fun k => p (.b k)) b ∧ AllT (fun k => p (.c k)) c ∧ AllT (fun k => p (.d k)) d
theorem AllT.get {α : Type} {x : α} : ∀ {t : T α} {p : K → α → Prop} {k : K}, AllT p t → t.get k = some x → p k x
  | .leaf, p, k, _, h => by rw [T.get_leaf'] at h; cases h
  | .node v a b c d, p, k, h, hg => by
    obtain ⟨h0, h1, h2, h3, h4⟩ := h
    cases k with
    | z => exact h0 x hg
    | a k => exact AllT.get (p := fun k => p (.a k)) h1 hg
    | b k => exact AllT.get (p := fun k => p (.b k)) h2 hg
    | c k => exact AllT.get (p := fun k => p (.c k)) h3 hg
    | d k => exact AllT.get (p := fun k => p (.d k)) h4 hg
end Go.Ab
